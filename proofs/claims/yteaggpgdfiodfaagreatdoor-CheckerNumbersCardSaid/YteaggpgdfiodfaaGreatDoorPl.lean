/-
  Texts of digits: their values. Conditions: each lemma's premises.
-/
import Derived.Test.YteaggpgdfiodfaaGreatDoorRd
import Derived.Laws.RangeString
import Derived.Lib.SmallJoins
namespace Go.Proofs.YteaggpgdfiodfaaGreatDoor
set_option linter.all false
open Go.RowKit

def decF (a : Nat) (b : UInt8) : Nat := a * 10 + (b.toNat - 48)
def decL (l : List UInt8) : Nat := l.foldl decF 0
def allDig (l : List UInt8) : Prop := ∀ b ∈ l, 48 ≤ b.toNat ∧ b.toNat ≤ 57
theorem foldl_dec : ∀ (l : List UInt8) (a : Nat), l.foldl decF a = a * 10 ^ l.length + decL l := by
  intro l
  induction l with
  | nil => intro a; simp [decL]
  | cons b r ih =>
    intro a
    have h0 : decL (b :: r) = r.foldl decF (decF 0 b) := rfl
    rw [List.foldl_cons, ih, h0, ih, List.length_cons, Nat.pow_succ]
    have h1 : decF a b = a * 10 + (b.toNat - 48) := rfl
    have h2 : decF 0 b = b.toNat - 48 := by show 0 * 10 + (b.toNat - 48) = _; omega
    rw [h1, h2, Nat.add_mul, Nat.mul_assoc, Nat.mul_comm 10, Nat.add_assoc]
theorem decL_append (a b : List UInt8) : decL (a ++ b) = decL a * 10 ^ b.length + decL b := by
  show (a ++ b).foldl decF 0 = _
  rw [List.foldl_append, foldl_dec]; rfl
theorem allDig.sub {l m : List UInt8} (h : allDig l) (hs : ∀ b ∈ m, b ∈ l) : allDig m := fun b hb => h b (hs b hb)
theorem decL_lt : ∀ {l : List UInt8}, allDig l → decL l < 10 ^ l.length := by
  intro l
  induction l with
  | nil => intro _; simp [decL]
  | cons b r ih =>
    intro h
    have h1 := ih (h.sub fun x hx => List.mem_cons_of_mem _ hx)
    have h2 := h b List.mem_cons_self
    have h3 : decL (b :: r) = (b.toNat - 48) * 10 ^ r.length + decL r := by
      show r.foldl decF (decF 0 b) = _
      rw [foldl_dec]
      congr 2
      show 0 * 10 + (b.toNat - 48) = _; omega
    rw [h3, List.length_cons, Nat.pow_succ]
    have h4 : (b.toNat - 48) * 10 ^ r.length ≤ 9 * 10 ^ r.length := Nat.mul_le_mul_right _ (by omega)
    omega
theorem parseM_ok : ∀ {l : List UInt8} {a : Nat}, allDig l → (a + 1) * 10 ^ l.length ≤ 1000000000 → Lib.parseUintM (2 ^ 32 - 1) a l = .ok (l.foldl decF a) := by
  intro l
  induction l with
  | nil => intro a _ _; rfl
  | cons b r ih =>
    intro a h hb
    have h2 := h b List.mem_cons_self
    rw [List.length_cons, Nat.pow_succ] at hb
    have hp : 1 ≤ 10 ^ r.length := Nat.one_le_pow _ _ (by decide)
    have h3 : (a + 1) * 10 ≤ (a + 1) * (10 ^ r.length * 10) := Nat.mul_le_mul_left _ (by omega)
    have h5 : (decF a b + 1) * 10 ^ r.length ≤ (a + 1) * (10 ^ r.length * 10) := by
      rw [Nat.mul_comm (10 ^ r.length) 10, ← Nat.mul_assoc]
      refine Nat.mul_le_mul_right _ ?_
      show a * 10 + (b.toNat - 48) + 1 ≤ _
      omega
    unfold Lib.parseUintM
    rw [if_pos h2, if_neg (by omega), if_neg (by omega)]
    exact ih (h.sub fun x hx => List.mem_cons_of_mem _ hx) (by show (decF a b + 1) * _ ≤ _; omega)
theorem parseB_ok {l : List UInt8} (h : allDig l) (h0 : l ≠ []) (h9 : l.length ≤ 9) : Lib.parseUintB 32 l = .ok (decL l) := by
  unfold Lib.parseUintB
  rw [if_neg h0]
  refine parseM_ok h ?_
  have : 10 ^ l.length ≤ 10 ^ 9 := Nat.pow_le_pow_right (by decide) h9
  omega
/-- digits are no other runes -/
def notDig (r : Nat) : Bool := decide (r < 48) || decide (57 < r)
theorem notDig_none {s : ByteArray} (h : allDig s.data.toList) : Lib.idxFunc notDig true s = -1 := by
  have key : ∀ (f pos : Nat), Lib.idxFuncFrom notDig true s f pos = -1 := by
    intro f
    induction f with
    | zero => intro pos; rfl
    | succ f ih =>
      intro pos
      unfold Lib.idxFuncFrom
      split
      · rename_i hp
        have hm : s[pos]'hp ∈ s.data.toList := by
          show s.data[pos] ∈ s.data.toList
          simp
        have hd := h _ hm
        rw [decode_ascii s pos hp (by omega)]
        rw [if_neg (by unfold notDig; simp; omega)]
        exact ih _
      · rfl
  exact key _ _

theorem parse1_spec (w : World) (r : Int) : Calls Tryz.prog 110 #[.int .i32 r] w (fun e w' => e = .returned (.bool (decide (r < 48) || decide (57 < r))) ∧ ∃ q, w' = w.drewN q) := by
  by_cases h1 : r < 48
  · have e1 : decide (r < 48) = true := by simp [h1]
    go_enter Tryz.func110, Tryz.ntmps110
    go_wp2_with fail
    go_ret
    exact ⟨by simp [h1], 0, rfl⟩
  · have e1 : decide (r < 48) = false := by simp [h1]
    go_enter Tryz.func110, Tryz.ntmps110
    go_wp2_with fail
    go_ret
    exact ⟨by simp, 0, rfl⟩
theorem contains_spec (w : World) (s : ByteArray) (h : allDig s.data.toList) : Calls Tryz.prog 109 #[.string s, .func (.func 110) #[] #[]] w (fun e w' => e = .returned (.bool false) ∧ Ext w w') := by
  have h1 := Tryz.strings_ContainsFunc 110 #[] (enters_of Tryz.func110 (by kernel_rfl) rfl) notDig s w (fun W x _ => by
    refine (parse1_spec W (x : Int)).mono ?_
    rintro e w' ⟨h2, h3⟩
    refine ⟨?_, h3⟩
    rw [h2]
    congr 2
    unfold notDig
    congr 1 <;> (congr 1; simp; omega))
  refine h1.mono ?_
  rintro e w' ⟨h2, h3⟩
  rw [notDig_none h] at h2
  exact ⟨h2, h3⟩
/-- two cells of a block -/
structure Two (w : World) (g : Nat) (x y : Value) : Prop where
  c0 : w.cell? ⟨g, 0, none⟩ = some x
  f0 : w.frozen? ⟨g, 0, none⟩ = false
  c1 : ∀ u, (w.setCell ⟨g, 0, none⟩ u).cell? ⟨g, 1, none⟩ = some y
  f1 : ∀ u, (w.setCell ⟨g, 0, none⟩ u).frozen? ⟨g, 1, none⟩ = false
  r0 : ∀ u v, ((w.setCell ⟨g, 0, none⟩ u).setCell ⟨g, 1, none⟩ v).cell? ⟨g, 0, none⟩ = some u
  r1 : ∀ u v, ((w.setCell ⟨g, 0, none⟩ u).setCell ⟨g, 1, none⟩ v).cell? ⟨g, 1, none⟩ = some v
theorem Blk.two {w : World} {g T : Nat} {x y : Value} (h : Blk w g T #[x, y]) : Two w g x y := by
  have hs : ∀ u, Blk (w.setCell ⟨g, 0, none⟩ u) g T #[u, y] := fun u => by
    have := Blk.set (i := 0) (v := u) h
    simpa using this
  have hs2 : ∀ u v, Blk ((w.setCell ⟨g, 0, none⟩ u).setCell ⟨g, 1, none⟩ v) g T #[u, v] := fun u v => by
    have := Blk.set (i := 1) (v := v) (hs u)
    simpa using this
  have cell : ∀ {w : World} {a b : Value}, Blk w g T #[a, b] → w.cell? ⟨g, 0, none⟩ = some a ∧ w.cell? ⟨g, 1, none⟩ = some b := fun {w a b} hb => by
    have h3 := hb.cells 0 2
    exact ⟨by simpa [Addr.add] using h3 0 a (by simp), by simpa [Addr.add] using h3 1 b (by simp)⟩
  exact ⟨(cell h).1, Blk.free h, fun u => (cell (hs u)).2, fun u => Blk.free (hs u), fun u v => (cell (hs2 u v)).1, fun u v => (cell (hs2 u v)).2⟩
theorem results_ct {P : Program} {fn : Func} {x T t : Nat} (h : fn.results = #[.cell x T, .tmp t]) {tmps : Array Value} {w : World} {ad : Addr} {v u : Value} (hx : tmps[x]? = some (.pointer (some ad))) (hl : (loadVar T ad).run P w = .ok v w) (ht : tmps[t]? = some u) :
    (results fn tmps).run P w = .ok (.tuple #[v, u]) w := by
  simp [results, h, hx, asAddr, hl, ht]
/-- the end of a function with an integer, and an error -/
theorem end_int {fn : Func} {R : Ending → World → Prop} {x t g : Nat} (h : fn.results = #[.cell x 27, .tmp t]) {a : Act} {w : World} {u v z : Value} (hd : a.defers = []) (hx : a.tmps[x]? = some (.pointer (some ⟨g, 0, none⟩))) (ht : a.tmps[t]? = some z)
    (h0 : w.cell? ⟨g, 0, none⟩ = some u) (h1 : w.cell? ⟨g, 1, none⟩ = some v) (hR : R (.returned (.tuple #[.agg #[u, v], z])) w) : bodyPost Tryz.prog fn R .ret a w := by
  refine ⟨hd, _, results_ct h hx (run_load_agg (l := [u, v]) ty_agg_int ?_) ht, hR⟩
  intro j y hj
  match j with
  | 0 => simp at hj; subst hj; simpa [Addr.add] using h0
  | 1 => simp at hj; subst hj; simpa [Addr.add] using h1
  | _ + 2 => simp at hj
theorem parse_bad (w : World) (s D : ByteArray) (neg : Bool) (hcp : Lib.trimPrefix s.data.toList [45] = D.data.toList) (hneg : Lib.hasPrefix s.data.toList [45] = neg) (hs : s.size ≤ 1000) (hD : 0 < D.size) (hD2 : D.size ≤ 1000) (hdig : allDig D.data.toList)
    (h48 : (D[0]'hD).toNat = 48) (hbad : 1 < D.size ∨ neg = true) : Calls Tryz.prog 58 #[.string s] w (fun e w' => Ext w w' ∧ e = .returned (.tuple #[.agg #[.bool false, .slice none 0 0], .int .i64 3])) := by
  have e0 : (⟨(Lib.trimPrefix s.data.toList [45]).toArray⟩ : ByteArray) = D := by rw [hcp]
  have e1 : D.toList.isEmpty = false := by
    rw [ByteArray.toList_eq]
    cases hl : D.data.toList with
    | nil => rw [Lib.size_eq, hl] at hD; simp at hD
    | cons => rfl
  have c1 : (s.size : Int) ≤ 65536 := by omega
  clear hcp
  go_enter Tryz.func58, Tryz.ntmps58
  go_wp2_with (first | (go_at_call 108; refine (Tryz.strings_CutPrefix s ⟨#[45]⟩ _).mono ?_; rintro e w' ⟨rfl, rfl⟩; rw [show (⟨(Lib.trimPrefix s.data.toList [45]).toArray⟩ : ByteArray) = D from e0, show Lib.hasPrefix s.data.toList [45] = neg from hneg]) | (go_at_call 109; refine (contains_spec _ D hdig).mono ?_; rintro e w' ⟨rfl, hx⟩; obtain ⟨k0, k1, k2, k3, k4, k5⟩ := ((Blk.new w 27 #[.bool false, .slice none 0 0]).ext hx).two; have m2 := k2 (.bool false); have m3 := k3 (.bool false); have m4 := k4 (.bool false) (.slice none 0 0); have m5 := k5 (.bool false) (.slice none 0 0)))
  · refine end_int rfl rfl rfl rfl m4 m5 ?_
    exact ⟨Below.setCell (Below.setCell (Ext.trans (Ext.alloc w _) hx) (Nat.le_refl _) _) (Nat.le_refl _) _, rfl⟩
  · exfalso
    rcases hbad with h | h
    · omega
    · have h1 : (D.size : Int) ≤ 1 ∧ neg = false := by assumption
      rw [h] at h1
      cases h1.2
  · refine end_int rfl rfl rfl rfl m4 m5 ?_
    exact ⟨Below.setCell (Below.setCell (Ext.trans (Ext.alloc w _) hx) (Nat.le_refl _) _) (Nat.le_refl _) _, rfl⟩


def sizeS : Value → Nat
  | .string b => b.size
  | _ => 0
theorem parse_uint (s : ByteArray) (w : World) (h : allDig s.data.toList) (h0 : 0 < s.size) (h9 : s.size ≤ 9) : Calls Tryz.prog 111 #[.string s, .int .i64 10, .int .i64 32] w fun e w' => e = .returned (.tuple #[.int .u64 (decL s.data.toList : Nat), .nilIface]) ∧ Ext w w' := by
  refine (Tryz.strconv_ParseUint_10_at32_ok s (by omega) (decL s.data.toList) (parseB_ok h ?_ (by rw [← Lib.size_eq]; exact h9)) w).mono ?_
  · intro he
    rw [Lib.size_eq, he] at h0
    simp at h0
  · rintro e w' ⟨h1, h2⟩
    refine ⟨h1, ?_⟩
    rcases h2 with rfl | rfl
    · exact Ext.refl _
    · exact ⟨rfl, rfl, rfl, by rw [Lib.bytesWorld_size]; omega, fun k hk => Lib.bytesWorld_at_old w 5 s k hk⟩

theorem drop_size (r : ByteArray) (n : Nat) : (r.extract n r.size).data.toList = r.data.toList.drop n := by
  rw [Lib.extract_eq]
  simp only []
  rw [List.take_of_length_le (by rw [List.length_drop, ← Lib.size_eq]; exact Nat.le_refl _)]
set_option maxHeartbeats 1600000 in
theorem parse_goodA (w : World) (s D : ByteArray) (neg : Bool) (hcp : Lib.trimPrefix s.data.toList [45] = D.data.toList) (hneg : Lib.hasPrefix s.data.toList [45] = neg) (hs : s.size ≤ 1000) (hD : 0 < D.size) (hD2 : D.size ≤ 1000) (hdig : allDig D.data.toList)
    (h48 : (D[0]'hD).toNat ≠ 48) : Calls Tryz.prog 58 #[.string s] w (fun e w' => Ext w w' ∧ ∃ v, e = .returned (.tuple #[v, .int .i64 0]) ∧ IntV (sval neg (decL D.data.toList)) v w') := by
  have e0 : (⟨(Lib.trimPrefix s.data.toList [45]).toArray⟩ : ByteArray) = D := by rw [hcp]
  have e1 : D.toList.isEmpty = false := by
    rw [ByteArray.toList_eq]
    cases hl : D.data.toList with
    | nil => rw [Lib.size_eq, hl] at hD; simp at hD
    | cons => rfl
  have c1 : (s.size : Int) ≤ 65536 := by omega
  have c2 : (((D[0]'hD).toNat : Int) == 48) = false := by simp; omega
  clear hcp
  go_enter Tryz.func58, Tryz.ntmps58
  go_wp2_with (first | (go_at_call 108; refine (Tryz.strings_CutPrefix s ⟨#[45]⟩ _).mono ?_; rintro e w' ⟨rfl, rfl⟩; rw [show (⟨(Lib.trimPrefix s.data.toList [45]).toArray⟩ : ByteArray) = D from e0, show Lib.hasPrefix s.data.toList [45] = neg from hneg]) | (go_at_call 109; refine (contains_spec _ D hdig).mono ?_; rintro e w' ⟨rfl, hx⟩))
  have h0 : Blk w' w.heap.size 27 #[.bool false, .slice none 0 0] := (Blk.new w 27 #[.bool false, .slice none 0 0]).ext hx
  have hX : Below w.heap.size w w' := Ext.trans (Ext.alloc w _) hx
  have HD := Lib.hid hdig
  clear hx hdig
  go_loopw [4, 6] (fun d mv wr => ∃ (r : ByteArray) (l : List Nat) (p : List UInt8), d = .string r ∧ D.data.toList = p ++ r.data.toList ∧ Limbs wr mv l ∧ Norm l ∧ l.length ≤ p.length ∧ dval l = decL p ∧ Blk wr w.heap.size 27 #[.bool false, .slice none 0 0] ∧ Below w.heap.size w wr) (fun d _ _ => sizeS d)
  case atStart => exact ⟨D, [], [], rfl, rfl, ⟨none, 0, rfl, Nat.le_refl _, fun h => by simp at h⟩, ⟨fun d hd => by simp at hd, by simp⟩, Nat.le_refl _, rfl, h0, hX⟩
  case round =>
    obtain ⟨r, l, p, rfl, hp, hl, hn, hlen, hval, hblk, hbel⟩ := hrel
    have HP := Lib.hid hp
    have HL := Lib.hid hl
    have HN := Lib.hid hn
    have HV := Lib.hid hval
    have HBK := Lib.hid hblk
    have HBL := Lib.hid hbel
    have hdl : p.length + r.size = D.size := by
      rw [Lib.size_eq r, Lib.size_eq D, hp, List.length_append]
    have hr : allDig r.data.toList := HD.out.sub fun b hb => by rw [hp]; exact List.mem_append_right _ hb
    have HR := Lib.hid hr
    clear hr
    clear hp hl hn hval hblk hbel h0 hX
    by_cases hlt : 0 < r.size
    · have hlt' : (0 : Int) < r.size := by omega
      generalize hn0 : (r.size - 1) % 9 + 1 = n
      have hn1 : 1 ≤ n := by omega
      have hn9 : n ≤ 9 := by omega
      have hnr : n ≤ r.size := by omega
      have hni : ((r.size : Int) - 1) % 9 + 1 = (n : Int) := by omega
      go_wp2_with fail
      go_loop [8, 48] (fun b i => ∃ k q : Nat, k ≤ n ∧ i = .int .i64 (k : Int) ∧ b = .int .u32 (q : Int) ∧ q = 10 ^ k) (fun _ i => n - (intOf i).toNat)
      case atStart => exact ⟨0, 1, Nat.zero_le _, rfl, rfl, rfl⟩
      case round =>
        obtain ⟨k, q, hk, rfl, rfl, hq⟩ := hrel
        by_cases hkn : k < n
        · have hpw : 10 ^ k ≤ 10 ^ 8 := Nat.pow_le_pow_right (by decide) (by omega)
          have hqb : q ≤ 100000000 := by rw [hq]; exact hpw
          have hc : (k : Int) < ((r.size : Int) - 1) % 9 + 1 := by omega
          have HQ := Lib.hid hq
          clear hq hpw
          go_wp2_with fail
          go_round
          case rel =>
            refine ⟨k + 1, q * 10, by omega, by go_num, ?_, ?_⟩
            · go_num
            · rw [HQ.out, Nat.pow_succ]
          case measure => simp [intOf]; omega
        · have hkn' : k = n := by omega
          have hc : ((r.size : Int) - 1) % 9 + 1 ≤ (k : Int) := by omega
          have HQ := Lib.hid hq
          have hq32 : q < 4294967296 := by
            have : 10 ^ k ≤ 10 ^ 9 := Nat.pow_le_pow_right (by decide) (by omega)
            omega
          clear hq
          go_wp2_with fail
          have hex : (r.extract 0 n).data.toList = r.data.toList.take n := Lib.extract_from_zero r n
          have hexs : (r.extract 0 n).size = n := by
            rw [Lib.size_eq, hex, List.length_take, ← Lib.size_eq]; omega
          have hdx : allDig (r.extract 0 n).data.toList := by
            rw [hex]; exact HR.out.sub fun b hb => List.mem_of_mem_take hb
          refine (parse_uint (r.extract 0 n) _ hdx (by omega) (by omega)).mono ?_
          rintro e w1 ⟨rfl, hx1⟩
          have hu9 : decL (r.extract 0 n).data.toList < 1000000000 := by
            have h5 := decL_lt hdx
            rw [hex, List.length_take, ← Lib.size_eq, Nat.min_eq_left hnr] at h5
            have : 10 ^ n ≤ 10 ^ 9 := Nat.pow_le_pow_right (by decide) hn9
            rw [hex]; omega
          generalize hu : decL (r.extract 0 n).data.toList = u at hu9
          have hu32 : (u : Int) % 4294967296 = (u : Int) := by omega
          have HU := Lib.hid hu
          have HX1 := Lib.hid hx1
          clear hu hx1 hdx
          go_wp2_with fail
          refine (scale_spec w1 _ l q u (HL.out.ext HX1.out) HN.out.1 (by omega) hq32 (by omega)).mono ?_
          rintro e w2 ⟨hx2, v2, l2, rfl, hl2, hn2, hlen2, hval2⟩
          have HX2 := Lib.hid hx2
          have HL2 := Lib.hid hl2
          have HN2 := Lib.hid hn2
          have HV2 := Lib.hid hval2
          clear hx2 hl2 hn2 hval2
          go_wp2_with fail
          go_roundw
          case rel =>
            refine ⟨r.extract n r.size, l2, p ++ r.data.toList.take n, rfl, ?_, HL2.out, HN2.out, ?_, ?_, (HBK.out.ext HX1.out).ext HX2.out, ?_⟩
            · rw [drop_size, List.append_assoc, List.take_append_drop]; exact HP.out
            · rw [List.length_append, List.length_take, ← Lib.size_eq, Nat.min_eq_left hnr]; omega
            · rw [HV2.out, decL_append, HV.out, List.length_take, ← Lib.size_eq, Nat.min_eq_left hnr, ← HU.out, hex, HQ.out, hkn', Nat.mul_comm]
            · have hy : Ext wr w2 := Ext.trans HX1.out HX2.out
              exact Below.trans HBL.out (hy.mono HBL.out.size)
          case measure =>
            show (r.extract n r.size).size < r.size
            rw [Lib.size_eq (r.extract n r.size), drop_size, List.length_drop, ← Lib.size_eq]; omega
    · have hz : r.size = 0 := by omega
      go_wp2_with fail
      refine (signed_spec _ neg _ l HL.out HN.out.1 (by omega)).mono ?_
      rintro e w1 ⟨v, rfl, hx1, hv⟩
      obtain ⟨b, A, cap, l', rfl, h1, h2, h3, h4⟩ := hv.form
      have HVV := Lib.hid hv
      have HX1 := Lib.hid hx1
      obtain ⟨k0, k1, k2, k3, k4, k5⟩ := (HBK.out.ext hx1).two
      have m2 := k2 (.bool b)
      have m3 := k3 (.bool b)
      have m4 := k4 (.bool b) (.slice A l'.length cap)
      have m5 := k5 (.bool b) (.slice A l'.length cap)
      clear k2 k3 k4 k5 h1 h2 h3 h4 hv hx1
      go_wp2_with fail
      refine end_int rfl rfl rfl rfl m4 m5 ?_
      have hval : dval l = decL D.data.toList := by
        rw [HV.out]
        have h5 : r.data.toList = [] := by
          rw [Lib.size_eq] at hz
          exact List.eq_nil_of_length_eq_zero hz
        rw [HP.out, h5, List.append_nil]
      refine ⟨Below.setCell (Below.setCell (Below.trans HBL.out (HX1.out.mono HBL.out.size)) (Nat.le_refl _) _) (Nat.le_refl _) _, _, rfl, ?_⟩
      obtain ⟨c, j1, j2⟩ := HVV.out
      have b1 := HBK.out.ext HX1.out
      have j3 := j2.upd (Upd.setCell w1 w.heap.size 0 (.bool b)) b1 (by decide)
      have b2 : Blk (w1.setCell ⟨w.heap.size, 0, none⟩ (.bool b)) w.heap.size 27 #[.bool b, .slice none 0 0] := by simpa using Blk.set (i := 0) (v := .bool b) b1
      rw [← hval]
      exact ⟨c, j1, j3.upd (Upd.setCell _ w.heap.size 1 _) b2 (by decide)⟩
set_option maxHeartbeats 1600000 in
theorem parse_goodB (w : World) (s D : ByteArray) (hcp : Lib.trimPrefix s.data.toList [45] = D.data.toList) (hneg : Lib.hasPrefix s.data.toList [45] = false) (hs : s.size ≤ 1000) (hD : 0 < D.size) (hD2 : D.size ≤ 1000) (hdig : allDig D.data.toList)
    (h48 : (D[0]'hD).toNat = 48) (hone : D.size = 1) : Calls Tryz.prog 58 #[.string s] w (fun e w' => Ext w w' ∧ ∃ v, e = .returned (.tuple #[v, .int .i64 0]) ∧ IntV (sval false (decL D.data.toList)) v w') := by
  have e0 : (⟨(Lib.trimPrefix s.data.toList [45]).toArray⟩ : ByteArray) = D := by rw [hcp]
  have e1 : D.toList.isEmpty = false := by
    rw [ByteArray.toList_eq]
    cases hl : D.data.toList with
    | nil => rw [Lib.size_eq, hl] at hD; simp at hD
    | cons => rfl
  have c1 : (s.size : Int) ≤ 65536 := by omega
  have c2 : (D.size : Int) ≤ 1 := by omega
  clear hcp
  go_enter Tryz.func58, Tryz.ntmps58
  go_wp2_with (first | (go_at_call 108; refine (Tryz.strings_CutPrefix s ⟨#[45]⟩ _).mono ?_; rintro e w' ⟨rfl, rfl⟩; rw [show (⟨(Lib.trimPrefix s.data.toList [45]).toArray⟩ : ByteArray) = D from e0, show Lib.hasPrefix s.data.toList [45] = false from hneg]) | (go_at_call 109; refine (contains_spec _ D hdig).mono ?_; rintro e w' ⟨rfl, hx⟩))
  have h0 : Blk w' w.heap.size 27 #[.bool false, .slice none 0 0] := (Blk.new w 27 #[.bool false, .slice none 0 0]).ext hx
  have hX : Below w.heap.size w w' := Ext.trans (Ext.alloc w _) hx
  have HD := Lib.hid hdig
  clear hx hdig
  go_loopw [4, 6] (fun d mv wr => ∃ (r : ByteArray) (l : List Nat) (p : List UInt8), d = .string r ∧ D.data.toList = p ++ r.data.toList ∧ Limbs wr mv l ∧ Norm l ∧ l.length ≤ p.length ∧ dval l = decL p ∧ Blk wr w.heap.size 27 #[.bool false, .slice none 0 0] ∧ Below w.heap.size w wr) (fun d _ _ => sizeS d)
  case atStart => exact ⟨D, [], [], rfl, rfl, ⟨none, 0, rfl, Nat.le_refl _, fun h => by simp at h⟩, ⟨fun d hd => by simp at hd, by simp⟩, Nat.le_refl _, rfl, h0, hX⟩
  case round =>
    obtain ⟨r, l, p, rfl, hp, hl, hn, hlen, hval, hblk, hbel⟩ := hrel
    have HP := Lib.hid hp
    have HL := Lib.hid hl
    have HN := Lib.hid hn
    have HV := Lib.hid hval
    have HBK := Lib.hid hblk
    have HBL := Lib.hid hbel
    have hdl : p.length + r.size = D.size := by
      rw [Lib.size_eq r, Lib.size_eq D, hp, List.length_append]
    have hr : allDig r.data.toList := HD.out.sub fun b hb => by rw [hp]; exact List.mem_append_right _ hb
    have HR := Lib.hid hr
    clear hr
    clear hp hl hn hval hblk hbel h0 hX
    by_cases hlt : 0 < r.size
    · have hlt' : (0 : Int) < r.size := by omega
      generalize hn0 : (r.size - 1) % 9 + 1 = n
      have hn1 : 1 ≤ n := by omega
      have hn9 : n ≤ 9 := by omega
      have hnr : n ≤ r.size := by omega
      have hni : ((r.size : Int) - 1) % 9 + 1 = (n : Int) := by omega
      go_wp2_with fail
      go_loop [8, 48] (fun b i => ∃ k q : Nat, k ≤ n ∧ i = .int .i64 (k : Int) ∧ b = .int .u32 (q : Int) ∧ q = 10 ^ k) (fun _ i => n - (intOf i).toNat)
      case atStart => exact ⟨0, 1, Nat.zero_le _, rfl, rfl, rfl⟩
      case round =>
        obtain ⟨k, q, hk, rfl, rfl, hq⟩ := hrel
        by_cases hkn : k < n
        · have hpw : 10 ^ k ≤ 10 ^ 8 := Nat.pow_le_pow_right (by decide) (by omega)
          have hqb : q ≤ 100000000 := by rw [hq]; exact hpw
          have hc : (k : Int) < ((r.size : Int) - 1) % 9 + 1 := by omega
          have HQ := Lib.hid hq
          clear hq hpw
          go_wp2_with fail
          go_round
          case rel =>
            refine ⟨k + 1, q * 10, by omega, by go_num, ?_, ?_⟩
            · go_num
            · rw [HQ.out, Nat.pow_succ]
          case measure => simp [intOf]; omega
        · have hkn' : k = n := by omega
          have hc : ((r.size : Int) - 1) % 9 + 1 ≤ (k : Int) := by omega
          have HQ := Lib.hid hq
          have hq32 : q < 4294967296 := by
            have : 10 ^ k ≤ 10 ^ 9 := Nat.pow_le_pow_right (by decide) (by omega)
            omega
          clear hq
          go_wp2_with fail
          have hex : (r.extract 0 n).data.toList = r.data.toList.take n := Lib.extract_from_zero r n
          have hexs : (r.extract 0 n).size = n := by
            rw [Lib.size_eq, hex, List.length_take, ← Lib.size_eq]; omega
          have hdx : allDig (r.extract 0 n).data.toList := by
            rw [hex]; exact HR.out.sub fun b hb => List.mem_of_mem_take hb
          refine (parse_uint (r.extract 0 n) _ hdx (by omega) (by omega)).mono ?_
          rintro e w1 ⟨rfl, hx1⟩
          have hu9 : decL (r.extract 0 n).data.toList < 1000000000 := by
            have h5 := decL_lt hdx
            rw [hex, List.length_take, ← Lib.size_eq, Nat.min_eq_left hnr] at h5
            have : 10 ^ n ≤ 10 ^ 9 := Nat.pow_le_pow_right (by decide) hn9
            rw [hex]; omega
          generalize hu : decL (r.extract 0 n).data.toList = u at hu9
          have hu32 : (u : Int) % 4294967296 = (u : Int) := by omega
          have HU := Lib.hid hu
          have HX1 := Lib.hid hx1
          clear hu hx1 hdx
          go_wp2_with fail
          refine (scale_spec w1 _ l q u (HL.out.ext HX1.out) HN.out.1 (by omega) hq32 (by omega)).mono ?_
          rintro e w2 ⟨hx2, v2, l2, rfl, hl2, hn2, hlen2, hval2⟩
          have HX2 := Lib.hid hx2
          have HL2 := Lib.hid hl2
          have HN2 := Lib.hid hn2
          have HV2 := Lib.hid hval2
          clear hx2 hl2 hn2 hval2
          go_wp2_with fail
          go_roundw
          case rel =>
            refine ⟨r.extract n r.size, l2, p ++ r.data.toList.take n, rfl, ?_, HL2.out, HN2.out, ?_, ?_, (HBK.out.ext HX1.out).ext HX2.out, ?_⟩
            · rw [drop_size, List.append_assoc, List.take_append_drop]; exact HP.out
            · rw [List.length_append, List.length_take, ← Lib.size_eq, Nat.min_eq_left hnr]; omega
            · rw [HV2.out, decL_append, HV.out, List.length_take, ← Lib.size_eq, Nat.min_eq_left hnr, ← HU.out, hex, HQ.out, hkn', Nat.mul_comm]
            · have hy : Ext wr w2 := Ext.trans HX1.out HX2.out
              exact Below.trans HBL.out (hy.mono HBL.out.size)
          case measure =>
            show (r.extract n r.size).size < r.size
            rw [Lib.size_eq (r.extract n r.size), drop_size, List.length_drop, ← Lib.size_eq]; omega
    · have hz : r.size = 0 := by omega
      go_wp2_with fail
      refine (signed_spec _ false _ l HL.out HN.out.1 (by omega)).mono ?_
      rintro e w1 ⟨v, rfl, hx1, hv⟩
      obtain ⟨b, A, cap, l', rfl, h1, h2, h3, h4⟩ := hv.form
      have HVV := Lib.hid hv
      have HX1 := Lib.hid hx1
      obtain ⟨k0, k1, k2, k3, k4, k5⟩ := (HBK.out.ext hx1).two
      have m2 := k2 (.bool b)
      have m3 := k3 (.bool b)
      have m4 := k4 (.bool b) (.slice A l'.length cap)
      have m5 := k5 (.bool b) (.slice A l'.length cap)
      clear k2 k3 k4 k5 h1 h2 h3 h4 hv hx1
      go_wp2_with fail
      refine end_int rfl rfl rfl rfl m4 m5 ?_
      have hval : dval l = decL D.data.toList := by
        rw [HV.out]
        have h5 : r.data.toList = [] := by
          rw [Lib.size_eq] at hz
          exact List.eq_nil_of_length_eq_zero hz
        rw [HP.out, h5, List.append_nil]
      refine ⟨Below.setCell (Below.setCell (Below.trans HBL.out (HX1.out.mono HBL.out.size)) (Nat.le_refl _) _) (Nat.le_refl _) _, _, rfl, ?_⟩
      obtain ⟨c, j1, j2⟩ := HVV.out
      have b1 := HBK.out.ext HX1.out
      have j3 := j2.upd (Upd.setCell w1 w.heap.size 0 (.bool b)) b1 (by decide)
      have b2 : Blk (w1.setCell ⟨w.heap.size, 0, none⟩ (.bool b)) w.heap.size 27 #[.bool b, .slice none 0 0] := by simpa using Blk.set (i := 0) (v := .bool b) b1
      rw [← hval]
      exact ⟨c, j1, j3.upd (Upd.setCell _ w.heap.size 1 _) b2 (by decide)⟩
/-- what Parse makes of digits, with a sign or not -/
def pErr (s : List UInt8) : Int := if (Lib.trimPrefix s [45]).head? = some 48 ∧ (1 < (Lib.trimPrefix s [45]).length ∨ Lib.hasPrefix s [45] = true) then 3 else 0
def pVal (s : List UInt8) : Int := sval (Lib.hasPrefix s [45]) (decL (Lib.trimPrefix s [45]))
theorem parse_spec (w : World) (s : ByteArray) (hs : s.size ≤ 1000) (h0 : Lib.trimPrefix s.data.toList [45] ≠ []) (hdig : allDig (Lib.trimPrefix s.data.toList [45])) :
    Calls Tryz.prog 58 #[.string s] w (fun e w' => Ext w w' ∧ ∃ v, e = .returned (.tuple #[v, .int .i64 (pErr s.data.toList)]) ∧ ((pErr s.data.toList = 0 ∧ IntV (pVal s.data.toList) v w') ∨ (pErr s.data.toList = 3 ∧ v = .agg #[.bool false, .slice none 0 0]))) := by
  generalize hD : (⟨(Lib.trimPrefix s.data.toList [45]).toArray⟩ : ByteArray) = D
  have hcp : Lib.trimPrefix s.data.toList [45] = D.data.toList := by subst hD; rfl
  have hpos : 0 < D.size := by
    rw [Lib.size_eq, ← hcp]
    exact List.length_pos_iff.2 h0
  have hsz : D.size ≤ 1000 := by
    rw [Lib.size_eq, ← hcp]
    have : (Lib.trimPrefix s.data.toList [45]).length ≤ s.data.toList.length := by
      unfold Lib.trimPrefix
      split
      · rw [List.length_drop]; omega
      · exact Nat.le_refl _
    rw [← Lib.size_eq] at this
    omega
  have hhead : (Lib.trimPrefix s.data.toList [45]).head? = some 48 ↔ (D[0]'hpos).toNat = 48 := by
    rw [hcp]
    have e : D.data.toList.head? = some (D[0]'hpos) := by
      show D.data.toList.head? = some (D.data[0]'hpos)
      rw [List.head?_eq_getElem?]
      simp [Array.getElem?_eq_getElem (show 0 < D.data.size from hpos)]
    rw [e]
    constructor
    · intro h; rw [Option.some.inj h]; rfl
    · intro h; congr 1; exact UInt8.toNat_inj.1 h
  have hlen : (Lib.trimPrefix s.data.toList [45]).length = D.size := by rw [hcp, ← Lib.size_eq]
  rw [hcp] at hdig
  by_cases h48 : (D[0]'hpos).toNat = 48
  · by_cases hb : 1 < D.size ∨ Lib.hasPrefix s.data.toList [45] = true
    · have e : pErr s.data.toList = 3 := by unfold pErr; rw [if_pos ⟨hhead.2 h48, by rw [hlen]; exact hb⟩]
      refine (parse_bad w s D _ hcp rfl hs hpos hsz hdig h48 hb).mono ?_
      rintro x w' ⟨h1, h2⟩
      exact ⟨h1, _, by rw [e]; exact h2, .inr ⟨e, rfl⟩⟩
    · have e : pErr s.data.toList = 0 := by unfold pErr; rw [if_neg (by rw [hlen]; exact fun h => hb h.2)]
      have hng : Lib.hasPrefix s.data.toList [45] = false := by
        cases h : Lib.hasPrefix s.data.toList [45] with
        | false => rfl
        | true => exact absurd (.inr h) hb
      have hone : D.size = 1 := by
        have : ¬ 1 < D.size := fun h => hb (.inl h)
        omega
      refine (parse_goodB w s D hcp hng hs hpos hsz hdig h48 hone).mono ?_
      rintro x w' ⟨h1, v, h2, h3⟩
      exact ⟨h1, v, by rw [e]; exact h2, .inl ⟨e, by unfold pVal; rw [hcp, hng]; exact h3⟩⟩
  · have e : pErr s.data.toList = 0 := by unfold pErr; rw [if_neg (fun h => h48 (hhead.1 h.1))]
    refine (parse_goodA w s D _ hcp rfl hs hpos hsz hdig h48).mono ?_
    rintro x w' ⟨h1, v, h2, h3⟩
    exact ⟨h1, v, by rw [e]; exact h2, .inl ⟨e, by unfold pVal; rw [hcp]; exact h3⟩⟩
end Go.Proofs.YteaggpgdfiodfaaGreatDoor
