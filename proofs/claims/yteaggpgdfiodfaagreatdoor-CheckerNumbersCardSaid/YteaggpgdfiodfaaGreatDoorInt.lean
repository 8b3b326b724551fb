/-
  The contracts of package integer: digits. Conditions: lengths below 2^40. The contracts of package integer: sums and differences of digits. Conditions: lengths below 2^40. The contracts of package integer: signs. Conditions: lengths below 2^40. The contracts of package integer: comparing, adding. Conditions: magnitudes below 2^32 to the power k, k below 2^39. The contracts of package integer: differences, products by a digit, quotients by a digit. Conditions: lengths below 2^40. The contracts of package integer: products by a digit, quotients by a digit. Conditions: lengths below 2^40.
-/
import Derived.Test.YteaggpgdfiodfaaGreatDoorRep
import Derived.WalkSpells
import Derived.Laws.MakeOwn
import Derived.Lib.Hide
import Derived.Deep.QuietTactic
import Derived.BigQuiet
namespace Go.Proofs.YteaggpgdfiodfaaGreatDoor
set_option linter.all false
open Go.RowKit

section

theorem Limbs.cell {w : World} {A : Option Addr} {n cap : Nat} {l : List Nat} (h : Limbs w (.slice A n cap) l) : n = l.length ∧ n ≤ cap ∧ (0 < n → ∃ g off, A = some ⟨g, off, none⟩ ∧ g < w.heap.size ∧ ∀ (j x : Nat), l[j]? = some x → w.cell? ⟨g, off + j, none⟩ = some (.int .u32 (x : Int))) := by
  obtain ⟨A', cap', hv, hc, h⟩ := h
  cases hv
  refine ⟨rfl, hc, fun hl => ?_⟩
  obtain ⟨g, off, cs, fr, h1, h2, h3⟩ := h hl
  refine ⟨g, off, h1, ?_, fun j x hj => by simp [World.cell?, h2, h3 j x hj]⟩
  rcases Nat.lt_or_ge g w.heap.size with h4 | h4
  · exact h4
  · rw [Array.getElem?_eq_none h4] at h2; cases h2
/-- a slice with the digits l, its parts at hand -/
theorem Limbs.form {w : World} {v : Value} {l : List Nat} (h : Limbs w v l) : ∃ A cap, v = .slice A l.length cap ∧ l.length ≤ cap := by
  obtain ⟨A, cap, h1, h2, _⟩ := h; exact ⟨A, cap, h1, h2⟩
/-- the digits at the front -/
theorem Limbs.take {w : World} {A : Option Addr} {n cap : Nat} {l : List Nat} (h : Limbs w (.slice A n cap) l) {k : Nat} (hk : k ≤ l.length) : Limbs w (.slice A k cap) (l.take k) := by
  obtain ⟨A', cap', hv, hc, h⟩ := h
  cases hv
  have e : (l.take k).length = k := by simp; omega
  refine ⟨A, cap, by rw [e], by omega, fun hl => ?_⟩
  obtain ⟨g, off, cs, fr, h1, h2, h3⟩ := h (by omega)
  refine ⟨g, off, cs, fr, h1, h2, fun j x hj => h3 j x ?_⟩
  rw [List.getElem?_take] at hj
  split at hj
  · exact hj
  · cases hj

/-- the length of a slice, for a loop's measure -/
def slen : Value → Nat
  | .slice _ k _ => k
  | _ => 0
theorem Ext.drewN (w : World) (n : Nat) : Ext w (w.drewN n) := ⟨rfl, rfl, rfl, Nat.le_refl _, fun _ _ => rfl⟩

/-- digits as cells -/
def digs (l : List Nat) : Array Value := (l.map fun (d : Nat) => Value.int .u32 (d : Int)).toArray
theorem digs_size (l : List Nat) : (digs l).size = l.length := by simp [digs]
theorem digs_get (l : List Nat) (j : Nat) : (digs l)[j]? = (l[j]?).map fun (d : Nat) => Value.int .u32 (d : Int) := by simp [digs]
theorem digs_set (l : List Nat) (j x : Nat) : (digs l).setIfInBounds j (.int .u32 (x : Int)) = digs (l.set j x) := by
  unfold digs
  simp [List.map_set]
theorem Limbs.of_blk {w : World} {g : Nat} {l : List Nat} (h : Blk w g 231 (digs l)) (cap : Nat) (hc : l.length ≤ cap) : Limbs w (.slice (some ⟨g, 0, none⟩) l.length cap) l :=
  ⟨_, cap, rfl, hc, fun _ => ⟨g, 0, digs l, (0, 0), rfl, h, fun j x hj => by simp [digs_get, hj]⟩⟩
theorem Blk.setCell {w : World} {g i x : Nat} {l : List Nat} (h : Blk w g 231 (digs l)) : Blk (w.setCell ⟨g, i, none⟩ (.int .u32 (x : Int))) g 231 (digs (l.set i x)) := by
  unfold Blk at h ⊢
  rw [← digs_set]
  simp [World.setCell, Array.getElem?_modify, h]
theorem Blk.dig {w : World} {g i : Nat} {l : List Nat} (h : Blk w g 231 (digs l)) (hi : i < l.length) : w.cell? ⟨g, i, none⟩ = some (.int .u32 (l[i] : Int)) := by
  rw [h.cell, digs_get]; simp [hi]
theorem Blk.free {w : World} {g i : Nat} {t : TypeId} {cs : Array Value} (h : Blk w g t cs) : w.frozen? ⟨g, i, none⟩ = false := by
  unfold Blk at h; simp [World.frozen?, h]
theorem Blk.drew {w : World} {g : Nat} {t : TypeId} {cs : Array Value} (h : Blk w g t cs) : Blk w.drew g t cs := h

theorem u32_info : (Tryz.prog.info? 231).map (fun i => (i.zero, i.size, i.bytes)) = some (some (.int .u32 0), 1, 4) := by kernel_rfl
theorem zeros_cells (n : Nat) : madeCells (Value.cells (.int .u32 0)) n = digs (List.replicate n 0) := by
  unfold madeCells digs Value.cells
  apply Array.ext_getElem?
  intro i
  simp only [Array.getElem?_map, List.getElem?_toArray, List.map_replicate]
  by_cases hi : i < n
  · simp [hi, Nat.mod_one]
  · simp [hi]
theorem make_u32 (n : Nat) (hn : n ≤ 1099511627776) (w : World) : (Instr.makeSlice 25 (.int .i64 (n : Int)) (.int .i64 (n : Int))).run Tryz.prog w = .ok (.slice (some ⟨w.heap.size, 0, none⟩) n n) (w.alloc (.cells (digs (List.replicate n 0)) 231)) := by
  obtain ⟨i, hi, hz, hs, hb⟩ := info_parts u32_info
  have h := run_make (P := Tryz.prog) w 25 231 i _ Tryz.underlying25 hi hz .i64 .i64 n n (by omega) (by omega) (by rw [hb]; omega) (by omega)
  rw [h, hs]
  simp [zeros_cells]

set_option maxHeartbeats 400000 in
theorem trim_spec (w : World) (v : Value) (l : List Nat) (h : Limbs w v l) (hl : l.length ≤ 1099511627776) :
    Calls Tryz.prog 144 #[v] w (fun e w' => w = w' ∧ ∃ v', e = .returned v' ∧ Limbs w v' (trimL l)) := by
  obtain ⟨A, cap, rfl, hc⟩ := h.form
  have hcell := h.cell.2.2
  have H := Lib.hid h
  clear h
  go_enter Tryz.func144, Tryz.ntmps144
  go_wp2_with fail
  go_loop [0] (fun s => ∃ k, k ≤ l.length ∧ s = .slice A k cap ∧ trimL (l.take k) = trimL l) (fun s => slen s)
  case atStart => exact ⟨l.length, Nat.le_refl _, rfl, by simp⟩
  case round =>
    obtain ⟨k, hk, rfl, ht⟩ := hrel
    have HT := Lib.hid ht
    clear ht
    by_cases h0 : 0 < k
    · obtain ⟨g, off, rfl, hg, h3⟩ := hcell (by omega)
      have hx : w.cell? ⟨g, off + (k - 1), none⟩ = some (.int .u32 ((l[k-1]'(by omega) : Nat) : Int)) := h3 (k-1) _ (by simp)
      have hsn : l.take k = l.take (k - 1) ++ [l[k-1]'(by omega)] := by
        have := List.take_succ_eq_append_getElem (l := l) (i := k - 1) (by omega)
        rwa [show k - 1 + 1 = k by omega] at this
      have HS := Lib.hid hsn
      clear hsn h3
      go_wp2_with fail
      · go_round
        case rel =>
          refine ⟨k - 1, by omega, rfl, ?_⟩
          have hz : (((l[k-1]'(by omega) : Nat) : Int) == 0) = true := by assumption
          have hz' : l[k-1]'(by omega) = 0 := by simpa using hz
          rw [← HT.out, HS.out, hz', trimL_snoc_zero]
        case measure => simp [slen]; omega
      · go_ret
        have hz : (((l[k-1]'(by omega) : Nat) : Int) == 0) = false := by assumption
        have hz' : ¬ l[k-1]'(by omega) = 0 := by simpa using hz
        refine ⟨rfl, _, rfl, ?_⟩
        rw [← HT.out, HS.out, trimL_snoc hz', ← HS.out]
        exact H.out.take hk
    · have hk0 : k = 0 := by omega
      subst hk0
      go_wp2_with fail
      go_ret
      refine ⟨rfl, _, rfl, ?_⟩
      rw [← HT.out]
      exact H.out.take hk

set_option maxHeartbeats 400000 in
theorem order_spec (w : World) (va vb : Value) (a b : List Nat) (ha : Limbs w va a) (hb : Limbs w vb b) (na : Norm a) (nb : Norm b) (la : a.length ≤ 1099511627776) (lb : b.length ≤ 1099511627776) :
    Calls Tryz.prog 114 #[va, vb] w (fun e w' => Ext w w' ∧ e = .returned (.int .i64 (cmpN (dval a) (dval b)))) := by
  obtain ⟨A, ca, rfl, hca⟩ := ha.form
  obtain ⟨B, cb, rfl, hcb⟩ := hb.form
  by_cases hlt : a.length < b.length
  · have hv := norm_lt_of_length na.ok nb hlt
    have HV := Lib.hid hv
    clear hv ha hb na nb
    have hne : ((a.length : Int) != (b.length : Int)) = true := by rw [bne_iff_ne]; omega
    go_enter Tryz.func114, Tryz.ntmps114
    go_wp2_with fail
    go_ret
    exact ⟨Ext.refl _, by rw [cmpN_lt HV.out]; rfl⟩
  · by_cases hgt : b.length < a.length
    · have hv := norm_lt_of_length nb.ok na hgt
      have HV := Lib.hid hv
      clear hv ha hb na nb
      have hne : ((a.length : Int) != (b.length : Int)) = true := by rw [bne_iff_ne]; omega
      go_enter Tryz.func114, Tryz.ntmps114
      go_wp2_with fail
      go_ret
      exact ⟨Ext.refl _, by rw [cmpN_gt HV.out]; rfl⟩
    · have heq : a.length = b.length := by omega
      have hA := ha.cell.2.2
      have hB := hb.cell.2.2
      have NA := Lib.hid na
      have NB := Lib.hid nb
      clear na nb ha hb
      have hne : ((a.length : Int) != (b.length : Int)) = false := by rw [bne_eq_false_iff_eq]; omega
      have HE := Lib.hid heq
      clear heq
      go_enter Tryz.func114, Tryz.ntmps114
      go_wp2_with fail
      go_loopw [5] (fun i wr => ∃ k m : Nat, k ≤ a.length ∧ i = .int .i64 ((k : Int) - 1) ∧ a.drop k = b.drop k ∧ wr = w.drewN m) (fun i _ => (intOf i + 1).toNat)
      case atStart => exact ⟨a.length, 0, Nat.le_refl _, rfl, by simp [HE.out], rfl⟩
      case round =>
        obtain ⟨k, m, hk, rfl, hd, rfl⟩ := hrel
        have HD := Lib.hid hd
        clear hd
        by_cases h0 : 0 < k
        · obtain ⟨g, off, rfl, hg, h3⟩ := hA (by omega)
          obtain ⟨g', off', rfl, hg', h3'⟩ := hB (by have := HE.out; omega)
          have hkb : k - 1 < b.length := by have := HE.out; omega
          have hx : w.cell? ⟨g, off + (k - 1), none⟩ = some (.int .u32 ((a[k-1]'(by omega) : Nat) : Int)) := h3 (k-1) _ (by simp)
          have hy : w.cell? ⟨g', off' + (k - 1), none⟩ = some (.int .u32 ((b[k-1]'hkb : Nat) : Int)) := h3' (k-1) _ (by simp)
          clear h3 h3' hA hB
          have i1 : (0 : Int) ≤ (k : Int) - 1 := by omega
          have i2 : (k : Int) - 1 < (a.length : Int) := by omega
          have i3 : (k : Int) - 1 < (b.length : Int) := by omega
          go_wp2_with fail
          go_quiet (fail)
          go_wp2_with fail
          · have hn : (((a[k-1]'(by omega) : Nat) : Int) != ((b[k-1]'hkb : Nat) : Int)) = true := by assumption
            have hn' : a[k-1]'(by omega) ≠ b[k-1]'hkb := by
              have h0 : ¬ ((a[k-1]'(by omega) : Nat) : Int) = ((b[k-1]'hkb : Nat) : Int) := by simpa using hn
              omega
            have HN := Lib.hid hn'
            clear hn'
            go_quiet (fail)
            go_wp2_with fail
            all_goals go_ret
            · refine ⟨((Ext.drewN _ _).trans (Ext.drewN _ _)).trans (Ext.drewN _ _), ?_⟩
              have hl : a[k-1]'(by omega) < b[k-1]'hkb := by omega
              rw [cmpN_lt (order_top NA.out.ok HE.out (i := k - 1) (by omega) (by rw [show k - 1 + 1 = k by omega]; exact HD.out) (by omega))]
              rfl
            · refine ⟨((Ext.drewN _ _).trans (Ext.drewN _ _)).trans (Ext.drewN _ _), ?_⟩
              have hl : b[k-1]'hkb ≤ a[k-1]'(by omega) := by omega
              have h1 := HN.out
              rw [cmpN_gt (order_top NB.out.ok HE.out.symm (i := k - 1) hkb (by rw [show k - 1 + 1 = k by omega]; exact HD.out.symm) (by omega))]
              rfl
          · go_roundw
            case rel =>
              have hn : (((a[k-1]'(by omega) : Nat) : Int) != ((b[k-1]'hkb : Nat) : Int)) = false := by assumption
              have hn' : a[k-1]'(by omega) = b[k-1]'hkb := by
                have h0 : ((a[k-1]'(by omega) : Nat) : Int) = ((b[k-1]'hkb : Nat) : Int) := by simpa using hn
                omega
              refine ⟨k - 1, _, by omega, by rw [show ((k - 1 : Nat) : Int) = (k : Int) - 1 from by omega], ?_, rfl⟩
              have h1 := List.drop_eq_getElem_cons (l := a) (i := k - 1) (by omega)
              have h2 := List.drop_eq_getElem_cons (l := b) (i := k - 1) hkb
              rw [show k - 1 + 1 = k by omega] at h1 h2
              rw [h1, h2, hn', HD.out]
            case measure => simp [intOf]; omega
        · have hk0 : k = 0 := by omega
          subst hk0
          go_wp2_with fail
          go_ret
          refine ⟨Ext.drewN _ _, ?_⟩
          have h1 : a = b := by simpa using HD.out
          rw [cmpN_eq (by rw [h1])]
          rfl
end

section

theorem zeros_set {ds : List Nat} {i n x : Nat} (hl : ds.length = i) (hi : i < n) : (ds ++ List.replicate (n - i) 0).set i x = (ds ++ [x]) ++ List.replicate (n - (i + 1)) 0 := by
  rw [List.set_append_right _ _ (by omega), hl, Nat.sub_self]
  obtain ⟨k, hk⟩ : ∃ k, n - i = k + 1 := ⟨n - i - 1, by omega⟩
  rw [hk, show n - (i + 1) = k by omega, List.replicate_succ]
  simp

/-- digits set so far, the rest zero, in block g -/
def Fill (w : World) (g n : Nat) (ds : List Nat) : Prop := Blk w g 231 (digs (ds ++ List.replicate (n - ds.length) 0))
theorem Fill.cell {w : World} {g n : Nat} {ds : List Nat} (h : Fill w g n ds) {i : Nat} (hi : ds.length = i) (hn : i < n) : w.cell? ⟨g, i, none⟩ = some (.int .u32 0) := by
  unfold Fill at h
  rw [h.dig (by simp; omega)]
  simp [List.getElem_append_right (show ds.length ≤ i by omega)]
theorem Fill.free {w : World} {g n i : Nat} {ds : List Nat} (h : Fill w g n ds) : w.frozen? ⟨g, i, none⟩ = false := Blk.free h
theorem Fill.set {w : World} {g n : Nat} {ds : List Nat} {i x : Nat} (h : Fill w g n ds) (hi : ds.length = i) (hn : i < n) : Fill (w.setCell ⟨g, i, none⟩ (.int .u32 (x : Int))) g n (ds ++ [x]) := by
  unfold Fill at h ⊢
  have h2 := Blk.setCell (i := i) (x := x) h
  rw [hi, zeros_set hi hn] at h2
  simpa [hi] using h2
theorem Fill.new (w : World) (n : Nat) : Fill (w.alloc (.cells (digs (List.replicate n 0)) 231)) w.heap.size n [] := by
  unfold Fill; simpa using Blk.new w 231 (digs (List.replicate n 0))
theorem Fill.limbs {w : World} {g n : Nat} {ds : List Nat} (h : Fill w g n ds) (hn : ds.length = n) : Limbs w (.slice (some ⟨g, 0, none⟩) n n) ds := by
  unfold Fill at h
  rw [hn, Nat.sub_self] at h
  have := Limbs.of_blk (l := ds) (by simpa using h) n (by omega)
  rwa [hn] at this
theorem Fill.drewN {w : World} {g n : Nat} {ds : List Nat} (h : Fill w g n ds) (k : Nat) : Fill (w.drewN k) g n ds := h

/-- the cells of a slice, read in a later world -/
def At (w : World) (A : Option Addr) (l : List Nat) : Prop := 0 < l.length → ∃ g off, A = some ⟨g, off, none⟩ ∧ g < w.heap.size ∧ ∀ (j x : Nat), l[j]? = some x → w.cell? ⟨g, off + j, none⟩ = some (.int .u32 (x : Int))

theorem dval_take_or (b : List Nat) (i : Nat) : dval (b.take (i + 1)) = dval (b.take i) + B32 ^ i * (b.getD i 0) := by
  by_cases h : i < b.length
  · rw [dval_take_succ b i h]; simp [h]
  · rw [List.take_of_length_le (by omega), List.take_of_length_le (by omega)]; simp [h]

set_option maxHeartbeats 1000000 in
/-- plus at a first magnitude that is not shorter -/
theorem plus_long (w : World) (va vb : Value) (a b : List Nat) (ha : Limbs w va a) (hb : Limbs w vb b) (na : digitsOk a) (nb : digitsOk b) (la : a.length ≤ 1099511627775) (hab : b.length ≤ a.length) :
    Calls Tryz.prog 155 #[va, vb] w (fun e w' => Ext w w' ∧ ∃ v l, e = .returned v ∧ Limbs w' v l ∧ digitsOk l ∧ l.length = a.length + 1 ∧ dval l = dval a + dval b) := by
  obtain ⟨A, ca, rfl, hca⟩ := ha.form
  obtain ⟨B, cb, rfl, hcb⟩ := hb.form
  have hA : At w A a := fun h => ha.cell.2.2 h
  have hB : At w B b := fun h => hb.cell.2.2 h
  have HA := Lib.hid hA
  have HB := Lib.hid hB
  have NA := Lib.hid na
  have NB := Lib.hid nb
  clear hA hB ha hb na nb
  have hmk := make_u32 (a.length + 1) (by omega)
  have ec : ((a.length + 1 : Nat) : Int) = (a.length : Int) + 1 := by omega
  rw [ec] at hmk
  clear ec
  go_enter Tryz.func155, Tryz.ntmps155
  go_wp2_with fail
  clear hmk
  go_loopw [6, 22] (fun c i wr => ∃ (k cc : Nat) (ds : List Nat), k ≤ a.length ∧ i = .int .i64 (k : Int) ∧ c = .int .u64 (cc : Int) ∧ cc ≤ 1 ∧ ds.length = k ∧ digitsOk ds ∧ dval ds + B32 ^ k * cc = dval (a.take k) + dval (b.take k) ∧ Fill wr w.heap.size (a.length + 1) ds ∧ Below w.heap.size w wr) (fun _ i _ => a.length - (intOf i).toNat)
  case atStart => exact ⟨0, 0, [], Nat.zero_le _, rfl, rfl, by omega, rfl, by intro d hd; simp at hd, by simp [dval], Fill.new _ _, Ext.alloc _ _⟩
  case round =>
    obtain ⟨k, cc, ds, hk, rfl, rfl, hcc, hds, hok, hev, hfill, hbel⟩ := hrel
    have HDS := Lib.hid hds
    have HOK := Lib.hid hok
    have HEV := Lib.hid hev
    have HF := Lib.hid hfill
    have HBL := Lib.hid hbel
    clear hds hok hev hfill hbel
    by_cases hlt : k < a.length
    · obtain ⟨g, off, rfl, hg, h3⟩ := HA.out (by omega)
      have hx : wr.cell? ⟨g, off + k, none⟩ = some (.int .u32 ((a[k] : Nat) : Int)) := (HBL.out.cell (p := ⟨g, off + k, none⟩) hg).trans (h3 k _ (by simp [hlt]))
      have bx : a[k] < 4294967296 := NA.out.get hlt
      have ho := HF.out.cell HDS.out (by omega)
      have hfr := HF.out.free (i := k)
      clear h3
      by_cases hlb : k < b.length
      · obtain ⟨g', off', rfl, hg', h3'⟩ := HB.out (by omega)
        have hy : wr.cell? ⟨g', off' + k, none⟩ = some (.int .u32 ((b[k] : Nat) : Int)) := (HBL.out.cell (p := ⟨g', off' + k, none⟩) hg').trans (h3' k _ (by simp [hlb]))
        have by_ : b[k] < 4294967296 := NB.out.get hlb
        clear h3'
        go_wp2_with fail
        go_roundw
        case rel =>
          have hb1 : dval (b.take (k + 1)) = dval (b.take k) + B32 ^ k * b[k] := dval_take_succ b k hlb
          have hst := plus_step (ds := ds) (a := a) (b := b) (s := cc + a[k] + b[k]) HDS.out hlt hb1 HEV.out rfl
          refine ⟨k + 1, (cc + a[k] + b[k]) / B32, ds ++ [(cc + a[k] + b[k]) % B32], by omega, by go_num, ?_, by rw [B32_eq]; omega, by simp [HDS.out], HOK.out.snoc (Nat.mod_lt _ B32_pos), hst, ?_, HBL.out.setCell (Nat.le_refl _) _⟩
          · rw [B32_eq]; go_num
          · have h5 := HF.out.set (x := (cc + a[k] + b[k]) % B32) HDS.out (by omega)
            rw [B32_eq] at h5 ⊢
            exact h5
        case measure => simp [intOf]; omega
      · have hb0 : b.getD k 0 = 0 := by simp [show b.length ≤ k by omega]
        have HB0 := Lib.hid hb0
        clear hb0
        go_wp2_with fail
        go_roundw
        case rel =>
          have hb1 := dval_take_or b k
          rw [HB0.out] at hb1
          have hst := plus_step (ds := ds) (a := a) (b := b) (s := cc + a[k] + 0) HDS.out hlt hb1 HEV.out rfl
          refine ⟨k + 1, (cc + a[k]) / B32, ds ++ [(cc + a[k]) % B32], by omega, by go_num, ?_, by rw [B32_eq]; omega, by simp [HDS.out], HOK.out.snoc (Nat.mod_lt _ B32_pos), hst, ?_, HBL.out.setCell (Nat.le_refl _) _⟩
          · rw [B32_eq]; go_num
          · have h5 := HF.out.set (x := (cc + a[k]) % B32) HDS.out (by omega)
            rw [B32_eq] at h5 ⊢
            exact h5
        case measure => simp [intOf]; omega
    · have hk0 : k = a.length := by omega
      subst hk0
      have ho := HF.out.cell HDS.out (by omega)
      have hfr := HF.out.free (i := a.length)
      go_wp2_with fail
      go_ret
      have h5 := HF.out.set (x := cc) HDS.out (by omega)
      refine ⟨HBL.out.setCell (Nat.le_refl _) _, _, ds ++ [cc], rfl, ?_, HOK.out.snoc (by rw [B32_eq]; omega), by simp [HDS.out], ?_⟩
      · have h6 := h5.limbs (by simp [HDS.out])
        simpa [HDS.out] using h6
      · have h7 := HEV.out
        rw [List.take_of_length_le (Nat.le_refl _), List.take_of_length_le hab] at h7
        rw [dval_snoc, HDS.out]; exact h7
set_option maxHeartbeats 1000000 in
/-- plus at a first magnitude that is shorter -/
theorem plus_short (w : World) (va vb : Value) (a b : List Nat) (ha : Limbs w va a) (hb : Limbs w vb b) (na : digitsOk a) (nb : digitsOk b) (lb : b.length ≤ 1099511627775) (hab : a.length < b.length) :
    Calls Tryz.prog 155 #[va, vb] w (fun e w' => Ext w w' ∧ ∃ v l, e = .returned v ∧ Limbs w' v l ∧ digitsOk l ∧ l.length = b.length + 1 ∧ dval l = dval a + dval b) := by
  obtain ⟨B, cb, rfl, hcb⟩ := hb.form
  obtain ⟨A, ca, rfl, hca⟩ := ha.form
  have hB : At w B b := fun h => hb.cell.2.2 h
  have hA : At w A a := fun h => ha.cell.2.2 h
  have HB := Lib.hid hB
  have HA := Lib.hid hA
  have NB := Lib.hid nb
  have NA := Lib.hid na
  clear hB hA hb ha nb na
  have hmk := make_u32 (b.length + 1) (by omega)
  have ec : ((b.length + 1 : Nat) : Int) = (b.length : Int) + 1 := by omega
  rw [ec] at hmk
  clear ec
  go_enter Tryz.func155, Tryz.ntmps155
  go_wp2_with fail
  clear hmk
  go_loopw [6, 22] (fun c i wr => ∃ (k cc : Nat) (ds : List Nat), k ≤ b.length ∧ i = .int .i64 (k : Int) ∧ c = .int .u64 (cc : Int) ∧ cc ≤ 1 ∧ ds.length = k ∧ digitsOk ds ∧ dval ds + B32 ^ k * cc = dval (b.take k) + dval (a.take k) ∧ Fill wr w.heap.size (b.length + 1) ds ∧ Below w.heap.size w wr) (fun _ i _ => b.length - (intOf i).toNat)
  case atStart => exact ⟨0, 0, [], Nat.zero_le _, rfl, rfl, by omega, rfl, by intro d hd; simp at hd, by simp [dval], Fill.new _ _, Ext.alloc _ _⟩
  case round =>
    obtain ⟨k, cc, ds, hk, rfl, rfl, hcc, hds, hok, hev, hfill, hbel⟩ := hrel
    have HDS := Lib.hid hds
    have HOK := Lib.hid hok
    have HEV := Lib.hid hev
    have HF := Lib.hid hfill
    have HBL := Lib.hid hbel
    clear hds hok hev hfill hbel
    by_cases hlt : k < b.length
    · obtain ⟨g, off, rfl, hg, h3⟩ := HB.out (by omega)
      have hx : wr.cell? ⟨g, off + k, none⟩ = some (.int .u32 ((b[k] : Nat) : Int)) := (HBL.out.cell (p := ⟨g, off + k, none⟩) hg).trans (h3 k _ (by simp [hlt]))
      have bx : b[k] < 4294967296 := NB.out.get hlt
      have ho := HF.out.cell HDS.out (by omega)
      have hfr := HF.out.free (i := k)
      clear h3
      by_cases hlb : k < a.length
      · obtain ⟨g', off', rfl, hg', h3'⟩ := HA.out (by omega)
        have hy : wr.cell? ⟨g', off' + k, none⟩ = some (.int .u32 ((a[k] : Nat) : Int)) := (HBL.out.cell (p := ⟨g', off' + k, none⟩) hg').trans (h3' k _ (by simp [hlb]))
        have by_ : a[k] < 4294967296 := NA.out.get hlb
        clear h3'
        go_wp2_with fail
        go_roundw
        case rel =>
          have hb1 : dval (a.take (k + 1)) = dval (a.take k) + B32 ^ k * a[k] := dval_take_succ a k hlb
          have hst := plus_step (ds := ds) (a := b) (b := a) (s := cc + b[k] + a[k]) HDS.out hlt hb1 HEV.out rfl
          refine ⟨k + 1, (cc + b[k] + a[k]) / B32, ds ++ [(cc + b[k] + a[k]) % B32], by omega, by go_num, ?_, by rw [B32_eq]; omega, by simp [HDS.out], HOK.out.snoc (Nat.mod_lt _ B32_pos), hst, ?_, HBL.out.setCell (Nat.le_refl _) _⟩
          · rw [B32_eq]; go_num
          · have h5 := HF.out.set (x := (cc + b[k] + a[k]) % B32) HDS.out (by omega)
            rw [B32_eq] at h5 ⊢
            exact h5
        case measure => simp [intOf]; omega
      · have hb0 : a.getD k 0 = 0 := by simp [show a.length ≤ k by omega]
        have HB0 := Lib.hid hb0
        clear hb0
        go_wp2_with fail
        go_roundw
        case rel =>
          have hb1 := dval_take_or a k
          rw [HB0.out] at hb1
          have hst := plus_step (ds := ds) (a := b) (b := a) (s := cc + b[k] + 0) HDS.out hlt hb1 HEV.out rfl
          refine ⟨k + 1, (cc + b[k]) / B32, ds ++ [(cc + b[k]) % B32], by omega, by go_num, ?_, by rw [B32_eq]; omega, by simp [HDS.out], HOK.out.snoc (Nat.mod_lt _ B32_pos), hst, ?_, HBL.out.setCell (Nat.le_refl _) _⟩
          · rw [B32_eq]; go_num
          · have h5 := HF.out.set (x := (cc + b[k]) % B32) HDS.out (by omega)
            rw [B32_eq] at h5 ⊢
            exact h5
        case measure => simp [intOf]; omega
    · have hk0 : k = b.length := by omega
      subst hk0
      have ho := HF.out.cell HDS.out (by omega)
      have hfr := HF.out.free (i := b.length)
      go_wp2_with fail
      go_ret
      have h5 := HF.out.set (x := cc) HDS.out (by omega)
      refine ⟨HBL.out.setCell (Nat.le_refl _) _, _, ds ++ [cc], rfl, ?_, HOK.out.snoc (by rw [B32_eq]; omega), by simp [HDS.out], ?_⟩
      · have h6 := h5.limbs (by simp [HDS.out])
        simpa [HDS.out] using h6
      · have h7 := HEV.out
        rw [List.take_of_length_le (Nat.le_refl _), List.take_of_length_le (Nat.le_of_lt hab)] at h7
        rw [dval_snoc, HDS.out, h7, Nat.add_comm]

theorem plus_spec (w : World) (va vb : Value) (a b : List Nat) (ha : Limbs w va a) (hb : Limbs w vb b) (na : digitsOk a) (nb : digitsOk b) (la : a.length ≤ 1099511627775) (lb : b.length ≤ 1099511627775) :
    Calls Tryz.prog 155 #[va, vb] w (fun e w' => Ext w w' ∧ ∃ v l, e = .returned v ∧ Limbs w' v l ∧ digitsOk l ∧ l.length ≤ max a.length b.length + 1 ∧ dval l = dval a + dval b) := by
  by_cases h : b.length ≤ a.length
  · exact (plus_long w va vb a b ha hb na nb la h).mono fun e w' ⟨h1, v, l, h2, h3, h4, h5, h6⟩ => ⟨h1, v, l, h2, h3, h4, by omega, h6⟩
  · exact (plus_short w va vb a b ha hb na nb lb (by omega)).mono fun e w' ⟨h1, v, l, h2, h3, h4, h5, h6⟩ => ⟨h1, v, l, h2, h3, h4, by omega, h6⟩
end

section

/-- an integer as a value -/
def IntV (n : Int) : Pd := fun v w => ∃ c, v = .agg c.toArray ∧ IntC w c n
theorem IntV.stb (n : Int) : Stb Ext (IntV n) := fun _ _ _ hx ⟨c, h1, h2⟩ => ⟨c, h1, h2.ext hx⟩
theorem IntV.ext {n : Int} {v : Value} {w w' : World} (h : IntV n v w) (hx : Ext w w') : IntV n v w' := IntV.stb n _ _ _ hx h
theorem IntV.mk {w : World} {b : Bool} {m : Value} {l : List Nat} {n : Int} (h : Limbs w m l) (hn : Norm l) (hb : b = true → l ≠ []) (hv : n = if b then -(dval l : Int) else (dval l : Int)) : IntV n (.agg #[.bool b, m]) w :=
  ⟨[.bool b, m], rfl, b, m, l, rfl, h, hn, hb, hv⟩
theorem IntV.form {n : Int} {v : Value} {w : World} (h : IntV n v w) : ∃ (b : Bool) (A : Option Addr) (cap : Nat) (l : List Nat), v = .agg #[.bool b, .slice A l.length cap] ∧ Limbs w (.slice A l.length cap) l ∧ Norm l ∧ (b = true → l ≠ []) ∧ n = if b then -(dval l : Int) else (dval l : Int) := by
  obtain ⟨c, rfl, b, m, l, rfl, h1, h2, h3, h4⟩ := h
  obtain ⟨A, cap, rfl, _⟩ := h1.form
  exact ⟨b, A, cap, l, rfl, h1, h2, h3, h4⟩
/-- the number that a sign and digits are -/
def sval (b : Bool) (n : Nat) : Int := if b then -(n : Int) else (n : Int)

/-- what reads in a world with one more variable of another type reads without it -/
theorem Limbs.back {w : World} {cs : Array Value} {t : TypeId} {fr : Nat × Nat} {v : Value} {l : List Nat} (h : Limbs (w.alloc (.cells cs t fr)) v l) (ht : t ≠ 231) : Limbs w v l := by
  obtain ⟨A, cap, hv, hc, h⟩ := h
  refine ⟨A, cap, hv, hc, fun hl => ?_⟩
  obtain ⟨g, off, ds, fr', h1, h2, h3⟩ := h hl
  refine ⟨g, off, ds, fr', h1, ?_, h3⟩
  have h2' : (w.heap.push (.cells cs t fr))[g]? = some (.cells ds 231 fr') := h2
  rw [Array.getElem?_push] at h2'
  split at h2'
  · exfalso
    injection h2' with h2'
    injection h2' with _ h4
    exact ht h4
  · exact h2'
theorem IntV.sval {w : World} {b b' : Bool} {m : Value} {l : List Nat} (h : Limbs w m (trimL l)) (hok : digitsOk l) (hb : b' = (b && decide (0 < (trimL l).length))) : IntV (sval b (dval l)) (.agg #[.bool b', m]) w := by
  refine IntV.mk h (trimL_norm hok) (fun hb' => ?_) ?_
  · rw [hb] at hb'
    simp at hb'
    have h0 := hb'.2
    intro he
    rw [he] at h0
    simp at h0
  · rw [dval_trimL]
    subst hb
    unfold Proofs.YteaggpgdfiodfaaGreatDoor.sval
    cases b
    · simp
    · by_cases h0 : 0 < (trimL l).length
      · simp [h0]
      · have : trimL l = [] := List.eq_nil_of_length_eq_zero (by omega)
        have h1 : dval l = 0 := by rw [← dval_trimL, this]; rfl
        simp [this, h1]

theorem int_zero : tyZero Tryz.prog 27 (.agg #[.bool false, .slice none 0 0]) := by unfold tyZero; kernel_rfl

set_option maxHeartbeats 400000 in
theorem signed_spec (w : World) (b : Bool) (v : Value) (l : List Nat) (h : Limbs w v l) (hok : digitsOk l) (hl : l.length ≤ 1099511627776) :
    Calls Tryz.prog 113 #[.bool b, v] w (Ret w (IntV (sval b (dval l)))) := by
  go_enter Tryz.func113, Tryz.ntmps113
  go_wp2_with fail
  refine (trim_spec _ v l (h.ext (Ext.alloc _ _)) hl).mono ?_
  rintro e w1 ⟨rfl, v1, rfl, h1⟩
  obtain ⟨A, cap, rfl, hc⟩ := h1.form
  have H1 := Lib.hid h1
  clear h1
  cases b
  · go_wp2_with fail
    refine bodyPost_ret (v := .agg #[.bool false, .slice A (trimL l).length cap]) (by simp [results, Tryz.results113, go_sem]) rfl ?_
    exact ⟨_, rfl, Ext.alloc _ _, IntV.sval ((H1.out.back (by decide)).ext (Ext.alloc _ _)) hok rfl⟩
  · go_wp2_with fail
    refine bodyPost_ret (v := .agg #[.bool (decide (0 < (trimL l).length)), .slice A (trimL l).length cap]) (by simp [results, Tryz.results113, go_sem]) rfl ?_
    exact ⟨_, rfl, Ext.alloc _ _, IntV.sval ((H1.out.back (by decide)).ext (Ext.alloc _ _)) hok rfl⟩

theorem IntV.len {n : Int} {b : Bool} {l : List Nat} (hn : Norm l) (hb : b = true → l ≠ []) (hv : n = if b then -(dval l : Int) else (dval l : Int)) : (n = 0 ↔ l = []) ∧ (n < 0 ↔ b = true) := by
  have h0 := norm_zero hn
  cases b
  · simp at hv
    constructor
    · rw [hv]; rw [← h0]; omega
    · simp; omega
  · have h1 := hb rfl
    have h2 : dval l ≠ 0 := fun h => h1 (h0.1 h)
    simp at hv
    constructor
    · constructor
      · intro h; omega
      · intro h; exact absurd h h1
    · simp; omega

set_option maxHeartbeats 400000 in
theorem neg_spec (w : World) (v : Value) (n : Int) (h : IntV n v w) :
    Calls Tryz.prog 125 #[v] w (Ret w (IntV (-n))) := by
  obtain ⟨b, A, cap, l, rfl, hm, hn, hb, hv⟩ := h.form
  have H := Lib.hid hm
  have HN := Lib.hid hn
  have HB := Lib.hid hb
  have HV := Lib.hid hv
  clear h hm hn hb hv
  cases b
  · go_enter Tryz.func125, Tryz.ntmps125
    go_wp2_with fail
    refine bodyPost_ret (v := .agg #[.bool (decide (0 < l.length)), .slice A l.length cap]) (by simp [results, Tryz.results125, go_sem]) rfl ?_
    refine ⟨_, rfl, (Ext.alloc _ _).trans (Ext.alloc _ _), IntV.mk ((H.out.ext (Ext.alloc _ _)).ext (Ext.alloc _ _)) HN.out ?_ ?_⟩
    · intro h1 h2; subst h2; simp at h1
    · have h1 := HV.out
      simp at h1
      by_cases h0 : l = []
      · subst h0; simp [h1, dval]
      · have : 0 < l.length := List.length_pos_iff.2 h0
        simp [this, h1]
  · go_enter Tryz.func125, Tryz.ntmps125
    go_wp2_with fail
    refine bodyPost_ret (v := .agg #[.bool false, .slice A l.length cap]) (by simp [results, Tryz.results125, go_sem]) rfl ?_
    refine ⟨_, rfl, (Ext.alloc _ _).trans (Ext.alloc _ _), IntV.mk ((H.out.ext (Ext.alloc _ _)).ext (Ext.alloc _ _)) HN.out (by simp) ?_⟩
    have h1 := HV.out
    simp at h1
    simp [h1]

set_option maxHeartbeats 400000 in
theorem abs_spec (w : World) (v : Value) (n : Int) (h : IntV n v w) :
    Calls Tryz.prog 123 #[v] w (Ret w (IntV (n.natAbs : Int))) := by
  obtain ⟨b, A, cap, l, rfl, hm, hn, hb, hv⟩ := h.form
  have H := Lib.hid hm
  have HN := Lib.hid hn
  have HV := Lib.hid hv
  clear h hm hn hb hv
  go_enter Tryz.func123, Tryz.ntmps123
  go_wp2_with fail
  refine bodyPost_ret (v := .agg #[.bool false, .slice A l.length cap]) (by simp [results, Tryz.results123, go_sem]) rfl ?_
  refine ⟨_, rfl, (Ext.alloc _ _).trans (Ext.alloc _ _), IntV.mk ((H.out.ext (Ext.alloc _ _)).ext (Ext.alloc _ _)) HN.out (by simp) ?_⟩
  have h1 := HV.out
  cases b <;> simp at h1 <;> simp [h1]

/-- the sign of an integer -/
def sgn (n : Int) : Int := if n < 0 then -1 else if 0 < n then 1 else 0

set_option maxHeartbeats 400000 in
theorem sign_spec (w : World) (v : Value) (n : Int) (h : IntV n v w) :
    Calls Tryz.prog 74 #[v] w (fun e w' => Ext w w' ∧ e = .returned (.int .i64 (sgn n))) := by
  obtain ⟨b, A, cap, l, rfl, hm, hn, hb, hv⟩ := h.form
  have hs := IntV.len hn hb hv
  clear h hm hn hb hv
  by_cases h0 : l = []
  · have hn0 : n = 0 := hs.1.2 h0
    clear hs
    subst h0 hn0
    have e0 : (((([] : List Nat).length : Nat) : Int) == 0) = true := by simp
    go_enter Tryz.func74, Tryz.ntmps74
    go_wp2_with fail
    go_ret
    exact ⟨Ext.alloc _ _, rfl⟩
  · have hn0 : n ≠ 0 := fun h => h0 (hs.1.1 h)
    have hlen : 0 < l.length := List.length_pos_iff.2 h0
    have e0 : (((l.length : Nat) : Int) == 0) = false := by simp; omega
    cases b
    · have h1 : 0 < n := by have := hs.2; simp at this; omega
      have S : Hid (sgn n = 1) := by show sgn n = 1; unfold sgn; rw [if_neg (by omega), if_pos h1]
      clear hs hn0 h1
      go_enter Tryz.func74, Tryz.ntmps74
      go_wp2_with fail
      go_ret
      exact ⟨Ext.alloc _ _, by rw [S.out]; rfl⟩
    · have h1 : n < 0 := hs.2.2 rfl
      have S : Hid (sgn n = -1) := by show sgn n = -1; unfold sgn; rw [if_pos h1]
      clear hs hn0 h1
      go_enter Tryz.func74, Tryz.ntmps74
      go_wp2_with fail
      go_ret
      exact ⟨Ext.alloc _ _, by rw [S.out]; rfl⟩
end

section

/-- at most k digits -/
def SzI (k : Nat) (n : Int) : Prop := n.natAbs < B32 ^ k
theorem SzI.length {k : Nat} {n : Int} {b : Bool} {l : List Nat} (h : SzI k n) (hn : Norm l) (hv : n = if b then -(dval l : Int) else (dval l : Int)) : l.length ≤ k := by
  refine norm_length_le hn ?_
  unfold SzI at h
  have : n.natAbs = dval l := by subst hv; cases b <;> simp
  omega
theorem SzI.mono {k k' : Nat} {n : Int} (h : SzI k n) (hk : k ≤ k') : SzI k' n := Nat.lt_of_lt_of_le h (Nat.pow_le_pow_right B32_pos hk)

theorem sgn_abs {n : Int} {b : Bool} {l : List Nat} (hv : n = if b then -(dval l : Int) else (dval l : Int)) : n = sval b (dval l) := hv

set_option maxHeartbeats 400000 in
theorem icompare_spec (w : World) (va vb : Value) (x y : Int) (k : Nat) (ha : IntV x va w) (hb : IntV y vb w) (hx : SzI k x) (hy : SzI k y) (hk : k ≤ 549755813888) :
    Calls Tryz.prog 59 #[va, vb] w (fun e w' => Ext w w' ∧ e = .returned (.int .i64 (cmpI x y))) := by
  obtain ⟨b, A, cap, l, rfl, hm, hn, hbn, hv⟩ := ha.form
  obtain ⟨b', A', cap', l', rfl, hm', hn', hbn', hv'⟩ := hb.form
  have hl := hx.length hn hv
  have hl' := hy.length hn' hv'
  have hs := IntV.len hn hbn hv
  have hs' := IntV.len hn' hbn' hv'
  have M := Lib.hid hm
  have M' := Lib.hid hm'
  have N := Lib.hid hn
  have N' := Lib.hid hn'
  have V := Lib.hid hv
  have V' := Lib.hid hv'
  clear ha hb hm hm' hn hn' hbn hbn' hv hv' hx hy
  have E2 : ∀ o o' : Obj, Ext w ((w.alloc o).alloc o') := fun o o' => (Ext.alloc _ _).trans (Ext.alloc _ _)
  cases b <;> cases b'
  · have S : Hid (cmpN (dval l) (dval l') = cmpI x y) := by
      show _ = _
      have h1 := V.out; have h2 := V'.out
      simp at h1 h2
      unfold cmpN cmpI
      subst h1 h2
      simp
    clear hs hs' V V'
    go_enter Tryz.func59, Tryz.ntmps59
    go_wp2_with fail
    refine (order_spec _ _ _ l l' (M.out.ext (E2 _ _)) (M'.out.ext (E2 _ _)) N.out N'.out (by omega) (by omega)).mono ?_
    rintro e w1 ⟨hx1, rfl⟩
    go_wp2_with fail
    go_ret
    exact ⟨(E2 _ _).trans hx1, by rw [← S.out]; rfl⟩
  · have S : Hid (cmpI x y = 1) := by
      show _ = _
      have h1 := hs.2; have h2 := hs'.2; simp at h1 h2
      exact cmpI_gt (by omega)
    clear hs hs' V V'
    go_enter Tryz.func59, Tryz.ntmps59
    go_wp2_with fail
    go_ret
    exact ⟨E2 _ _, by rw [S.out]; rfl⟩
  · have S : Hid (cmpI x y = -1) := by
      show _ = _
      have h1 := hs.2; have h2 := hs'.2; simp at h1 h2
      exact cmpI_lt (by omega)
    clear hs hs' V V'
    go_enter Tryz.func59, Tryz.ntmps59
    go_wp2_with fail
    go_ret
    exact ⟨E2 _ _, by rw [S.out]; rfl⟩
  · have S : Hid (cmpN (dval l') (dval l) = cmpI x y) := by
      show _ = _
      have h1 := V.out; have h2 := V'.out
      simp at h1 h2
      unfold cmpN cmpI
      subst h1 h2
      simp
    clear hs hs' V V'
    go_enter Tryz.func59, Tryz.ntmps59
    go_wp2_with fail
    refine (order_spec _ _ _ l' l (M'.out.ext (E2 _ _)) (M.out.ext (E2 _ _)) N'.out N.out (by omega) (by omega)).mono ?_
    rintro e w1 ⟨hx1, rfl⟩
    go_wp2_with fail
    go_ret
    exact ⟨(E2 _ _).trans hx1, by rw [← S.out]; rfl⟩
end

section

/-- one round of a difference -/
theorem minus_round {w wr : World} {a b ds : List Nat} {k cc c' bk : Nat} {e : Int} (hlt : k < a.length) (hl : ds.length = k) (hok : digitsOk ds) (hev : dval ds + dval (b.take k) = dval (a.take k) + B32 ^ k * cc) (hf : Fill wr w.heap.size a.length ds) (hbl : Below w.heap.size w wr)
    (hb : dval (b.take (k + 1)) = dval (b.take k) + B32 ^ k * bk) (bx : a[k] < 4294967296) (bb : bk < 4294967296) (hc : cc ≤ 1) (he : e = (a[k] : Int) - (cc : Int) - (bk : Int)) (hc' : c' = if e < 0 then 1 else 0) :
    ∃ (k1 c1 : Nat) (ds1 : List Nat), k1 ≤ a.length ∧ Value.int .i64 ((k : Int) + 1) = .int .i64 (k1 : Int) ∧ Value.int .i64 (c' : Int) = .int .i64 (c1 : Int) ∧ c1 ≤ 1 ∧ ds1.length = k1 ∧ digitsOk ds1 ∧ dval ds1 + dval (b.take k1) = dval (a.take k1) + B32 ^ k1 * c1 ∧
      Fill (wr.setCell ⟨w.heap.size, k, none⟩ (.int .u32 (e % 4294967296))) w.heap.size a.length ds1 ∧ Below w.heap.size w (wr.setCell ⟨w.heap.size, k, none⟩ (.int .u32 (e % 4294967296))) := by
  have hd : (e % 4294967296).toNat < B32 := by rw [B32_eq]; omega
  have hcast : ((e % 4294967296).toNat : Int) = e % 4294967296 := by omega
  refine ⟨k + 1, c', ds ++ [(e % 4294967296).toNat], by omega, by rw [show ((k + 1 : Nat) : Int) = (k : Int) + 1 from by omega], rfl, by subst hc'; split <;> omega, by simp [hl], hok.snoc hd, ?_, ?_, hbl.setCell (Nat.le_refl _) _⟩
  · refine minus_step hl hlt hb hev ?_
    rw [B32_eq]
    subst hc'
    split <;> omega
  · have h5 := hf.set (x := (e % 4294967296).toNat) hl (by omega)
    rw [hcast] at h5
    exact h5

set_option maxHeartbeats 1000000 in
theorem minus_spec (w : World) (va vb : Value) (a b : List Nat) (ha : Limbs w va a) (hb : Limbs w vb b) (na : digitsOk a) (nb : digitsOk b) (la : a.length ≤ 1099511627775) (hab : b.length ≤ a.length) (hval : dval b ≤ dval a) :
    Calls Tryz.prog 156 #[va, vb] w (fun e w' => Ext w w' ∧ ∃ v l, e = .returned v ∧ Limbs w' v l ∧ digitsOk l ∧ l.length = a.length ∧ dval l = dval a - dval b) := by
  obtain ⟨A, ca, rfl, hca⟩ := ha.form
  obtain ⟨B, cb, rfl, hcb⟩ := hb.form
  have hA : At w A a := fun h => ha.cell.2.2 h
  have hB : At w B b := fun h => hb.cell.2.2 h
  have HA := Lib.hid hA
  have HB := Lib.hid hB
  have NA := Lib.hid na
  have NB := Lib.hid nb
  have HL := Lib.hid hval
  clear hA hB ha hb na nb hval
  have hmk := make_u32 a.length (by omega)
  go_enter Tryz.func156, Tryz.ntmps156
  go_wp2_with fail
  clear hmk
  go_loopw [6, 15] (fun c i wr => ∃ (k cc : Nat) (ds : List Nat), k ≤ a.length ∧ i = .int .i64 (k : Int) ∧ c = .int .i64 (cc : Int) ∧ cc ≤ 1 ∧ ds.length = k ∧ digitsOk ds ∧ dval ds + dval (b.take k) = dval (a.take k) + B32 ^ k * cc ∧ Fill wr w.heap.size a.length ds ∧ Below w.heap.size w wr) (fun _ i _ => a.length - (intOf i).toNat)
  case atStart => exact ⟨0, 0, [], Nat.zero_le _, rfl, rfl, by omega, rfl, by intro d hd; simp at hd, by simp [dval], Fill.new _ _, Ext.alloc _ _⟩
  case round =>
    obtain ⟨k, cc, ds, hk, rfl, rfl, hcc, hds, hok, hev, hfill, hbel⟩ := hrel
    have HDS := Lib.hid hds
    have HOK := Lib.hid hok
    have HEV := Lib.hid hev
    have HF := Lib.hid hfill
    have HBL := Lib.hid hbel
    clear hds hok hev hfill hbel
    by_cases hlt : k < a.length
    · obtain ⟨g, off, rfl, hg, h3⟩ := HA.out (by omega)
      have hx : wr.cell? ⟨g, off + k, none⟩ = some (.int .u32 ((a[k] : Nat) : Int)) := (HBL.out.cell (p := ⟨g, off + k, none⟩) hg).trans (h3 k _ (by simp [hlt]))
      have bx : a[k] < 4294967296 := NA.out.get hlt
      have ho := HF.out.cell HDS.out (by omega)
      have hfr := HF.out.free (i := k)
      clear h3
      by_cases hlb : k < b.length
      · obtain ⟨g', off', rfl, hg', h3'⟩ := HB.out (by omega)
        have hy : wr.cell? ⟨g', off' + k, none⟩ = some (.int .u32 ((b[k] : Nat) : Int)) := (HBL.out.cell (p := ⟨g', off' + k, none⟩) hg').trans (h3' k _ (by simp [hlb]))
        have by_ : b[k] < 4294967296 := NB.out.get hlb
        clear h3'
        by_cases hneg : ((a[k] : Nat) : Int) - (cc : Int) - ((b[k] : Nat) : Int) < 0
        · have R := minus_round (c' := 1) hlt HDS.out HOK.out HEV.out HF.out HBL.out (dval_take_succ b k hlb) bx by_ hcc rfl (by rw [if_pos hneg])
          have RH := Lib.hid R
          clear R
          go_wp2_with fail
          go_roundw
          case rel => exact RH.out
          case measure => simp [intOf]; omega
        · have R := minus_round (c' := 0) hlt HDS.out HOK.out HEV.out HF.out HBL.out (dval_take_succ b k hlb) bx by_ hcc rfl (by rw [if_neg hneg])
          have RH := Lib.hid R
          clear R
          have em : (((a[k] : Nat) : Int) - (cc : Int) - ((b[k] : Nat) : Int)) % 4294967296 = ((a[k] : Nat) : Int) - (cc : Int) - ((b[k] : Nat) : Int) := by omega
          have EM := Lib.hid em
          clear em
          go_wp2_with fail
          go_roundw
          case rel =>
            have h6 := RH.out
            first | exact h6 | (rw [EM.out] at h6; exact h6)
          case measure => simp [intOf]; omega
      · have hb1 := dval_take_or b k
        rw [show b.getD k 0 = 0 by simp [show b.length ≤ k by omega]] at hb1
        by_cases hneg : ((a[k] : Nat) : Int) - (cc : Int) < 0
        · have R := minus_round (c' := 1) hlt HDS.out HOK.out HEV.out HF.out HBL.out hb1 bx (by omega) hcc rfl (by rw [if_pos (by omega)])
          have RH := Lib.hid R
          clear R hb1
          go_wp2_with fail
          go_roundw
          case rel =>
            have h6 := RH.out
            simp only [Int.cast_ofNat_Int, Int.sub_zero] at h6
            exact h6
          case measure => simp [intOf]; omega
        · have R := minus_round (c' := 0) hlt HDS.out HOK.out HEV.out HF.out HBL.out hb1 bx (by omega) hcc rfl (by rw [if_neg (by omega)])
          have RH := Lib.hid R
          clear R hb1
          have em : (((a[k] : Nat) : Int) - (cc : Int)) % 4294967296 = ((a[k] : Nat) : Int) - (cc : Int) := by omega
          have EM := Lib.hid em
          clear em
          go_wp2_with fail
          go_roundw
          case rel =>
            have h6 := RH.out
            simp only [Int.cast_ofNat_Int, Int.sub_zero] at h6
            first | exact h6 | (rw [EM.out] at h6; exact h6)
          case measure => simp [intOf]; omega
    · have hk0 : k = a.length := by omega
      subst hk0
      go_wp2_with fail
      go_ret
      have h7 := HEV.out
      rw [List.take_of_length_le (Nat.le_refl _), List.take_of_length_le hab] at h7
      have h8 := dval_lt HOK.out
      rw [HDS.out] at h8
      have h9 := HL.out
      have hc0 : cc = 0 := by
        rcases Nat.eq_zero_or_pos cc with h | h
        · exact h
        · exfalso
          have : cc = 1 := by omega
          subst this
          omega
      refine ⟨HBL.out, _, ds, rfl, HF.out.limbs HDS.out, HOK.out, HDS.out, ?_⟩
      subst hc0
      omega
end

section

theorem mul_bound {x y : Nat} (hx : x < 4294967296) (hy : y < 4294967296) : (0 : Int) ≤ (x : Int) * (y : Int) ∧ (x : Int) * (y : Int) ≤ 18446744065119617025 := by
  have h1 : x * y ≤ 4294967295 * 4294967295 := Nat.mul_le_mul (by omega) (by omega)
  constructor
  · exact_mod_cast Nat.zero_le _
  · have : ((x * y : Nat) : Int) ≤ 18446744065119617025 := by omega
    simpa using this

set_option maxHeartbeats 1000000 in
theorem scale_spec (w : World) (va : Value) (m : List Nat) (y p : Nat) (ha : Limbs w va m) (na : digitsOk m) (la : m.length ≤ 1099511627775) (hy : y < 4294967296) (hp : p < 4294967296) :
    Calls Tryz.prog 112 #[va, .int .u32 (y : Int), .int .u32 (p : Int)] w (fun e w' => Ext w w' ∧ ∃ v l, e = .returned v ∧ Limbs w' v l ∧ Norm l ∧ l.length ≤ m.length + 1 ∧ dval l = y * dval m + p) := by
  obtain ⟨A, ca, rfl, hca⟩ := ha.form
  have hA : At w A m := fun h => ha.cell.2.2 h
  have HA := Lib.hid hA
  have NA := Lib.hid na
  clear hA ha na
  have hmk := make_u32 (m.length + 1) (by omega)
  have ec : ((m.length + 1 : Nat) : Int) = (m.length : Int) + 1 := by omega
  rw [ec] at hmk
  clear ec
  go_enter Tryz.func112, Tryz.ntmps112
  go_wp2_with fail
  clear hmk
  go_loopw [8, 19] (fun c i wr => ∃ (k cc : Nat) (ds : List Nat), k ≤ m.length ∧ i = .int .i64 (k : Int) ∧ c = .int .u64 (cc : Int) ∧ cc < 4294967296 ∧ ds.length = k ∧ digitsOk ds ∧ dval ds + B32 ^ k * cc = y * dval (m.take k) + p ∧ Fill wr w.heap.size (m.length + 1) ds ∧ Below w.heap.size w wr) (fun _ i _ => m.length - (intOf i).toNat)
  case atStart => exact ⟨0, p, [], Nat.zero_le _, rfl, rfl, hp, rfl, by intro d hd; simp at hd, by simp [dval], Fill.new _ _, Ext.alloc _ _⟩
  case round =>
    obtain ⟨k, cc, ds, hk, rfl, rfl, hcc, hds, hok, hev, hfill, hbel⟩ := hrel
    have HDS := Lib.hid hds
    have HOK := Lib.hid hok
    have HEV := Lib.hid hev
    have HF := Lib.hid hfill
    have HBL := Lib.hid hbel
    clear hds hok hev hfill hbel
    by_cases hlt : k < m.length
    · obtain ⟨g, off, rfl, hg, h3⟩ := HA.out (by omega)
      have hx : wr.cell? ⟨g, off + k, none⟩ = some (.int .u32 ((m[k] : Nat) : Int)) := (HBL.out.cell (p := ⟨g, off + k, none⟩) hg).trans (h3 k _ (by simp [hlt]))
      have bx : m[k] < 4294967296 := NA.out.get hlt
      have ho := HF.out.cell HDS.out (by omega)
      have hfr := HF.out.free (i := k)
      obtain ⟨b0, b1⟩ := mul_bound bx hy
      clear h3
      go_wp2_with fail
      go_roundw
      case rel =>
        have hst := scale_step (ds := ds) (m := m) (s := cc + m[k] * y) HDS.out hlt HEV.out rfl
        have hsm : cc + m[k] * y < 18446744073709551616 := by
          have : ((cc + m[k] * y : Nat) : Int) < 18446744073709551616 := by
            rw [Int.natCast_add, Int.natCast_mul]; omega
          omega
        refine ⟨k + 1, (cc + m[k] * y) / B32, ds ++ [(cc + m[k] * y) % B32], by omega, by go_num, ?_, ?_, by simp [HDS.out], HOK.out.snoc (Nat.mod_lt _ B32_pos), hst, ?_, HBL.out.setCell (Nat.le_refl _) _⟩
        · rw [B32_eq, Int.natCast_ediv, Int.natCast_add, Int.natCast_mul]; rfl
        · rw [B32_eq]; omega
        · have h5 := HF.out.set (x := (cc + m[k] * y) % B32) HDS.out (by omega)
          rw [B32_eq, Int.natCast_emod, Int.natCast_add, Int.natCast_mul] at h5
          rw [B32_eq]
          exact h5
      case measure => simp [intOf]; omega
    · have hk0 : k = m.length := by omega
      subst hk0
      have ho := HF.out.cell HDS.out (by omega)
      have hfr := HF.out.free (i := m.length)
      have h5 := HF.out.set (x := cc) HDS.out (by omega)
      have h6 := h5.limbs (by simp [HDS.out])
      have H6 := Lib.hid h6
      clear h5 h6
      go_wp2_with fail
      refine (trim_spec _ _ _ H6.out (by simp [HDS.out]; omega)).mono ?_
      rintro e w1 ⟨rfl, v1, rfl, h7⟩
      have H7 := Lib.hid h7
      clear h7
      go_wp2_with fail
      go_ret
      refine ⟨HBL.out.setCell (Nat.le_refl _) _, _, _, rfl, H7.out, trimL_norm (HOK.out.snoc (by rw [B32_eq]; omega)), Nat.le_trans (trimL_length _) (by simp [HDS.out]), ?_⟩
      have h8 := HEV.out
      rw [List.take_of_length_le (Nat.le_refl _)] at h8
      rw [dval_trimL, dval_snoc, HDS.out]; exact h8

theorem zeros_head {qs : List Nat} {n k x : Nat} (hl : k + qs.length = n) (hk : 0 < k) : (List.replicate k 0 ++ qs).set (k - 1) x = List.replicate (k - 1) 0 ++ (x :: qs) := by
  obtain ⟨j, rfl⟩ : ∃ j, k = j + 1 := ⟨k - 1, by omega⟩
  simp only [Nat.add_sub_cancel]
  rw [List.replicate_succ', List.append_assoc, List.set_append_right _ _ (by simp)]
  simp

theorem or_u64 {r d : Nat} (hr : r < 4294967296) (hd : d < 4294967296) : Go.bits .or .u64 ((r : Int) * 4294967296) (d : Int) = ((r * 4294967296 + d : Nat) : Int) := by
  have h1 := u64_or_nat (r * 4294967296) d (by omega) (by omega)
  have h2 : r * 4294967296 ||| d = r * 4294967296 + d := by
    have h3 := Nat.shiftLeft_add_eq_or_of_lt (b := d) (i := 32) (by omega) r
    rw [Nat.shiftLeft_eq] at h3
    exact h3.symm
  rw [h2] at h1
  rw [← h1]
  congr 1

set_option maxHeartbeats 1000000 in
theorem short_spec (w : World) (va : Value) (m : List Nat) (y : Nat) (ha : Limbs w va m) (na : digitsOk m) (la : m.length ≤ 1099511627775) (hy : y < 4294967296) (hy0 : 0 < y) :
    Calls Tryz.prog 145 #[va, .int .u32 (y : Int)] w (fun e w' => Ext w w' ∧ ∃ v l, e = .returned (.tuple #[v, .int .u32 ((dval m % y : Nat) : Int)]) ∧ Limbs w' v l ∧ Norm l ∧ l.length ≤ m.length ∧ dval l = dval m / y) := by
  obtain ⟨A, ca, rfl, hca⟩ := ha.form
  have hA : At w A m := fun h => ha.cell.2.2 h
  have HA := Lib.hid hA
  have NA := Lib.hid na
  clear hA ha na
  have hmk := make_u32 m.length (by omega)
  go_enter Tryz.func145, Tryz.ntmps145
  go_wp2_with fail
  clear hmk
  go_loopw [7, 8] (fun c i wr => ∃ (k rest : Nat) (qs : List Nat), k ≤ m.length ∧ i = .int .i64 ((k : Int) - 1) ∧ c = .int .u64 (rest : Int) ∧ rest < y ∧ k + qs.length = m.length ∧ digitsOk qs ∧ dval (m.drop k) = y * dval qs + rest ∧ Blk wr w.heap.size 231 (digs (List.replicate k 0 ++ qs)) ∧ Below w.heap.size w wr) (fun _ i _ => (intOf i + 1).toNat)
  case atStart => exact ⟨m.length, 0, [], Nat.le_refl _, rfl, rfl, hy0, by simp, by intro d hd; simp at hd, by simp [dval], by simpa using Blk.new w 231 (digs (List.replicate m.length 0)), Ext.alloc _ _⟩
  case round =>
    obtain ⟨k, rest, qs, hk, rfl, rfl, hr, hl, hok, hev, hfill, hbel⟩ := hrel
    have HDS := Lib.hid hl
    have HOK := Lib.hid hok
    have HEV := Lib.hid hev
    have HF := Lib.hid hfill
    have HBL := Lib.hid hbel
    clear hl hok hev hfill hbel
    by_cases hlt : 0 < k
    · obtain ⟨g, off, rfl, hg, h3⟩ := HA.out (by omega)
      have hx : wr.cell? ⟨g, off + (k - 1), none⟩ = some (.int .u32 ((m[k-1]'(by omega) : Nat) : Int)) := (HBL.out.cell (p := ⟨g, off + (k - 1), none⟩) hg).trans (h3 (k-1) _ (by simp))
      have bx : m[k-1]'(by omega) < 4294967296 := NA.out.get (by omega)
      have ho : wr.cell? ⟨w.heap.size, k - 1, none⟩ = some (.int .u32 0) := by
        rw [HF.out.dig (by simp; omega)]
        rw [List.getElem_append_left (by simp; omega)]
        simp
      have hfr := HF.out.free (i := k - 1)
      have hor := or_u64 (r := rest) (d := m[k-1]'(by omega)) (by omega) bx
      clear h3
      go_wp2_with fail
      go_roundw
      case rel =>
        have hst := short_step (qs := qs) (m := m) (i := k - 1) (rest := rest) (r := rest * B32 + m[k-1]'(by omega)) (by_ := y) (by omega) (by rw [show k - 1 + 1 = k by omega]; exact HEV.out) rfl
        rw [B32_eq] at hst
        have hq : (rest * 4294967296 + m[k-1]'(by omega)) / y < 4294967296 := by
          rw [Nat.div_lt_iff_lt_mul hy0]
          have : (rest + 1) * 4294967296 ≤ y * 4294967296 := Nat.mul_le_mul_right _ (by omega)
          omega
        have hmodq : (rest * 4294967296 + m[k-1]'(by omega)) / y % 4294967296 = (rest * 4294967296 + m[k-1]'(by omega)) / y := Nat.mod_eq_of_lt hq
        refine ⟨k - 1, (rest * 4294967296 + m[k-1]'(by omega)) % y, ((rest * 4294967296 + m[k-1]'(by omega)) / y) :: qs, by omega, by rw [show ((k - 1 : Nat) : Int) = (k : Int) - 1 from by omega], ?_, Nat.mod_lt _ hy0, by have := HDS.out; simp; omega, ?_, hst, ?_, HBL.out.setCell (Nat.le_refl _) _⟩
        · rw [Int.natCast_emod, Int.natCast_add, Int.natCast_mul]; rfl
        · intro d hd
          rcases List.mem_cons.1 hd with h | h
          · subst h; rw [B32_eq]; exact hq
          · exact HOK.out d h
        · have h5 := Blk.setCell (i := k - 1) (x := (rest * 4294967296 + m[k-1]'(by omega)) / y % 4294967296) HF.out
          rw [zeros_head HDS.out hlt] at h5
          rw [Int.natCast_emod, Int.natCast_ediv, Int.natCast_add, Int.natCast_mul, hmodq] at h5
          exact h5
      case measure => simp [intOf]; omega
    · have hk0 : k = 0 := by omega
      subst hk0
      have hz : digs (List.replicate 0 0 ++ qs) = digs qs := by simp
      have hql : qs.length = m.length := by have := HDS.out; omega
      have h6 := Limbs.of_blk (l := qs) (by have := HF.out; rwa [hz] at this) m.length (by omega)
      rw [hql] at h6
      have H6 := Lib.hid h6
      have HQ := Lib.hid hql
      clear h6 hz hql
      go_wp2_with fail
      refine (trim_spec _ _ _ H6.out (by have := HQ.out; omega)).mono ?_
      rintro e w1 ⟨rfl, v1, rfl, h7⟩
      have H7 := Lib.hid h7
      clear h7
      go_wp2_with fail
      go_ret2
      have h8 := HEV.out
      rw [List.drop_zero] at h8
      refine ⟨HBL.out, _, _, ?_, H7.out, trimL_norm HOK.out, Nat.le_trans (trimL_length _) (by have := HQ.out; omega), ?_⟩
      · have h9 : dval m % y = rest := by rw [h8, Nat.mul_add_mod]; exact Nat.mod_eq_of_lt hr
        rw [h9]
        rfl
      · rw [dval_trimL, h8, Nat.mul_add_div hy0, Nat.div_eq_of_lt hr, Nat.add_zero]
end
end Go.Proofs.YteaggpgdfiodfaaGreatDoor
