/-
  rational.Read as an oracle: at the statement's text, and at the texts that the law writes. Conditions: none beyond the size.
-/
import Derived.Test.YteaggpgdfiodfaaGreatDoorRsp
import Derived.Test.YteaggpgdfiodfaaGreatDoorTxt
import Derived.KernelRfl
namespace Go.Proofs.YteaggpgdfiodfaaGreatDoor
set_option linter.all false
open Go.RowKit

def AV.plain : AV → Bool
  | .nil => true
  | .cons a r => a.plain && r.plain
  | .sc _ => true
  | .int _ _ => true
  | .den => true
  | .lim _ => true
  | .any => true
  | _ => false
theorem dv_plain {R1 R2 : Rho} {γ γ' : Nat → Option Nat} {N N' : Nat → Prop} {w : World} {a : AV} {l : List Value} (hd : @DV R1 γ N w a l) (h : a.plain = true) : @DV R2 γ' N' w a l := by
  induction hd with
  | nil => exact .nil
  | cons _ _ ih1 ih2 =>
    simp only [AV.plain, Bool.and_eq_true] at h
    exact .cons (ih1 h.1) (ih2 h.2)
  | sc h1 => exact .sc h1
  | int h1 h2 => exact .int h1 h2
  | den h1 h2 => exact .den h1 h2
  | lim h1 => exact .lim h1
  | any h1 => exact .any h1
  | sym => cases h
  | sl => cases h
  | osl => cases h
  | ptr => cases h
  | fp => cases h
  | fn => cases h
/-- an error and a value -/
def pairV (a : AV) (e : Int) : SV := .tup [(true, a), (false, .sc (.int .i64 e))]
theorem pair_inv {R : Rho} {γ : Nat → Option Nat} {N : Nat → Prop} {w : World} {a : AV} {e : Int} {v : Value} (h : @VR R γ N w (pairV a e) v) : ∃ l, v = .tuple #[.agg l.toArray, .int .i64 e] ∧ @DV R γ N w a l := by
  obtain ⟨vs, rfl, h1⟩ := h
  cases h1 with
  | cons h2 h3 =>
    cases h3 with
    | cons h4 h5 =>
      cases h5
      obtain ⟨l, rfl, h6⟩ := h2
      have h7 : DV γ N w (.sc (.int .i64 e)) [_] := h4
      cases h7
      exact ⟨l, rfl, h6⟩
theorem pair_mk {R : Rho} {γ : Nat → Option Nat} {N : Nat → Prop} {w : World} {a : AV} {e : Int} {l : List Value} (h : @DV R γ N w a l) : @VR R γ N w (pairV a e) (.tuple #[.agg l.toArray, .int .i64 e]) :=
  ⟨[.agg l.toArray, .int .i64 e], rfl, .cons (p := (true, a)) ⟨l, rfl, h⟩ (.cons (p := (false, _)) (DV.sc rfl) .nil)⟩
def rAV (l : List UInt8) : AV := if rErr l = 0 then rVal l else zeroAV
theorem rSV_eq (l : List UInt8) : rSV l = pairV (rAV l) (rErr l) := by
  unfold rSV rAV
  split
  · rename_i h; rw [h]; rfl
  · rfl
theorem rAV_form (l : List UInt8) : (rAV l = zeroAV) ∨ (∃ n, rAV l = .cons (.int n 4) (.cons .den .nil)) ∨ ∃ m n, rAV l = .cons (.int m 4) (.cons (.int n 4) .nil) := by
  unfold rAV
  split
  · unfold rVal
    split
    · exact .inr (.inr ⟨_, _, rfl⟩)
    · exact .inr (.inl ⟨_, rfl⟩)
  · exact .inl rfl
theorem rAV_plain (l : List UInt8) : (rAV l).plain = true := by
  rcases rAV_form l with h | ⟨n, h⟩ | ⟨m, n, h⟩ <;> rw [h] <;> rfl

def oRd (r : SV) : Orac
  | [.one .sym, .one (.sc (.int .i64 (.ofNat k)))] => cond (Nat.beq k 65536) (some r) none
  | _ => none
def OR1 (r : SV) (f : Nat) (args : List SV) : Option SV := cond (Nat.beq f 15) (oRd r args) none
theorem ev_Read_err (e : Int) : evK Tryz.prog (OR1 (pairV zeroAV e)) keepF 100 3 none 6 [.one .sym] ⟨0, []⟩ = some (pairV zeroAV e, ⟨0, []⟩) := by kernel_rfl
theorem ev_Read_whole (n e : Int) : evK Tryz.prog (OR1 (pairV (.cons (.int n 4) (.cons .den .nil)) e)) keepF 100 3 none 6 [.one .sym] ⟨0, []⟩ = some (pairV (.cons (.int n 4) (.cons .den .nil)) e, ⟨0, []⟩) := by kernel_rfl
theorem ev_Read_frac (m n e : Int) : evK Tryz.prog (OR1 (pairV (.cons (.int m 4) (.cons (.int n 4) .nil)) e)) keepF 100 3 none 6 [.one .sym] ⟨0, []⟩ = some (pairV (.cons (.int m 4) (.cons (.int n 4) .nil)) e, ⟨0, []⟩) := by kernel_rfl
theorem ev_Read (l : List UInt8) : evK Tryz.prog (OR1 (rSV l)) keepF 100 3 none 6 [.one .sym] ⟨0, []⟩ = some (rSV l, ⟨0, []⟩) := by
  rw [rSV_eq]
  rcases rAV_form l with h | ⟨n, h⟩ | ⟨m, n, h⟩
  · rw [h]; exact ev_Read_err _
  · rw [h]; exact ev_Read_whole _ _
  · rw [h]; exact ev_Read_frac _ _ _
theorem or_rd {s : ByteArray} (hs : s.size ≤ 20) : @OrOk ⟨.string s, rfl⟩ Tryz.prog (OR1 (rSV s.data.toList)) := by
  letI : Rho := ⟨.string s, rfl⟩
  refine OrOk.cond ?_ (.none _)
  intro args r hr γ N0 H w vs hS hc
  unfold oRd at hr
  split at hr
  · rename_i k
    rcases cond_some hr with ⟨h1, h2⟩ | ⟨_, h2⟩
    · cases h2
      have := Nat.eq_of_beq_eq_true h1
      subst this
      cases hc with
      | cons h3 h4 =>
        cases h4 with
        | cons h5 h6 =>
          cases h6
          cases h3
          cases h5
          refine (read_spec w s hs).mono ?_
          rintro e w' ⟨hx, v, rfl, γ1, N1, hv⟩
          rw [rSV_eq] at hv ⊢
          obtain ⟨l, rfl, hl⟩ := pair_inv hv
          exact ⟨_, rfl, hx, pair_mk (dv_plain hl (rAV_plain _))⟩
    · cases h2
  · cases hr
/-- rational.Read at a text of at most 20 bytes -/
theorem Read_spec (w : World) (s : ByteArray) (hs : s.size ≤ 20) : Calls Tryz.prog 6 #[.string s] w (fun e w' => Ext w w' ∧ ∃ l, e = .returned (.tuple #[.agg l.toArray, .int .i64 (rErr s.data.toList)]) ∧ ∀ (R : Rho) γ N, @DV R γ N w' (rAV s.data.toList) l) := by
  letI : Rho := ⟨.string s, rfl⟩
  refine (ev_run (or_rd hs) (ev_Read s.data.toList) noN_lt (w := w) (vs := [.string s]) (caps1 .sym)).mono ?_
  rintro e w' ⟨v, rfl, hx, hv⟩
  rw [rSV_eq] at hv
  obtain ⟨l, rfl, hl⟩ := pair_inv hv
  exact ⟨hx, l, rfl, fun R γ N => dv_plain hl (rAV_plain _)⟩

theorem eqN_eq : ∀ {l m : List Nat}, eqN l m = true → l = m := by
  intro l
  induction l with
  | nil => intro m h; cases m with | nil => rfl | cons => cases h
  | cons a r ih =>
    intro m h
    cases m with
    | nil => cases h
    | cons b q =>
      simp only [eqN, Bool.and_eq_true] at h
      rw [Nat.eq_of_beq_eq_true h.1, ih h.2]
theorem bN_inj {b : ByteArray} {l : List Nat} (h : bN b = l) : b.data.toList = l.map UInt8.ofNat := by
  subst h
  unfold bN
  rw [List.map_map]
  have : (UInt8.ofNat ∘ UInt8.toNat) = id := by
    funext x
    show UInt8.ofNat x.toNat = x
    simp
  rw [this, List.map_id]
section
variable [Rho]
theorem narrow {γ : Nat → Option Nat} {N : Nat → Prop} {w : World} {n : Int} {j k : Nat} {r : AV} {l : List Value} (h : DV γ N w (.cons (.int n j) r) l) (hk : SzI k n) : DV γ N w (.cons (.int n k) r) l := by
  cases h with
  | cons h1 h2 =>
    cases h1 with
    | int h3 _ => exact .cons (.int h3 hk) h2
theorem narrow2 {γ : Nat → Option Nat} {N : Nat → Prop} {w : World} {n : Int} {j k : Nat} {a r : AV} {l : List Value} (h : DV γ N w (.cons a (.cons (.int n j) r)) l) (hk : SzI k n) : DV γ N w (.cons a (.cons (.int n k) r)) l := by
  cases h with
  | cons h1 h2 => exact .cons h1 (narrow h2 hk)
theorem oread1 {b : ByteArray} {t : List Nat} {a a' : AV} (h : bN b = t) (ht : t.length ≤ 20) (he : rErr (t.map UInt8.ofNat) = 0) (hv : rAV (t.map UInt8.ofNat) = a)
    (hn : ∀ γ N w l, DV γ N w a l → DV γ N w a' l) (γ : Nat → Option Nat) (N : Nat → Prop) (w : World) : Calls Tryz.prog 6 #[.string b] w fun e w' => ∃ v, e = .returned v ∧ Ext w w' ∧ VR γ N w' (okR a') v := by
  have hb := bN_inj h
  refine (Read_spec w b (by rw [Lib.size_eq, hb, List.length_map]; exact ht)).mono ?_
  rintro e w' ⟨hx, l, rfl, hl⟩
  rw [hb, he]
  rw [hb, hv] at hl
  exact ⟨_, rfl, hx, pair_mk (e := 0) (hn _ _ _ _ (hl _ γ N))⟩
theorem or_readL : Or1 Tryz.prog 6 oReadL := by
  intro args s hs γ N0 H w vs hS hc
  unfold oReadL at hs
  split at hs
  · rename_i b
    cases hc with
    | cons h1 h2 =>
      cases h2
      cases h1
      have z : ∀ {n : Int}, n.natAbs < 10 → SzI 2 n := fun {n} h => by
        unfold SzI
        exact Nat.lt_of_lt_of_le h (by rw [B32_eq]; decide)
      unfold litR at hs
      rcases cond_some hs with ⟨h1, h2⟩ | ⟨_, hs⟩
      · cases h2
        exact oread1 (eqN_eq h1) (by decide) (by kernel_rfl) (a := .cons (.int 0 4) (.cons .den .nil)) (by kernel_rfl) (fun γ N w l h => narrow h (z (by decide))) _ _ _
      rcases cond_some hs with ⟨h1, h2⟩ | ⟨_, hs⟩
      · cases h2
        exact oread1 (eqN_eq h1) (by decide) (by kernel_rfl) (a := .cons (.int 1 4) (.cons .den .nil)) (by kernel_rfl) (fun γ N w l h => narrow h (z (by decide))) _ _ _
      rcases cond_some hs with ⟨h1, h2⟩ | ⟨_, hs⟩
      · cases h2
        exact oread1 (eqN_eq h1) (by decide) (by kernel_rfl) (a := .cons (.int 2 4) (.cons .den .nil)) (by kernel_rfl) (fun γ N w l h => narrow h (z (by decide))) _ _ _
      rcases cond_some hs with ⟨h1, h2⟩ | ⟨_, hs⟩
      · cases h2
        exact oread1 (eqN_eq h1) (by decide) (by kernel_rfl) (a := .cons (.int 4 4) (.cons .den .nil)) (by kernel_rfl) (fun γ N w l h => narrow h (z (by decide))) _ _ _
      rcases cond_some hs with ⟨h1, h2⟩ | ⟨_, hs⟩
      · cases h2
        exact oread1 (eqN_eq h1) (by decide) (by kernel_rfl) (a := .cons (.int 5 4) (.cons .den .nil)) (by kernel_rfl) (fun γ N w l h => narrow h (z (by decide))) _ _ _
      rcases cond_some hs with ⟨h1, h2⟩ | ⟨_, hs⟩
      · cases h2
        exact oread1 (eqN_eq h1) (by decide) (by kernel_rfl) (a := .cons (.int (-5) 4) (.cons .den .nil)) (by kernel_rfl) (fun γ N w l h => narrow h (z (by decide))) _ _ _
      rcases cond_some hs with ⟨h1, h2⟩ | ⟨_, hs⟩
      · cases h2
        exact oread1 (eqN_eq h1) (by decide) (by kernel_rfl) (a := .cons (.int 3 4) (.cons (.int 2 4) .nil)) (by kernel_rfl) (fun γ N w l h => narrow2 (narrow h (z (by decide))) (z (by decide))) _ _ _
      · cases hs
  · cases hs
theorem OB_ok : OrOk Tryz.prog OB := .cond or_readL <| .cond or_text OV_ok
theorem any_list {γ : Nat → Option Nat} {N : Nat → Prop} {w : World} {l : List Value} (h1 : l.length = 4) (h2 : oneCells l = true) : DV γ N w aRat l := by
  match l, h1 with
  | [x, y, z, u], _ =>
    unfold oneCells at h2
    simp only [List.all_cons, List.all_nil, Bool.and_true, Bool.and_eq_true] at h2
    exact .cons (xs := [x]) (.any h2.1) (.cons (xs := [y]) (.any h2.2.1) (.cons (xs := [z]) (.any h2.2.2.1) (.cons (xs := [u]) (.any h2.2.2.2) .nil)))
theorem rAV_any {γ : Nat → Option Nat} {N : Nat → Prop} {w : World} {t : List UInt8} {l : List Value} (h : DV γ N w (rAV t) l) : DV γ N w aRat l := by
  refine any_list ?_ h.one
  rw [h.length]
  rcases rAV_form t with h | ⟨n, h⟩ | ⟨m, n, h⟩ <;> rw [h] <;> rfl
theorem or_read {n : ByteArray} (hv : Rho.v = .string n) (hs : n.size ≤ 20) {e : Int} (he : rErr n.data.toList = e) : Or1 Tryz.prog 6 (oRead e) := by
  intro args s hr γ N0 H w vs hS hc
  unfold oRead at hr
  split at hr
  · cases hr
    cases hc with
    | cons h1 h2 =>
      cases h2
      cases h1
      rw [hv]
      refine (Read_spec w n hs).mono ?_
      rintro e' w' ⟨hx, l, rfl, hl⟩
      rw [he]
      refine ⟨_, rfl, hx, pair_mk (e := e) ?_⟩
      have h3 := hl inferInstance γ (Nn N0 γ)
      cases hb : Nat.beq e.natAbs 0 with
      | true => exact rAV_any h3
      | false =>
        have h4 : ¬ rErr n.data.toList = 0 := by
          rw [he]
          intro h5
          rw [h5] at hb
          cases hb
        have h5 : rAV n.data.toList = zeroAV := by unfold rAV; rw [if_neg h4]
        rw [h5] at h3
        exact h3
  · exact or_readL _ s hr γ N0 H w vs hS hc
theorem or_short {n : ByteArray} (hv : Rho.v = .string n) {b : Bool} (hb : decide (20 < n.size) = b) : Or1 Tryz.prog 14 (oShort b) := by
  intro args s hr γ N0 H w vs hS hc
  unfold oShort at hr
  split at hr
  · cases hr
    cases hc with
    | cons h1 h2 =>
      cases h2
      cases h1
      rw [hv]
      refine (short1_spec w n).mono ?_
      rintro e w' ⟨hx, rfl⟩
      rw [hb]
      exact ⟨_, rfl, hx, DV.sc rfl⟩
  · cases hr
end
end Go.Proofs.YteaggpgdfiodfaaGreatDoor
