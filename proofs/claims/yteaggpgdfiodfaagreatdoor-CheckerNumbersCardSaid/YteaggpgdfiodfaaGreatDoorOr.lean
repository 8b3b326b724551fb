/-
  Oracles of the evaluator: what functions on numbers give (definitions). Conditions: none. Oracles of package integer, sound. Conditions: none. Oracles of whole rationals: what the evaluator finds once for unknown integers serves as an oracle. Conditions: none. Oracles of vectors of whole rationals. Conditions: none. Oracles of texts (definitions), and of calls that are known. Conditions: none. What the evaluator finds for the two cubes (values). Conditions: none.
-/
import Derived.Test.YteaggpgdfiodfaaGreatDoorEy
import Derived.KernelRfl
namespace Go.Proofs.YteaggpgdfiodfaaGreatDoor
set_option linter.all false
open Go.RowKit

section

def iv (n : Int) (k : Nat) : SV := .agg (.cons (.int n k) .nil)
def nv (n : Int) : SV := .one (.sc (.int .i64 n))
def bv (b : Bool) : SV := .one (.sc (.bool b))
def rt (n : Int) (k : Nat) : SV := .agg (.cons (.int n k) (.cons .den .nil))
abbrev Orac := List SV → Option SV
def un {α : Type} (p : SV → Option α) (g : α → Option SV) : Orac
  | [s] => (p s).bind g
  | _ => none
def bi {α β : Type} (p : SV → Option α) (q : SV → Option β) (g : α → β → Option SV) : Orac
  | [s, t] => (p s).bind fun x => (q t).bind fun y => g x y
  | _ => none
abbrev NK := Int × Nat
def kOk (j k : Nat) : Bool := Nat.ble j 1000000 && Nat.ble k 1000000

/-! package integer -/
def oFrom : Orac
  | [.one (.sc (.int .i64 n))] => req (Nat.ble n.natAbs 9223372036854775807) (some (iv n 2))
  | _ => none
def oSign : Orac := un SV.toInt fun x => some (nv (sgn x.1))
def oNeg : Orac := un SV.toInt fun x => some (iv (-x.1) x.2)
def oAbs : Orac := un SV.toInt fun x => some (iv (x.1.natAbs : Int) x.2)
def oCompare : Orac := bi SV.toInt SV.toInt fun x y => req (kOk x.2 y.2) (some (nv (cmpI x.1 y.1)))
def oAdd : Orac := bi SV.toInt SV.toInt fun x y => req (kOk x.2 y.2) (some (iv (x.1 + y.1) (x.2 + y.2 + 1)))
def oMul : Orac := bi SV.toInt SV.toInt fun x y => req (kOk x.2 y.2) (some (iv (x.1 * y.1) (x.2 + y.2)))
def oGcd : Orac := bi SV.toInt SV.toInt fun x y => req (kOk x.2 y.2 && (Nat.blt x.1.natAbs 4294967296 || Nat.blt y.1.natAbs 4294967296)) (some (iv (Nat.gcd x.1.natAbs y.1.natAbs : Nat) (x.2 + y.2)))
def OI (f : Nat) (args : List SV) : Option SV :=
  cond (Nat.beq f 59) (oCompare args) <|
  cond (Nat.beq f 124) (oAdd args) <|
  cond (Nat.beq f 70) (oMul args) <|
  cond (Nat.beq f 74) (oSign args) <|
  cond (Nat.beq f 76) (oFrom args) <|
  cond (Nat.beq f 125) (oNeg args) <|
  cond (Nat.beq f 123) (oAbs args) <|
  cond (Nat.beq f 61) (oGcd args) none

/-! whole rationals -/
def popI : AV → Option (NK × AV)
  | .cons (.int n k) r => some ((n, k), r)
  | .cons (.sc (.bool false)) (.cons (.sc (.slice none 0 0)) r) => some ((0, 1), r)
  | _ => none
def popD : AV → Option AV
  | .cons .den r => some r
  | .cons (.int (.ofNat n) _) r => req (Nat.ble n 1) (some r)
  | .cons (.sc (.bool false)) (.cons (.sc (.slice none 0 0)) r) => some r
  | _ => none
def popR (a : AV) : Option (NK × AV) := (popI a).bind fun p => (popD p.2).bind fun r => some (p.1, r)
def SV.toRat : SV → Option NK
  | .agg a => (popR a).bind fun p => match p.2 with
    | .nil => some p.1
    | _ => none
  | _ => none
def toDen : SV → Option Unit
  | .agg (.cons .den .nil) => some ()
  | _ => none
/-- whether the denominator is 0 or 1 -/
def oWhole : Orac := un SV.toRat fun _ => some (bv true)
def oDen : Orac := un SV.toRat fun _ => some (iv 1 2)
def oRSign : Orac := un SV.toRat fun x => req (Nat.ble x.2 1000) (some (nv (sgn x.1)))
def oRNeg : Orac := un SV.toRat fun x => req (Nat.ble x.2 1000) (some (rt (-x.1) x.2))
def oRAbs : Orac := un SV.toRat fun x => req (Nat.ble x.2 1000) (some (rt (x.1.natAbs : Int) x.2))
def kOkR (j k : Nat) : Bool := Nat.ble j 1000 && Nat.ble k 1000
def oRCompare : Orac := bi SV.toRat SV.toRat fun x y => req (kOkR x.2 y.2) (some (nv (cmpI x.1 y.1)))
def oRAdd : Orac := bi SV.toRat SV.toRat fun x y => req (kOkR x.2 y.2) (some (rt (x.1 + y.1) (x.2 + y.2 + 1)))
def oRSub : Orac := bi SV.toRat SV.toRat fun x y => req (kOkR x.2 y.2) (some (rt (x.1 - y.1) (x.2 + y.2 + 1)))
def oRMul : Orac := bi SV.toRat SV.toRat fun x y => req (kOkR x.2 y.2) (some (rt (x.1 * y.1) (x.2 + y.2)))
def OW (f : Nat) (args : List SV) : Option SV :=
  cond (Nat.beq f 69) (oWhole args) <|
  cond (Nat.beq f 71) (oDen args) (OI f args)
def OQ (f : Nat) (args : List SV) : Option SV :=
  cond (Nat.beq f 25) (oRCompare args) <|
  cond (Nat.beq f 49) (oRMul args) <|
  cond (Nat.beq f 79) (oRAdd args) <|
  cond (Nat.beq f 32) (oRSub args) <|
  cond (Nat.beq f 28) (oRSign args) <|
  cond (Nat.beq f 80) (oRNeg args) <|
  cond (Nat.beq f 73) (oRAbs args) (OW f args)

/-! vectors of whole rationals, of numbers less than 2^64 -/
abbrev V3 := Int × Int × Int
def popS (a : AV) : Option (Int × AV) := (popR a).bind fun p => req (Nat.ble p.1.2 2) (some (p.1.1, p.2))
def SV.toVec : SV → Option V3
  | .agg a => (popS a).bind fun x => (popS x.2).bind fun y => (popS y.2).bind fun z => match z.2 with
    | .nil => some (x.1, y.1, z.1)
    | _ => none
  | _ => none
def SV.toRatS : SV → Option Int
  | .agg a => (popS a).bind fun x => match x.2 with
    | .nil => some x.1
    | _ => none
  | _ => none
def tiny (n : Int) : Bool := Nat.blt n.natAbs 18446744073709551616
def vt3 (x y z : Int) : SV := .agg (.cons (.int x 2) (.cons .den (.cons (.int y 2) (.cons .den (.cons (.int z 2) (.cons .den .nil))))))
def vt (x y z : Int) : Option SV := req (tiny x && tiny y && tiny z) (some (vt3 x y z))
def oDot : Orac := bi SV.toVec SV.toVec fun a b => req (tiny (a.1 * b.1 + a.2.1 * b.2.1 + a.2.2 * b.2.2)) (some (rt (a.1 * b.1 + a.2.1 * b.2.1 + a.2.2 * b.2.2) 2))
def oVSub : Orac := bi SV.toVec SV.toVec fun a b => vt (a.1 - b.1) (a.2.1 - b.2.1) (a.2.2 - b.2.2)
def oCross : Orac := bi SV.toVec SV.toVec fun a b => vt (a.2.1 * b.2.2 - a.2.2 * b.2.1) (a.2.2 * b.1 - a.1 * b.2.2) (a.1 * b.2.1 - a.2.1 * b.1)
def oScale : Orac := bi SV.toVec SV.toRatS fun a k => vt (a.1 * k) (a.2.1 * k) (a.2.2 * k)
/-- numbers that are known to be small -/
def tightS : SV → SV
  | .agg (.cons (.int n k) .nil) => .agg (.cons (.int n (cond (tiny n) 2 k)) .nil)
  | .agg (.cons (.int n k) (.cons .den .nil)) => .agg (.cons (.int n (cond (tiny n) 2 k)) (.cons .den .nil))
  | s => s
def OQT (f : Nat) (args : List SV) : Option SV := (OQ f args).bind fun s => some (tightS s)
def OV (f : Nat) (args : List SV) : Option SV :=
  cond (Nat.beq f 77) (oDot args) <|
  cond (Nat.beq f 27) (oVSub args) <|
  cond (Nat.beq f 126) (oCross args) <|
  cond (Nat.beq f 128) (oScale args) (OQT f args)
def keepF (f : Nat) : Bool := Nat.beq f 33 || Nat.beq f 36 || Nat.beq f 93 || Nat.beq f 183
end

section
variable [Rho]

/-- one call's oracle is sound -/
def Or1 (P : Program) (fn : Nat) (o : Orac) : Prop := ∀ args s, o args = some s → ∀ γ N0 H w vs, St γ N0 H w → Caps γ (Nn N0 γ) w args vs →
  Calls P fn vs.toArray w fun e w' => ∃ v, e = .returned v ∧ Ext w w' ∧ VR γ (Nn N0 γ) w' s v
theorem OrOk.none (P : Program) : OrOk P (fun _ _ => none) := fun _ _ _ h => by cases h
theorem OrOk.cond {P : Program} {fn : Nat} {o : Orac} {O : Nat → List SV → Option SV} (h1 : Or1 P fn o) (h2 : OrOk P O) : OrOk P (fun f args => cond (Nat.beq f fn) (o args) (O f args)) := by
  intro f args s h
  rcases cond_some h with ⟨h3, h4⟩ | ⟨_, h4⟩
  · have := Nat.eq_of_beq_eq_true h3
    subst this
    exact h1 args s h4
  · exact h2 f args s h4

section
variable {γ : Nat → Option Nat} {N : Nat → Prop} {w : World}
theorem toInt_spec {s : SV} {v : Value} {x : NK} (hv : VR γ N w s v) (h : s.toInt = some x) : IntV x.1 v w ∧ SzI x.2 x.1 := by
  unfold SV.toInt at h
  split at h
  · cases h
    obtain ⟨l, h1, h2⟩ := hv
    obtain ⟨xs, ys, rfl, h3, h4, _⟩ := h2.cons_inv
    cases h4
    cases h3 with
    | int h5 h6 => exact ⟨⟨_, by rw [h1, List.append_nil], h5⟩, h6⟩
  · cases h
    obtain ⟨l, h1, h2⟩ := hv
    obtain ⟨xs, ys, rfl, h3, h4, _⟩ := h2.cons_inv
    obtain ⟨xs', ys', rfl, h5, h6, _⟩ := h4.cons_inv
    cases h3; cases h5; cases h6
    exact ⟨⟨_, h1, IntC.zero w⟩, by unfold SzI; exact Nat.pow_pos B32_pos⟩
  · cases h
theorem iv_vr {n : Int} {k : Nat} {v : Value} (h : IntV n v w) (hk : SzI k n) : VR γ N w (iv n k) v := by
  obtain ⟨c, h1, h2⟩ := h
  refine ⟨c ++ [], by rw [List.append_nil]; exact h1, .cons (.int h2 hk) .nil⟩
theorem nv_vr (n : Int) : VR γ N w (nv n) (.int .i64 n) := DV.sc rfl
theorem bv_vr (b : Bool) : VR γ N w (bv b) (.bool b) := DV.sc rfl
end
theorem szi_neg {k : Nat} {n : Int} (h : SzI k n) : SzI k (-n) := by unfold SzI at *; rw [Int.natAbs_neg]; exact h
theorem szi_abs {k : Nat} {n : Int} (h : SzI k n) : SzI k (n.natAbs : Int) := by unfold SzI at *; rw [Int.natAbs_natCast]; exact h
theorem szi_mul {j k : Nat} {m n : Int} (h1 : SzI j m) (h2 : SzI k n) : SzI (j + k) (m * n) := by
  unfold SzI at *
  rw [Int.natAbs_mul, Nat.pow_add]
  exact Nat.mul_lt_mul'' h1 h2
theorem szi_add {j k : Nat} {m n : Int} (h1 : SzI j m) (h2 : SzI k n) : SzI (j + k + 1) (m + n) := by
  have h3 := h1.mono (Nat.le_add_right j k)
  have h4 := h2.mono (Nat.le_add_left k j)
  unfold SzI at *
  have h5 := Int.natAbs_add_le m n
  have h6 : B32 ^ (j + k + 1) = B32 ^ (j + k) * B32 := Nat.pow_succ _ _
  have h7 : B32 ^ (j + k) * 2 ≤ B32 ^ (j + k) * B32 := Nat.mul_le_mul_left _ (by decide)
  omega
theorem szi_gcd {j k : Nat} {m n : Int} (h1 : SzI j m) (h2 : SzI k n) : SzI (j + k) (Nat.gcd m.natAbs n.natAbs : Nat) := by
  have h3 := h1.mono (Nat.le_add_right j k)
  have h4 := h2.mono (Nat.le_add_left k j)
  unfold SzI at *
  rw [Int.natAbs_natCast]
  rcases Nat.eq_zero_or_pos m.natAbs with h | h
  · rw [h, Nat.gcd_zero_left]; exact h4
  · exact Nat.lt_of_le_of_lt (Nat.gcd_le_left _ h) h3
theorem kOk_le {j k : Nat} (h : kOk j k = true) : j + k ≤ 549755813888 := by
  unfold kOk at h
  rw [Bool.and_eq_true] at h
  have h1 := Nat.le_of_ble_eq_true h.1
  have h2 := Nat.le_of_ble_eq_true h.2
  omega
theorem or_un {P : Program} {fn : Nat} {α : Type} {p : SV → Option α} {g : α → Option SV} (R : World → α → Value → Prop) (hp : ∀ {γ : Nat → Option Nat} {N : Nat → Prop} {w : World} {s : SV} {v : Value} {x : α}, VR γ N w s v → p s = some x → R w x v)
    (h : ∀ x s, g x = some s → ∀ w v, R w x v → Calls P fn #[v] w fun e w' => ∃ u, e = .returned u ∧ Ext w w' ∧ ∀ (γ : Nat → Option Nat) (N : Nat → Prop), VR γ N w' s u) : Or1 P fn (un p g) := by
  intro args s hs γ N0 H w vs hS hc
  unfold un at hs
  split at hs
  · obtain ⟨x, h1, h2⟩ := bnd_some hs
    cases hc with
    | cons hv ht =>
      cases ht
      refine (h x s h2 w _ (hp hv h1)).mono ?_
      rintro e w' ⟨u, h3, h4, h5⟩
      exact ⟨u, h3, h4, h5 _ _⟩
  · cases hs
theorem or_bi {P : Program} {fn : Nat} {α β : Type} {p : SV → Option α} {q : SV → Option β} {g : α → β → Option SV} (R : World → α → Value → Prop) (S : World → β → Value → Prop) (hp : ∀ {γ : Nat → Option Nat} {N : Nat → Prop} {w : World} {s : SV} {v : Value} {x : α}, VR γ N w s v → p s = some x → R w x v)
    (hq : ∀ {γ : Nat → Option Nat} {N : Nat → Prop} {w : World} {s : SV} {v : Value} {x : β}, VR γ N w s v → q s = some x → S w x v)
    (h : ∀ x y s, g x y = some s → ∀ w u v, R w x u → S w y v → Calls P fn #[u, v] w fun e w' => ∃ u, e = .returned u ∧ Ext w w' ∧ ∀ (γ : Nat → Option Nat) (N : Nat → Prop), VR γ N w' s u) : Or1 P fn (bi p q g) := by
  intro args s hs γ N0 H w vs hS hc
  unfold bi at hs
  split at hs
  · obtain ⟨x, h1, h2⟩ := bnd_some hs
    obtain ⟨y, h3, h4⟩ := bnd_some h2
    cases hc with
    | cons hv ht =>
      cases ht with
      | cons hu ht =>
        cases ht
        refine (h x y s h4 w _ _ (hp hv h1) (hq hu h3)).mono ?_
        rintro e w' ⟨u, h5, h6, h7⟩
        exact ⟨u, h5, h6, h7 _ _⟩
  · cases hs
abbrev RI (w : World) (x : NK) (v : Value) : Prop := IntV x.1 v w ∧ SzI x.2 x.1
theorem or_from : Or1 Tryz.prog 76 oFrom := by
  intro args s hs γ N0 H w vs hS hc
  unfold oFrom at hs
  split at hs
  · rename_i n
    obtain ⟨h1, h2⟩ := req_some hs
    cases h2
    have h3 := Nat.le_of_ble_eq_true h1
    cases hc with
    | cons hv ht =>
      cases ht
      cases hv
      refine (ifrom_spec w n (by omega) (by omega)).mono ?_
      rintro e w' ⟨u, h4, h5, h6⟩
      exact ⟨u, h4, h5, iv_vr h6 (by unfold SzI; rw [B32_eq]; omega)⟩
  · cases hs
theorem or_sign : Or1 Tryz.prog 74 oSign := or_un RI toInt_spec fun x s h w v hr => by
  cases h
  refine (sign_spec w v x.1 hr.1).mono ?_
  rintro e w' ⟨h1, h2⟩
  exact ⟨_, h2, h1, fun _ _ => nv_vr _⟩
theorem or_neg : Or1 Tryz.prog 125 oNeg := or_un RI toInt_spec fun x s h w v hr => by
  cases h
  refine (neg_spec w v x.1 hr.1).mono ?_
  rintro e w' ⟨u, h1, h2, h3⟩
  exact ⟨u, h1, h2, fun _ _ => iv_vr h3 (szi_neg hr.2)⟩
theorem or_abs : Or1 Tryz.prog 123 oAbs := or_un RI toInt_spec fun x s h w v hr => by
  cases h
  refine (abs_spec w v x.1 hr.1).mono ?_
  rintro e w' ⟨u, h1, h2, h3⟩
  exact ⟨u, h1, h2, fun _ _ => iv_vr h3 (szi_abs hr.2)⟩
theorem or_compare : Or1 Tryz.prog 59 oCompare := or_bi RI RI toInt_spec toInt_spec fun x y s h w u v hr hq => by
  obtain ⟨h1, h2⟩ := req_some h
  cases h2
  refine (icompare_spec w u v x.1 y.1 (x.2 + y.2) hr.1 hq.1 (hr.2.mono (Nat.le_add_right _ _)) (hq.2.mono (Nat.le_add_left _ _)) (kOk_le h1)).mono ?_
  rintro e w' ⟨h3, h4⟩
  exact ⟨_, h4, h3, fun _ _ => nv_vr _⟩
theorem or_add : Or1 Tryz.prog 124 oAdd := or_bi RI RI toInt_spec toInt_spec fun x y s h w u v hr hq => by
  obtain ⟨h1, h2⟩ := req_some h
  cases h2
  refine (iadd_spec w u v x.1 y.1 (x.2 + y.2) hr.1 hq.1 (hr.2.mono (Nat.le_add_right _ _)) (hq.2.mono (Nat.le_add_left _ _)) (kOk_le h1)).mono ?_
  rintro e w' ⟨r, h3, h4, h5⟩
  exact ⟨r, h3, h4, fun _ _ => iv_vr h5 (szi_add hr.2 hq.2)⟩
theorem or_mul : Or1 Tryz.prog 70 oMul := or_bi RI RI toInt_spec toInt_spec fun x y s h w u v hr hq => by
  obtain ⟨h1, h2⟩ := req_some h
  cases h2
  refine (imul_spec w u v x.1 y.1 (x.2 + y.2) hr.1 hq.1 (hr.2.mono (Nat.le_add_right _ _)) (hq.2.mono (Nat.le_add_left _ _)) (kOk_le h1)).mono ?_
  rintro e w' ⟨r, h3, h4, h5⟩
  exact ⟨r, h3, h4, fun _ _ => iv_vr h5 (szi_mul hr.2 hq.2)⟩
theorem or_gcd : Or1 Tryz.prog 61 oGcd := or_bi RI RI toInt_spec toInt_spec fun x y s h w u v hr hq => by
  obtain ⟨h1, h2⟩ := req_some h
  cases h2
  rw [Bool.and_eq_true, Bool.or_eq_true] at h1
  refine (gcd_small w u v x.1 y.1 (x.2 + y.2) hr.1 hq.1 (hr.2.mono (Nat.le_add_right _ _)) (hq.2.mono (Nat.le_add_left _ _)) (kOk_le h1.1) ?_).mono ?_
  · rcases h1.2 with h | h
    · have := Nat.le_of_ble_eq_true h
      exact .inl (by unfold SzI; rw [B32_eq]; omega)
    · have := Nat.le_of_ble_eq_true h
      exact .inr (by unfold SzI; rw [B32_eq]; omega)
  · rintro e w' ⟨r, h3, h4, h5⟩
    exact ⟨r, h3, h4, fun _ _ => iv_vr h5 (szi_gcd hr.2 hq.2)⟩
theorem OI_ok : OrOk Tryz.prog OI := .cond or_compare <| .cond or_add <| .cond or_mul <| .cond or_sign <| .cond or_from <| .cond or_neg <| .cond or_abs <| .cond or_gcd <| .none _
end

section

section
variable [Rho]
def noγ : Nat → Option Nat := fun _ => none
def noN : Nat → Prop := fun _ => False
/-- a call that the evaluator answers, of values without memory of our own -/
theorem ev_run {O : Nat → List SV → Option SV} (hO : OrOk Tryz.prog O) {keep : Nat → Bool} {fuel k fn : Nat} {args : List SV} {s : SV} (h : evK Tryz.prog O keep fuel k none fn args ⟨0, []⟩ = some (s, ⟨0, []⟩)) {w : World} {vs : List Value} {N : Nat → Prop} (hN : ∀ g, N g → g < w.heap.size) (hc : Caps noγ N w args vs) :
    Calls Tryz.prog fn vs.toArray w fun e w' => ∃ v, e = .returned v ∧ Ext w w' ∧ VR noγ N w' s v := by
  have hsame : ∀ g, Nn N noγ g → N g := by
    rintro g (h1 | ⟨b, h1⟩)
    · exact h1
    · cases h1
  have hS : St noγ N ⟨0, []⟩ w := ⟨hN, fun b g hb => (by cases hb), fun b g hb => (by cases hb), fun b g t cs hb => (by cases hb), fun b b' g hb => (by cases hb)⟩
  have hc' : Caps noγ (Nn N noγ) w args vs := by
    clear h
    induction hc with
    | nil => exact .nil
    | cons h1 _ ih => exact .cons (h1.keep (Keep.of_ext (Ext.refl w)) (fun _ _ h => h) fun g hg => .inl (hsame g hg)) ih
  refine (evK_ok rfl hO k 0 fn args ⟨0, []⟩ s _ h (Nat.le_refl _) noγ N w vs hS hc').mono ?_
  rintro e w' ⟨v, γ', h1, h2, h3, h4⟩
  have hx : Ext w w' := h3.chg.ext (by rintro g ⟨b, _, hb⟩; cases hb)
  have hγ : ∀ b g, γ' b ≠ some g := fun b g hb => absurd (h2.lt b g hb) (Nat.not_lt_zero b)
  refine ⟨v, h1, hx, ?_⟩
  have e : γ' = noγ := by
    funext b
    cases hb : γ' b with
    | none => rfl
    | some g => exact absurd hb (hγ b g)
  subst e
  exact h4.keep (Keep.of_ext (Ext.refl w')) (fun _ _ h => h) fun g hg => .inl (.inl hg)

/-- a whole rational: a numerator, and a denominator 0 or 1 -/
def RW (w : World) (x : NK) (v : Value) : Prop := ∃ c d δ, v = .agg (c ++ d).toArray ∧ IntC w c x.1 ∧ SzI x.2 x.1 ∧ IntC w d δ ∧ (δ = 0 ∨ δ = 1)
variable {γ : Nat → Option Nat} {N : Nat → Prop} {w : World}
theorem popI_spec {a r : AV} {x : NK} {l : List Value} (hd : DV γ N w a l) (h : popI a = some (x, r)) : ∃ c l', l = c ++ l' ∧ IntC w c x.1 ∧ SzI x.2 x.1 ∧ DV γ N w r l' := by
  unfold popI at h
  split at h
  · cases h
    obtain ⟨xs, ys, rfl, h3, h4, _⟩ := hd.cons_inv
    cases h3 with
    | int h5 h6 => exact ⟨_, _, rfl, h5, h6, h4⟩
  · cases h
    obtain ⟨xs, ys, rfl, h3, h4, _⟩ := hd.cons_inv
    obtain ⟨xs', ys', rfl, h5, h6, _⟩ := h4.cons_inv
    cases h3; cases h5
    exact ⟨[.bool false, .slice none 0 0], _, rfl, IntC.zero w, by unfold SzI; exact Nat.pow_pos B32_pos, h6⟩
  · cases h
theorem popD_spec {a r : AV} {l : List Value} (hd : DV γ N w a l) (h : popD a = some r) : ∃ c l' δ, l = c ++ l' ∧ IntC w c δ ∧ (δ = 0 ∨ δ = 1) ∧ DV γ N w r l' := by
  unfold popD at h
  split at h
  · cases h
    obtain ⟨xs, ys, rfl, h3, h4, _⟩ := hd.cons_inv
    cases h3 with
    | den h5 h6 => exact ⟨_, _, _, rfl, h5, h6, h4⟩
  · rename_i n k _
    obtain ⟨h1, h⟩ := req_some h
    cases h
    have hn := Nat.le_of_ble_eq_true h1
    obtain ⟨xs, ys, rfl, h3, h4, _⟩ := hd.cons_inv
    cases h3 with
    | int h5 h6 =>
      refine ⟨_, _, _, rfl, h5, ?_, h4⟩
      rcases Nat.le_one_iff_eq_zero_or_eq_one.1 hn with rfl | rfl
      · exact .inl rfl
      · exact .inr rfl
  · cases h
    obtain ⟨xs, ys, rfl, h3, h4, _⟩ := hd.cons_inv
    obtain ⟨xs', ys', rfl, h5, h6, _⟩ := h4.cons_inv
    cases h3; cases h5
    exact ⟨[.bool false, .slice none 0 0], _, 0, rfl, IntC.zero w, .inl rfl, h6⟩
  · cases h
theorem popR_spec {a r : AV} {x : NK} {l : List Value} (hd : DV γ N w a l) (h : popR a = some (x, r)) : ∃ c d δ l', l = c ++ d ++ l' ∧ IntC w c x.1 ∧ SzI x.2 x.1 ∧ IntC w d δ ∧ (δ = 0 ∨ δ = 1) ∧ DV γ N w r l' := by
  obtain ⟨⟨x1, r1⟩, h1, h⟩ := bnd_some h
  obtain ⟨r2, h2, h⟩ := bnd_some h
  cases h
  obtain ⟨c, l1, rfl, h3, h4, h5⟩ := popI_spec hd h1
  obtain ⟨d, l2, δ, rfl, h6, h7, h8⟩ := popD_spec h5 h2
  exact ⟨c, d, δ, l2, by rw [List.append_assoc], h3, h4, h6, h7, h8⟩
theorem toRat_spec {s : SV} {v : Value} {x : NK} (hv : VR γ N w s v) (h : s.toRat = some x) : RW w x v := by
  unfold SV.toRat at h
  split at h
  · obtain ⟨⟨y, r⟩, h1, h⟩ := bnd_some h
    split at h
    · rename_i hr
      cases h
      simp only at hr
      subst hr
      obtain ⟨l, h2, h3⟩ := hv
      obtain ⟨c, d, δ, l', rfl, h4, h5, h6, h7, h8⟩ := popR_spec h3 h1
      cases h8
      exact ⟨c, d, δ, by rw [h2, List.append_nil], h4, h5, h6, h7⟩
    · cases h
  · cases h
theorem rt_vr {x : NK} {k : Nat} {v : Value} (h : RW w x v) (hk : SzI k x.1) : VR γ N w (rt x.1 k) v := by
  obtain ⟨c, d, δ, h1, h2, _, h4, h5⟩ := h
  exact ⟨c ++ (d ++ []), by rw [h1, List.append_nil], .cons (.int h2 hk) (.cons (.den h4 h5) .nil)⟩
theorem RW.as {x : NK} {v : Value} (h : RW w x v) {k : Nat} (hk : x.2 ≤ k) : VR γ N w (.agg (.cons (.int x.1 k) (.cons .den .nil))) v := rt_vr h (by obtain ⟨_, _, _, _, _, h3, _⟩ := h; exact h3.mono hk)
theorem kOkR_le {j k : Nat} (h : kOkR j k = true) : j ≤ 1000 ∧ k ≤ 1000 := by
  unfold kOkR at h
  rw [Bool.and_eq_true] at h
  exact ⟨Nat.le_of_ble_eq_true h.1, Nat.le_of_ble_eq_true h.2⟩
theorem noN_lt : ∀ g, noN g → g < w.heap.size := fun g h => h.elim
end

/-! denominators 0 and 1 -/
theorem ev_whole0 (n : Int) (k : Nat) : evK Tryz.prog OI keepF 100 5 none 69 [.agg (.cons (.int n k) (.cons (.int 0 1) .nil))] ⟨0, []⟩ = some (bv true, ⟨0, []⟩) := by kernel_rfl
theorem ev_whole1 (n : Int) (k : Nat) : evK Tryz.prog OI keepF 100 5 none 69 [.agg (.cons (.int n k) (.cons (.int 1 1) .nil))] ⟨0, []⟩ = some (bv true, ⟨0, []⟩) := by kernel_rfl
theorem ev_den0 (n : Int) (k : Nat) : evK Tryz.prog OI keepF 100 5 none 71 [.agg (.cons (.int n k) (.cons (.int 0 1) .nil))] ⟨0, []⟩ = some (iv 1 2, ⟨0, []⟩) := by kernel_rfl
theorem ev_den1 (n : Int) (k : Nat) : evK Tryz.prog OI keepF 100 5 none 71 [.agg (.cons (.int n k) (.cons (.int 1 1) .nil))] ⟨0, []⟩ = some (iv 1 1, ⟨0, []⟩) := by kernel_rfl

section
variable [Rho]
theorem szi_one {n : Int} (h : n = 0 ∨ n = 1) : SzI 1 n := by
  rcases h with rfl | rfl <;> (unfold SzI B32; decide)
/-- of a whole rational, by its denominator -/
theorem or_den {fn : Nat} {o : Orac} {res : NK → SV} (ho : o = un SV.toRat fun x => some (res x))
    (hvr : ∀ (x : NK) (δ : Int) (w : World) (v : Value), δ = 0 ∨ δ = 1 → VR noγ noN w (.agg (.cons (.int x.1 x.2) (.cons (.int δ 1) .nil))) v → Calls Tryz.prog fn #[v] w fun e w' => ∃ u, e = .returned u ∧ Ext w w' ∧ ∀ (γ : Nat → Option Nat) (N : Nat → Prop), VR γ N w' (res x) u) : Or1 Tryz.prog fn o := by
  subst ho
  refine or_un RW toRat_spec fun x s h w v hr => ?_
  cases h
  obtain ⟨c, d, δ, h1, h2, h3, h4, h5⟩ := hr
  exact hvr x δ w v h5 ⟨c ++ (d ++ []), by rw [h1, List.append_nil], .cons (.int h2 h3) (.cons (.int h4 (szi_one h5)) .nil)⟩
theorem caps1 {γ : Nat → Option Nat} {N : Nat → Prop} {w : World} {s : SV} {v : Value} (h : VR γ N w s v) : Caps γ N w [s] [v] := .cons h .nil
theorem caps2 {γ : Nat → Option Nat} {N : Nat → Prop} {w : World} {s t : SV} {u v : Value} (h : VR γ N w s u) (h' : VR γ N w t v) : Caps γ N w [s, t] [u, v] := .cons h (.cons h' .nil)
theorem bv_inv {γ : Nat → Option Nat} {N : Nat → Prop} {w : World} {b : Bool} {v : Value} (h : VR γ N w (bv b) v) : v = .bool b := by cases h; rfl
theorem nv_inv {γ : Nat → Option Nat} {N : Nat → Prop} {w : World} {n : Int} {v : Value} (h : VR γ N w (nv n) v) : v = .int .i64 n := by cases h; rfl
theorem or_whole : Or1 Tryz.prog 69 oWhole := or_den (res := fun _ => bv true) rfl fun x δ w v hδ hv => by
  have key : evK Tryz.prog OI keepF 100 5 none 69 [.agg (.cons (.int x.1 x.2) (.cons (.int δ 1) .nil))] ⟨0, []⟩ = some (bv true, ⟨0, []⟩) := by
    rcases hδ with rfl | rfl
    · exact ev_whole0 x.1 x.2
    · exact ev_whole1 x.1 x.2
  refine (ev_run OI_ok key noN_lt (caps1 hv)).mono ?_
  rintro e w' ⟨u, h1, h2, h3⟩
  rw [bv_inv h3] at h1
  exact ⟨_, h1, h2, fun _ _ => bv_vr _⟩
theorem or_denom : Or1 Tryz.prog 71 oDen := or_den (res := fun _ => iv 1 2) rfl fun x δ w v hδ hv => by
  have key : ∃ k, evK Tryz.prog OI keepF 100 5 none 71 [.agg (.cons (.int x.1 x.2) (.cons (.int δ 1) .nil))] ⟨0, []⟩ = some (iv 1 k, ⟨0, []⟩) := by
    rcases hδ with rfl | rfl
    · exact ⟨_, ev_den0 x.1 x.2⟩
    · exact ⟨_, ev_den1 x.1 x.2⟩
  obtain ⟨k, key⟩ := key
  refine (ev_run OI_ok key noN_lt (caps1 hv)).mono ?_
  rintro e w' ⟨u, h1, h2, h3⟩
  exact ⟨u, h1, h2, fun _ _ => iv_vr (toInt_spec h3 (x := (1, k)) rfl).1 (by unfold SzI; decide)⟩
theorem OW_ok : OrOk Tryz.prog OW := .cond or_whole <| .cond or_denom OI_ok
end
/-- a whole rational for the evaluator -/
def W (n : Int) : SV := .agg (.cons (.int n 1000) (.cons .den .nil))
def Z (n : Int) (k : Nat) : SV := .agg (.cons (.int n k) (.cons (.sc (.bool false)) (.cons (.sc (.slice none 0 0)) .nil)))
theorem ev_rsign (m : Int) : evK Tryz.prog OW keepF 100 5 none 28 [W m] ⟨0, []⟩ = some (nv (sgn m), ⟨0, []⟩) := by kernel_rfl
theorem ev_rneg (m : Int) : evK Tryz.prog OW keepF 100 5 none 80 [W m] ⟨0, []⟩ = some (.agg (.cons (.int (-m) 1000) (.cons .den .nil)), ⟨0, []⟩) := by kernel_rfl
theorem ev_rabs (m : Int) : evK Tryz.prog OW keepF 100 5 none 73 [W m] ⟨0, []⟩ = some (.agg (.cons (.int (m.natAbs : Int) 1000) (.cons .den .nil)), ⟨0, []⟩) := by kernel_rfl
theorem ev_rcompare (m n : Int) : evK Tryz.prog OW keepF 100 5 none 25 [W m, W n] ⟨0, []⟩ = some (nv (cmpI m n), ⟨0, []⟩) := by kernel_rfl
theorem ev_radd (m n : Int) : evK Tryz.prog OW keepF 100 5 none 79 [W m, W n] ⟨0, []⟩ = some (Z (m + n) 2001, ⟨0, []⟩) := by kernel_rfl
theorem ev_rsub (m n : Int) : evK Tryz.prog OW keepF 100 5 none 32 [W m, W n] ⟨0, []⟩ = some (Z (m + -n) 2001, ⟨0, []⟩) := by kernel_rfl
theorem ev_rmul (m n : Int) : evK Tryz.prog OW keepF 100 5 none 49 [W m, W n] ⟨0, []⟩ = some (Z (m * n) 2000, ⟨0, []⟩) := by kernel_rfl

section
variable [Rho]
theorem or_run1 {O : Nat → List SV → Option SV} (hO : OrOk Tryz.prog O) {fn : Nat} {r : SV} {w : World} {x : NK} {v : Value} (hr : RW w x v) (hk : x.2 ≤ 1000) (h : evK Tryz.prog O keepF 100 5 none fn [W x.1] ⟨0, []⟩ = some (r, ⟨0, []⟩)) :
    Calls Tryz.prog fn #[v] w fun e w' => ∃ u, e = .returned u ∧ Ext w w' ∧ VR noγ noN w' r u := ev_run hO h noN_lt (caps1 (hr.as hk))
theorem or_run2 {O : Nat → List SV → Option SV} (hO : OrOk Tryz.prog O) {fn : Nat} {r : SV} {w : World} {x y : NK} {u v : Value} (hr : RW w x u) (hq : RW w y v) (hk : kOkR x.2 y.2 = true) (h : evK Tryz.prog O keepF 100 5 none fn [W x.1, W y.1] ⟨0, []⟩ = some (r, ⟨0, []⟩)) :
    Calls Tryz.prog fn #[u, v] w fun e w' => ∃ u, e = .returned u ∧ Ext w w' ∧ VR noγ noN w' r u := ev_run hO h noN_lt (caps2 (hr.as (kOkR_le hk).1) (hq.as (kOkR_le hk).2))
theorem z_vr {γ : Nat → Option Nat} {N : Nat → Prop} {w : World} {z : Int} {j k : Nat} {u : Value} (h : VR noγ noN w (Z z j) u) (hk : SzI k z) : VR γ N w (rt z k) u := rt_vr (x := (z, j)) (toRat_spec h rfl) hk
theorem RW.szi {w : World} {x : NK} {v : Value} (h : RW w x v) : SzI x.2 x.1 := by obtain ⟨_, _, _, _, _, h3, _⟩ := h; exact h3
theorem or_rsign : Or1 Tryz.prog 28 oRSign := or_un RW toRat_spec fun x s h w v hr => by
  obtain ⟨h1, h2⟩ := req_some h
  cases h2
  refine (or_run1 OW_ok hr (Nat.le_of_ble_eq_true h1) (ev_rsign x.1)).mono ?_
  rintro e w' ⟨u, h3, h4, h5⟩
  rw [nv_inv h5] at h3
  exact ⟨_, h3, h4, fun _ _ => nv_vr _⟩
theorem or_rneg : Or1 Tryz.prog 80 oRNeg := or_un RW toRat_spec fun x s h w v hr => by
  obtain ⟨h1, h2⟩ := req_some h
  cases h2
  refine (or_run1 OW_ok hr (Nat.le_of_ble_eq_true h1) (ev_rneg x.1)).mono ?_
  rintro e w' ⟨u, h3, h4, h5⟩
  exact ⟨u, h3, h4, fun _ _ => rt_vr (x := (-x.1, 1000)) (toRat_spec h5 rfl) (szi_neg hr.szi)⟩
theorem or_rabs : Or1 Tryz.prog 73 oRAbs := or_un RW toRat_spec fun x s h w v hr => by
  obtain ⟨h1, h2⟩ := req_some h
  cases h2
  refine (or_run1 OW_ok hr (Nat.le_of_ble_eq_true h1) (ev_rabs x.1)).mono ?_
  rintro e w' ⟨u, h3, h4, h5⟩
  exact ⟨u, h3, h4, fun _ _ => rt_vr (x := ((x.1.natAbs : Int), 1000)) (toRat_spec h5 rfl) (szi_abs hr.szi)⟩
theorem or_rcompare : Or1 Tryz.prog 25 oRCompare := or_bi RW RW toRat_spec toRat_spec fun x y s h w u v hr hq => by
  obtain ⟨h1, h2⟩ := req_some h
  cases h2
  refine (or_run2 OW_ok hr hq h1 (ev_rcompare x.1 y.1)).mono ?_
  rintro e w' ⟨r, h3, h4, h5⟩
  rw [nv_inv h5] at h3
  exact ⟨_, h3, h4, fun _ _ => nv_vr _⟩
theorem or_radd : Or1 Tryz.prog 79 oRAdd := or_bi RW RW toRat_spec toRat_spec fun x y s h w u v hr hq => by
  obtain ⟨h1, h2⟩ := req_some h
  cases h2
  refine (or_run2 OW_ok hr hq h1 (ev_radd x.1 y.1)).mono ?_
  rintro e w' ⟨r, h3, h4, h5⟩
  exact ⟨r, h3, h4, fun _ _ => z_vr h5 (szi_add hr.szi hq.szi)⟩
theorem or_rsub : Or1 Tryz.prog 32 oRSub := or_bi RW RW toRat_spec toRat_spec fun x y s h w u v hr hq => by
  obtain ⟨h1, h2⟩ := req_some h
  cases h2
  refine (or_run2 OW_ok hr hq h1 (ev_rsub x.1 y.1)).mono ?_
  rintro e w' ⟨r, h3, h4, h5⟩
  rw [← Int.sub_eq_add_neg] at h5
  exact ⟨r, h3, h4, fun _ _ => z_vr h5 (by rw [Int.sub_eq_add_neg]; exact szi_add hr.szi (szi_neg hq.szi))⟩
theorem or_rmul : Or1 Tryz.prog 49 oRMul := or_bi RW RW toRat_spec toRat_spec fun x y s h w u v hr hq => by
  obtain ⟨h1, h2⟩ := req_some h
  cases h2
  refine (or_run2 OW_ok hr hq h1 (ev_rmul x.1 y.1)).mono ?_
  rintro e w' ⟨r, h3, h4, h5⟩
  exact ⟨r, h3, h4, fun _ _ => z_vr h5 (szi_mul hr.szi hq.szi)⟩
theorem OQ_ok : OrOk Tryz.prog OQ := .cond or_rcompare <| .cond or_rmul <| .cond or_radd <| .cond or_rsub <| .cond or_rsign <| .cond or_rneg <| .cond or_rabs OW_ok
end

/-! vectors -/
def U (x y z : Int) : SV := .agg (.cons (.int x 2) (.cons .den (.cons (.int y 2) (.cons .den (.cons (.int z 2) (.cons .den .nil))))))
def S1 (k : Int) : SV := .agg (.cons (.int k 2) (.cons .den .nil))
theorem ev_dot (a b c x y z : Int) : evK Tryz.prog OQ keepF 100 5 none 77 [U a b c, U x y z] ⟨0, []⟩ = some (.agg (.cons (.int (0 + a * x + b * y + c * z) 16) (.cons .den .nil)), ⟨0, []⟩) := by kernel_rfl
theorem ev_vsub (a b c x y z : Int) : evK Tryz.prog OQ keepF 100 5 none 27 [U a b c, U x y z] ⟨0, []⟩ = some (.agg (.cons (.int (a - x) 5) (.cons .den (.cons (.int (b - y) 5) (.cons .den (.cons (.int (c - z) 5) (.cons .den .nil)))))), ⟨0, []⟩) := by kernel_rfl
theorem ev_cross (a b c x y z : Int) : evK Tryz.prog OQ keepF 100 5 none 126 [U a b c, U x y z] ⟨0, []⟩ = some (.agg (.cons (.int (b * z - c * y) 9) (.cons .den (.cons (.int (c * x - a * z) 9) (.cons .den (.cons (.int (a * y - b * x) 9) (.cons .den .nil)))))), ⟨0, []⟩) := by kernel_rfl
theorem ev_scale (a b c k : Int) : evK Tryz.prog OQ keepF 100 5 none 128 [U a b c, S1 k] ⟨0, []⟩ = some (.agg (.cons (.int (a * k) 4) (.cons .den (.cons (.int (b * k) 4) (.cons .den (.cons (.int (c * k) 4) (.cons .den .nil)))))), ⟨0, []⟩) := by kernel_rfl
end

section
variable [Rho]

section
variable {γ γ' : Nat → Option Nat} {N N' : Nat → Prop} {w : World}
theorem popS_spec {a r : AV} {x : Int} {l : List Value} (hd : DV γ N w a l) (h : popS a = some (x, r)) : ∃ c d l', l = c ++ (d ++ l') ∧ DV γ' N' w (.int x 2) c ∧ DV γ' N' w .den d ∧ DV γ N w r l' := by
  obtain ⟨⟨⟨n, k⟩, r1⟩, h1, h⟩ := bnd_some h
  obtain ⟨h2, h⟩ := req_some h
  cases h
  obtain ⟨c, d, δ, l', rfl, h3, h4, h5, h6, h7⟩ := popR_spec hd h1
  exact ⟨c, d, l', by rw [List.append_assoc], .int h3 (h4.mono (Nat.le_of_ble_eq_true h2)), .den h5 h6, h7⟩
abbrev RV (w : World) (x : V3) (v : Value) : Prop := ∀ (γ : Nat → Option Nat) (N : Nat → Prop), VR γ N w (U x.1 x.2.1 x.2.2) v
theorem toVec_spec {s : SV} {v : Value} {x : V3} (hv : VR γ N w s v) (h : s.toVec = some x) : RV w x v := by
  intro γ' N'
  unfold SV.toVec at h
  split at h
  · obtain ⟨⟨a, r1⟩, h1, h⟩ := bnd_some h
    obtain ⟨⟨b, r2⟩, h2, h⟩ := bnd_some h
    obtain ⟨⟨c, r3⟩, h3, h⟩ := bnd_some h
    split at h
    · rename_i hr
      cases h
      simp only at hr
      subst hr
      obtain ⟨l, h4, h5⟩ := hv
      obtain ⟨c1, d1, l1, rfl, k1, k2, k3⟩ := popS_spec (γ' := γ') (N' := N') h5 h1
      obtain ⟨c2, d2, l2, rfl, k4, k5, k6⟩ := popS_spec (γ' := γ') (N' := N') k3 h2
      obtain ⟨c3, d3, l3, rfl, k7, k8, k9⟩ := popS_spec (γ' := γ') (N' := N') k6 h3
      cases k9
      exact ⟨_, h4, .cons k1 (.cons k2 (.cons k4 (.cons k5 (.cons k7 (.cons k8 .nil)))))⟩
    · cases h
  · cases h
abbrev RS (w : World) (x : Int) (v : Value) : Prop := ∀ (γ : Nat → Option Nat) (N : Nat → Prop), VR γ N w (S1 x) v
theorem toRatS_spec {s : SV} {v : Value} {x : Int} (hv : VR γ N w s v) (h : s.toRatS = some x) : RS w x v := by
  intro γ' N'
  unfold SV.toRatS at h
  split at h
  · obtain ⟨⟨a, r1⟩, h1, h⟩ := bnd_some h
    split at h
    · rename_i hr
      cases h
      simp only at hr
      subst hr
      obtain ⟨l, h4, h5⟩ := hv
      obtain ⟨c1, d1, l1, rfl, k1, k2, k3⟩ := popS_spec (γ' := γ') (N' := N') h5 h1
      cases k3
      exact ⟨_, h4, .cons k1 (.cons k2 .nil)⟩
    · cases h
  · cases h
theorem tiny_szi {n : Int} (h : tiny n = true) : SzI 2 n := by
  have := Nat.le_of_ble_eq_true h
  unfold SzI
  rw [B32_eq]
  omega
theorem int_szi {x : Int} {j k : Nat} {l : List Value} (h : DV γ N w (.int x j) l) (hk : SzI k x) : DV γ' N' w (.int x k) l := by
  cases h with
  | int h1 h2 => exact .int h1 hk
theorem den_any {l : List Value} (h : DV γ N w .den l) : DV γ' N' w .den l := by
  cases h with
  | den h1 h2 => exact .den h1 h2
theorem vec_vr {x y z : Int} {j k m : Nat} {v : Value} {s : SV} (h : VR γ N w (.agg (.cons (.int x j) (.cons .den (.cons (.int y k) (.cons .den (.cons (.int z m) (.cons .den .nil))))))) v) (ht : vt x y z = some s) : VR γ' N' w s v := by
  obtain ⟨h0, h1⟩ := req_some ht
  cases h1
  simp only [Bool.and_eq_true] at h0
  obtain ⟨l, h1, h2⟩ := h
  obtain ⟨a1, l1, rfl, b1, h2, _⟩ := h2.cons_inv
  obtain ⟨a2, l2, rfl, b2, h2, _⟩ := h2.cons_inv
  obtain ⟨a3, l3, rfl, b3, h2, _⟩ := h2.cons_inv
  obtain ⟨a4, l4, rfl, b4, h2, _⟩ := h2.cons_inv
  obtain ⟨a5, l5, rfl, b5, h2, _⟩ := h2.cons_inv
  obtain ⟨a6, l6, rfl, b6, h2, _⟩ := h2.cons_inv
  cases h2
  exact ⟨_, h1, .cons (int_szi b1 (tiny_szi h0.1.1)) (.cons (den_any b2) (.cons (int_szi b3 (tiny_szi h0.1.2)) (.cons (den_any b4) (.cons (int_szi b5 (tiny_szi h0.2)) (.cons (den_any b6) .nil)))))⟩
end
theorem or_dot : Or1 Tryz.prog 77 oDot := or_bi RV RV toVec_spec toVec_spec fun x y s h w u v hr hq => by
  obtain ⟨h1, h2⟩ := req_some h
  cases h2
  refine (ev_run OQ_ok (ev_dot x.1 x.2.1 x.2.2 y.1 y.2.1 y.2.2) noN_lt (caps2 (hr _ _) (hq _ _))).mono ?_
  rintro e w' ⟨r, h3, h4, h5⟩
  refine ⟨r, h3, h4, fun _ _ => ?_⟩
  rw [Int.zero_add] at h5
  obtain ⟨l, k1, k2⟩ := h5
  obtain ⟨a1, l1, rfl, b1, k2, _⟩ := k2.cons_inv
  obtain ⟨a2, l2, rfl, b2, k2, _⟩ := k2.cons_inv
  cases k2
  exact ⟨_, k1, .cons (int_szi b1 (tiny_szi h1)) (.cons (den_any b2) .nil)⟩
theorem or_vsub : Or1 Tryz.prog 27 oVSub := or_bi RV RV toVec_spec toVec_spec fun x y s h w u v hr hq => by
  refine (ev_run OQ_ok (ev_vsub x.1 x.2.1 x.2.2 y.1 y.2.1 y.2.2) noN_lt (caps2 (hr _ _) (hq _ _))).mono ?_
  rintro e w' ⟨r, h3, h4, h5⟩
  exact ⟨r, h3, h4, fun _ _ => vec_vr h5 h⟩
theorem or_cross : Or1 Tryz.prog 126 oCross := or_bi RV RV toVec_spec toVec_spec fun x y s h w u v hr hq => by
  refine (ev_run OQ_ok (ev_cross x.1 x.2.1 x.2.2 y.1 y.2.1 y.2.2) noN_lt (caps2 (hr _ _) (hq _ _))).mono ?_
  rintro e w' ⟨r, h3, h4, h5⟩
  exact ⟨r, h3, h4, fun _ _ => vec_vr h5 h⟩
theorem or_scale : Or1 Tryz.prog 128 oScale := or_bi RV RS toVec_spec toRatS_spec fun x y s h w u v hr hq => by
  refine (ev_run OQ_ok (ev_scale x.1 x.2.1 x.2.2 y) noN_lt (caps2 (hr _ _) (hq _ _))).mono ?_
  rintro e w' ⟨r, h3, h4, h5⟩
  exact ⟨r, h3, h4, fun _ _ => vec_vr h5 h⟩
theorem cond_szi {n : Int} {k : Nat} (h : SzI k n) : SzI (cond (tiny n) 2 k) n := by
  cases ht : tiny n with
  | true => exact tiny_szi ht
  | false => exact h
theorem tightS_vr {γ : Nat → Option Nat} {N : Nat → Prop} {w : World} {s : SV} {v : Value} (h : VR γ N w s v) : VR γ N w (tightS s) v := by
  unfold tightS
  split
  · obtain ⟨l, h1, h2⟩ := h
    obtain ⟨a1, l1, rfl, b1, h2, _⟩ := h2.cons_inv
    cases h2
    cases b1 with
    | int b2 b3 => exact ⟨_, h1, .cons (.int b2 (cond_szi b3)) .nil⟩
  · obtain ⟨l, h1, h2⟩ := h
    obtain ⟨a1, l1, rfl, b1, h2, _⟩ := h2.cons_inv
    cases b1 with
    | int b2 b3 => exact ⟨_, h1, .cons (.int b2 (cond_szi b3)) h2⟩
  · exact h
theorem OQT_ok : OrOk Tryz.prog OQT := by
  intro f args s h γ N0 H w vs hS hc
  obtain ⟨s0, h1, h2⟩ := bnd_some h
  cases h2
  refine (OQ_ok f args s0 h1 γ N0 H w vs hS hc).mono ?_
  rintro e w' ⟨v, h3, h4, h5⟩
  exact ⟨v, h3, h4, tightS_vr h5⟩
theorem OV_ok : OrOk Tryz.prog OV := .cond or_dot <| .cond or_vsub <| .cond or_cross <| .cond or_scale OQT_ok
end

section

def bN (b : ByteArray) : List Nat := b.data.toList.map UInt8.toNat
def eqN : List Nat → List Nat → Bool
  | [], [] => true
  | a :: r, b :: q => Nat.beq a b && eqN r q
  | _, _ => false
def okR (a : AV) : SV := .tup [(true, a), (false, .sc (.int .i64 0))]
def wholeR (n : Int) : SV := okR (.cons (.int n 2) (.cons .den .nil))
/-- what rational.Read makes of some texts -/
def litR (l : List Nat) : Option SV :=
  cond (eqN l [48]) (some (wholeR 0)) <| cond (eqN l [49]) (some (wholeR 1)) <| cond (eqN l [50]) (some (wholeR 2)) <| cond (eqN l [52]) (some (wholeR 4)) <| cond (eqN l [53]) (some (wholeR 5)) <|
  cond (eqN l [45, 53]) (some (wholeR (-5))) <| cond (eqN l [51, 47, 50]) (some (okR (.cons (.int 3 2) (.cons (.int 2 2) .nil)))) none
def oReadL : Orac
  | [.one (.sc (.string b))] => litR (bN b)
  | _ => none
/-- the texts of 0 and 2 -/
def oText : Orac := un SV.toInt fun x => match x.1 with
  | .ofNat n => cond (Nat.beq n 0) (some (.one (.sc (.string ⟨#[48]⟩)))) (cond (Nat.beq n 2) (some (.one (.sc (.string ⟨#[50]⟩)))) none)
  | _ => none
def OB (f : Nat) (args : List SV) : Option SV :=
  cond (Nat.beq f 6) (oReadL args) <|
  cond (Nat.beq f 120) (oText args) (OV f args)
/-! calls that are known -/
def eqL : List SV → List SV → Bool
  | [], [] => true
  | s :: r, t :: q => s.eqb t && eqL r q
  | _, _ => false
def one_ (args : List SV) (r : SV) : Orac := fun a => cond (eqL a args) (some r) none
abbrev Tab := List (Nat × List SV × SV)
def tabO (O : Nat → List SV → Option SV) : Tab → Nat → List SV → Option SV
  | [], f, a => O f a
  | (fn, args, r) :: t, f, a => cond (Nat.beq f fn && eqL a args) (some r) (tabO O t f a)
def AV.closed : AV → Bool
  | .cons a r => a.closed && r.closed
  | .sl es _ => es.closed
  | .fp es => es.closed
  | .fn _ c => c.closed
  | .osl _ _ _ _ => false
  | .ptr _ _ => false
  | _ => true
def tupClosed : List (Bool × AV) → Bool
  | [] => true
  | (_, a) :: r => a.closed && tupClosed r
def SV.closed : SV → Bool
  | .one a => a.closed
  | .agg a => a.closed
  | .tup l => tupClosed l
  | .und => true
def allClosed : List SV → Bool
  | [] => true
  | s :: r => s.closed && allClosed r
section
variable [Rho]
theorem closed_dv {γ : Nat → Option Nat} {N : Nat → Prop} {w : World} {a : AV} {l : List Value} (hd : DV γ N w a l) (h : a.closed = true) : DV noγ N w a l := by
  induction hd with
  | nil => exact .nil
  | cons _ _ ih1 ih2 =>
    simp only [AV.closed, Bool.and_eq_true] at h
    exact .cons (ih1 h.1) (ih2 h.2)
  | sc h1 => exact .sc h1
  | int h1 h2 => exact .int h1 h2
  | den h1 h2 => exact .den h1 h2
  | sym => exact .sym
  | lim h1 => exact .lim h1
  | sl h1 h2 _ h4 h5 ih => exact .sl h1 h2 (ih h) h4 h5
  | osl => cases h
  | ptr => cases h
  | fp h1 h2 _ h4 ih => exact .fp h1 h2 (ih h) h4
  | fn _ ih => exact .fn (ih h)
  | any h1 => exact .any h1
theorem closed_pvs {γ : Nat → Option Nat} {N : Nat → Prop} {w : World} {l : List (Bool × AV)} {vs : List Value} (hd : PVs γ N w l vs) : tupClosed l = true → PVs noγ N w l vs := by
  induction hd with
  | nil => intro _; exact .nil
  | cons h1 _ ih =>
    intro h
    simp only [tupClosed, Bool.and_eq_true] at h
    refine .cons ?_ (ih h.2)
    unfold PV at h1 ⊢
    split at h1
    · rename_i hb
      rw [if_pos hb]
      obtain ⟨l, h3, h4⟩ := h1
      exact ⟨l, h3, closed_dv h4 h.1⟩
    · rename_i hb
      rw [if_neg hb]
      exact closed_dv h1 h.1
theorem closed_vr {γ : Nat → Option Nat} {N : Nat → Prop} {w : World} {s : SV} {v : Value} (hd : VR γ N w s v) (h : s.closed = true) : VR noγ N w s v := by
  cases s with
  | one a => exact closed_dv hd h
  | agg a => obtain ⟨l, h1, h2⟩ := hd; exact ⟨l, h1, closed_dv h2 h⟩
  | tup l => obtain ⟨vs, h1, h2⟩ := hd; exact ⟨vs, h1, closed_pvs h2 h⟩
  | und => trivial
theorem closed_caps {γ : Nat → Option Nat} {N : Nat → Prop} {w : World} {l : List SV} {vs : List Value} (hd : Caps γ N w l vs) : allClosed l = true → Caps noγ N w l vs := by
  induction hd with
  | nil => intro _; exact .nil
  | cons h1 _ ih =>
    intro h
    simp only [allClosed, Bool.and_eq_true] at h
    exact .cons (closed_vr h1 h.1) (ih h.2)
theorem eqL_eq : ∀ {l m : List SV}, eqL l m = true → l = m := by
  intro l
  induction l with
  | nil => intro m h; cases m with | nil => rfl | cons => cases h
  | cons s r ih =>
    intro m h
    cases m with
    | nil => cases h
    | cons t q =>
      simp only [eqL, Bool.and_eq_true] at h
      rw [SV.eqb_eq h.1, ih h.2]
/-- what the evaluator found once -/
structure Known (fn : Nat) (args : List SV) (r : SV) : Prop where
  run : ∃ (O : Nat → List SV → Option SV) (keep : Nat → Bool) (fuel k : Nat), OrOk Tryz.prog O ∧ evK Tryz.prog O keep fuel k none fn args ⟨0, []⟩ = some (r, ⟨0, []⟩)
  closed : allClosed args = true
theorem tabO_ok {O : Nat → List SV → Option SV} (hO : OrOk Tryz.prog O) : ∀ {t : Tab}, (∀ p ∈ t, Known p.1 p.2.1 p.2.2) → OrOk Tryz.prog (tabO O t) := by
  intro t
  induction t with
  | nil => intro _; exact hO
  | cons p t ih =>
    obtain ⟨fn, args, r⟩ := p
    intro h f a s hs
    simp only [tabO] at hs
    rcases cond_some hs with ⟨h1, h2⟩ | ⟨_, h2⟩
    · cases h2
      rw [Bool.and_eq_true] at h1
      have e1 := Nat.eq_of_beq_eq_true h1.1
      have e2 := eqL_eq h1.2
      subst e1 e2
      obtain ⟨⟨O', keep, fuel, k, h3, h4⟩, h5⟩ := h _ List.mem_cons_self
      intro γ N0 H w vs hS hc
      refine (ev_run h3 h4 (N := Nn N0 γ) (fun g hg => hS.nlt hg) (closed_caps hc h5)).mono ?_
      rintro e w' ⟨v, k1, k2, k3⟩
      exact ⟨v, k1, k2, k3.keep (Keep.of_ext (Ext.refl w')) (fun b g hb => by cases hb) fun g hg => .inl hg⟩
    · exact ih (fun p hp => h p (List.mem_cons_of_mem _ hp)) f a s h2
end
end

section

def cCU : SV := .agg (.cons (.sl (.cons (.sc (.string ⟨#[99, 117, 98, 101]⟩)) <| .cons (.sc (.int .i64 (1))) <| .cons (.sl (.cons (.sl (.cons (.sc (.int .i64 (0))) <| .cons (.sc (.int .i64 (0))) <| .cons (.sc (.int .i64 (0))) <| .cons (.sc (.int .i64 (0))) <| .cons (.sc (.int .i64 (0))) <| .cons (.sc (.int .i64 (1))) <| .cons (.sc (.int .i64 (0))) <| .cons (.sc (.int .i64 (1))) <| .cons (.sc (.int .i64 (0))) <| .cons (.sc (.int .i64 (0))) <| .cons (.sc (.int .i64 (1))) <| .cons (.sc (.int .i64 (1))) <| .cons (.sc (.int .i64 (1))) <| .cons (.sc (.int .i64 (0))) <| .cons (.sc (.int .i64 (0))) <| .cons (.sc (.int .i64 (1))) <| .cons (.sc (.int .i64 (0))) <| .cons (.sc (.int .i64 (1))) <| .cons (.sc (.int .i64 (1))) <| .cons (.sc (.int .i64 (1))) <| .cons (.sc (.int .i64 (0))) <| .cons (.sc (.int .i64 (1))) <| .cons (.sc (.int .i64 (1))) <| .cons (.sc (.int .i64 (1))) <| .nil) 8) <| .nil) 1) <| .nil) 1) <| .cons (.sl (.cons (.sc (.string ⟨#[97]⟩)) <| .cons (.sc (.string ⟨#[99, 117, 98, 101]⟩)) <| .cons (.sc (.int .i64 (1))) <| .cons (.sc (.int .i64 (0))) <| .cons (.sc (.int .i64 (0))) <| .cons (.sc (.int .i64 (0))) <| .cons (.sc (.string ⟨#[48]⟩)) <| .cons (.sc (.string ⟨#[48]⟩)) <| .cons (.sc (.string ⟨#[48]⟩)) <| .cons (.sc (.string ⟨#[98]⟩)) <| .cons (.sc (.string ⟨#[99, 117, 98, 101]⟩)) <| .cons (.sc (.int .i64 (1))) <| .cons (.sc (.int .i64 (0))) <| .cons (.sc (.int .i64 (0))) <| .cons (.sc (.int .i64 (0))) <| .cons (.sc (.string ⟨#[50]⟩)) <| .cons (.sc (.string ⟨#[48]⟩)) <| .cons (.sc (.string ⟨#[48]⟩)) <| .nil) 2) <| .nil)
def cI0 : SV := .agg (.cons (.sc (.string ⟨#[97]⟩)) <| .cons (.sc (.string ⟨#[99, 117, 98, 101]⟩)) <| .cons (.sc (.int .i64 (1))) <| .cons (.sc (.int .i64 (0))) <| .cons (.sc (.int .i64 (0))) <| .cons (.sc (.int .i64 (0))) <| .cons (.sc (.string ⟨#[48]⟩)) <| .cons (.sc (.string ⟨#[48]⟩)) <| .cons (.sc (.string ⟨#[48]⟩)) <| .nil)
def cI1 : SV := .agg (.cons (.sc (.string ⟨#[98]⟩)) <| .cons (.sc (.string ⟨#[99, 117, 98, 101]⟩)) <| .cons (.sc (.int .i64 (1))) <| .cons (.sc (.int .i64 (0))) <| .cons (.sc (.int .i64 (0))) <| .cons (.sc (.int .i64 (0))) <| .cons (.sc (.string ⟨#[50]⟩)) <| .cons (.sc (.string ⟨#[48]⟩)) <| .cons (.sc (.string ⟨#[48]⟩)) <| .nil)
def cCell : SV := .agg (.cons (.sl (.cons (.sc (.int .i64 (0))) <| .cons (.sc (.int .i64 (0))) <| .cons (.sc (.int .i64 (0))) <| .cons (.sc (.int .i64 (0))) <| .cons (.sc (.int .i64 (0))) <| .cons (.sc (.int .i64 (1))) <| .cons (.sc (.int .i64 (0))) <| .cons (.sc (.int .i64 (1))) <| .cons (.sc (.int .i64 (0))) <| .cons (.sc (.int .i64 (0))) <| .cons (.sc (.int .i64 (1))) <| .cons (.sc (.int .i64 (1))) <| .cons (.sc (.int .i64 (1))) <| .cons (.sc (.int .i64 (0))) <| .cons (.sc (.int .i64 (0))) <| .cons (.sc (.int .i64 (1))) <| .cons (.sc (.int .i64 (0))) <| .cons (.sc (.int .i64 (1))) <| .cons (.sc (.int .i64 (1))) <| .cons (.sc (.int .i64 (1))) <| .cons (.sc (.int .i64 (0))) <| .cons (.sc (.int .i64 (1))) <| .cons (.sc (.int .i64 (1))) <| .cons (.sc (.int .i64 (1))) <| .nil) 8) <| .nil)
def cB0V : AV := .cons (.int (0) 2) <| .cons .den <| .cons (.int (0) 2) <| .cons .den <| .cons (.int (0) 2) <| .cons .den <| .cons (.int (0) 2) <| .cons .den <| .cons (.int (0) 2) <| .cons .den <| .cons (.int (1) 2) <| .cons .den <| .cons (.int (0) 2) <| .cons .den <| .cons (.int (1) 2) <| .cons .den <| .cons (.int (0) 2) <| .cons .den <| .cons (.int (0) 2) <| .cons .den <| .cons (.int (1) 2) <| .cons .den <| .cons (.int (1) 2) <| .cons .den <| .cons (.int (1) 2) <| .cons .den <| .cons (.int (0) 2) <| .cons .den <| .cons (.int (0) 2) <| .cons .den <| .cons (.int (1) 2) <| .cons .den <| .cons (.int (0) 2) <| .cons .den <| .cons (.int (1) 2) <| .cons .den <| .cons (.int (1) 2) <| .cons .den <| .cons (.int (1) 2) <| .cons .den <| .cons (.int (0) 2) <| .cons .den <| .cons (.int (1) 2) <| .cons .den <| .cons (.int (1) 2) <| .cons .den <| .cons (.int (1) 2) <| .cons .den <| .nil
def cB0F : AV := .cons (.int (-1) 2) <| .cons .den <| .cons (.int (0) 2) <| .cons .den <| .cons (.int (0) 2) <| .cons .den <| .cons (.int (0) 2) <| .cons .den <| .cons (.int (0) 2) <| .cons .den <| .cons (.int (-1) 2) <| .cons .den <| .cons (.int (0) 2) <| .cons .den <| .cons (.int (0) 2) <| .cons .den <| .cons (.int (0) 2) <| .cons .den <| .cons (.int (0) 2) <| .cons .den <| .cons (.int (-1) 2) <| .cons .den <| .cons (.int (0) 2) <| .cons .den <| .cons (.int (0) 2) <| .cons .den <| .cons (.int (0) 2) <| .cons .den <| .cons (.int (1) 2) <| .cons .den <| .cons (.int (1) 2) <| .cons .den <| .cons (.int (0) 2) <| .cons .den <| .cons (.int (1) 2) <| .cons .den <| .cons (.int (0) 2) <| .cons .den <| .cons (.int (1) 2) <| .cons .den <| .cons (.int (1) 2) <| .cons .den <| .cons (.int (0) 2) <| .cons .den <| .cons (.int (0) 2) <| .cons .den <| .cons (.int (1) 2) <| .cons .den <| .nil
def cB0E : AV := .cons (.int (0) 2) <| .cons .den <| .cons (.int (0) 2) <| .cons .den <| .cons (.int (1) 2) <| .cons .den <| .cons (.int (0) 2) <| .cons .den <| .cons (.int (1) 2) <| .cons .den <| .cons (.int (0) 2) <| .cons .den <| .cons (.int (1) 2) <| .cons .den <| .cons (.int (0) 2) <| .cons .den <| .cons (.int (0) 2) <| .cons .den <| .cons (.int (0) 2) <| .cons .den <| .cons (.int (1) 2) <| .cons .den <| .cons (.int (0) 2) <| .cons .den <| .cons (.int (1) 2) <| .cons .den <| .cons (.int (0) 2) <| .cons .den <| .cons (.int (0) 2) <| .cons .den <| .cons (.int (0) 2) <| .cons .den <| .cons (.int (0) 2) <| .cons .den <| .cons (.int (1) 2) <| .cons .den <| .cons (.int (1) 2) <| .cons .den <| .cons (.int (0) 2) <| .cons .den <| .cons (.int (0) 2) <| .cons .den <| .cons (.int (1) 2) <| .cons .den <| .cons (.int (0) 2) <| .cons .den <| .cons (.int (0) 2) <| .cons .den <| .cons (.int (0) 2) <| .cons .den <| .cons (.int (0) 2) <| .cons .den <| .cons (.int (1) 2) <| .cons .den <| .cons (.int (0) 2) <| .cons .den <| .cons (.int (1) 2) <| .cons .den <| .cons (.int (0) 2) <| .cons .den <| .cons (.int (0) 2) <| .cons .den <| .cons (.int (1) 2) <| .cons .den <| .cons (.int (0) 2) <| .cons .den <| .cons (.int (0) 2) <| .cons .den <| .cons (.int (0) 2) <| .cons .den <| .cons (.int (1) 2) <| .cons .den <| .nil
def cB0 : SV := .agg (.cons (.sl cB0V 8) (.cons (.sl cB0F 6) (.cons (.sl cB0E 12) .nil)))
def cB1V : AV := .cons (.int (2) 2) <| .cons .den <| .cons (.int (0) 2) <| .cons .den <| .cons (.int (0) 2) <| .cons .den <| .cons (.int (2) 2) <| .cons .den <| .cons (.int (0) 2) <| .cons .den <| .cons (.int (1) 2) <| .cons .den <| .cons (.int (2) 2) <| .cons .den <| .cons (.int (1) 2) <| .cons .den <| .cons (.int (0) 2) <| .cons .den <| .cons (.int (2) 2) <| .cons .den <| .cons (.int (1) 2) <| .cons .den <| .cons (.int (1) 2) <| .cons .den <| .cons (.int (3) 2) <| .cons .den <| .cons (.int (0) 2) <| .cons .den <| .cons (.int (0) 2) <| .cons .den <| .cons (.int (3) 2) <| .cons .den <| .cons (.int (0) 2) <| .cons .den <| .cons (.int (1) 2) <| .cons .den <| .cons (.int (3) 2) <| .cons .den <| .cons (.int (1) 2) <| .cons .den <| .cons (.int (0) 2) <| .cons .den <| .cons (.int (3) 2) <| .cons .den <| .cons (.int (1) 2) <| .cons .den <| .cons (.int (1) 2) <| .cons .den <| .nil
def cB1F : AV := .cons (.int (-1) 2) <| .cons .den <| .cons (.int (0) 2) <| .cons .den <| .cons (.int (0) 2) <| .cons .den <| .cons (.int (-2) 2) <| .cons .den <| .cons (.int (0) 2) <| .cons .den <| .cons (.int (-1) 2) <| .cons .den <| .cons (.int (0) 2) <| .cons .den <| .cons (.int (0) 2) <| .cons .den <| .cons (.int (0) 2) <| .cons .den <| .cons (.int (0) 2) <| .cons .den <| .cons (.int (-1) 2) <| .cons .den <| .cons (.int (0) 2) <| .cons .den <| .cons (.int (0) 2) <| .cons .den <| .cons (.int (0) 2) <| .cons .den <| .cons (.int (1) 2) <| .cons .den <| .cons (.int (1) 2) <| .cons .den <| .cons (.int (0) 2) <| .cons .den <| .cons (.int (1) 2) <| .cons .den <| .cons (.int (0) 2) <| .cons .den <| .cons (.int (1) 2) <| .cons .den <| .cons (.int (1) 2) <| .cons .den <| .cons (.int (0) 2) <| .cons .den <| .cons (.int (0) 2) <| .cons .den <| .cons (.int (3) 2) <| .cons .den <| .nil
def cB1E : AV := .cons (.int (0) 2) <| .cons .den <| .cons (.int (0) 2) <| .cons .den <| .cons (.int (1) 2) <| .cons .den <| .cons (.int (0) 2) <| .cons .den <| .cons (.int (1) 2) <| .cons .den <| .cons (.int (0) 2) <| .cons .den <| .cons (.int (1) 2) <| .cons .den <| .cons (.int (0) 2) <| .cons .den <| .cons (.int (0) 2) <| .cons .den <| .cons (.int (0) 2) <| .cons .den <| .cons (.int (1) 2) <| .cons .den <| .cons (.int (0) 2) <| .cons .den <| .cons (.int (1) 2) <| .cons .den <| .cons (.int (0) 2) <| .cons .den <| .cons (.int (0) 2) <| .cons .den <| .cons (.int (0) 2) <| .cons .den <| .cons (.int (0) 2) <| .cons .den <| .cons (.int (1) 2) <| .cons .den <| .cons (.int (1) 2) <| .cons .den <| .cons (.int (0) 2) <| .cons .den <| .cons (.int (0) 2) <| .cons .den <| .cons (.int (1) 2) <| .cons .den <| .cons (.int (0) 2) <| .cons .den <| .cons (.int (0) 2) <| .cons .den <| .cons (.int (0) 2) <| .cons .den <| .cons (.int (0) 2) <| .cons .den <| .cons (.int (1) 2) <| .cons .den <| .cons (.int (0) 2) <| .cons .den <| .cons (.int (1) 2) <| .cons .den <| .cons (.int (0) 2) <| .cons .den <| .cons (.int (0) 2) <| .cons .den <| .cons (.int (1) 2) <| .cons .den <| .cons (.int (0) 2) <| .cons .den <| .cons (.int (0) 2) <| .cons .den <| .cons (.int (0) 2) <| .cons .den <| .cons (.int (1) 2) <| .cons .den <| .nil
def cB1 : SV := .agg (.cons (.sl cB1V 8) (.cons (.sl cB1F 6) (.cons (.sl cB1E 12) .nil)))
def cX00 : SV := .tup [(true, .cons (.int (0) 2) <| .cons .den <| .nil), (true, .cons (.int (1) 2) <| .cons .den <| .nil)]
def cX01 : SV := .tup [(true, .cons (.int (0) 2) <| .cons .den <| .nil), (true, .cons (.int (1) 2) <| .cons .den <| .nil)]
def cX02 : SV := .tup [(true, .cons (.int (0) 2) <| .cons .den <| .nil), (true, .cons (.int (1) 2) <| .cons .den <| .nil)]
def cX03 : SV := .tup [(true, .cons (.int (-1) 2) <| .cons .den <| .nil), (true, .cons (.int (0) 2) <| .cons .den <| .nil)]
def cX04 : SV := .tup [(true, .cons (.int (-1) 2) <| .cons .den <| .nil), (true, .cons (.int (0) 2) <| .cons .den <| .nil)]
def cX05 : SV := .tup [(true, .cons (.int (-1) 2) <| .cons .den <| .nil), (true, .cons (.int (0) 2) <| .cons .den <| .nil)]
def cX10 : SV := .tup [(true, .cons (.int (2) 2) <| .cons .den <| .nil), (true, .cons (.int (3) 2) <| .cons .den <| .nil)]
def cX11 : SV := .tup [(true, .cons (.int (0) 2) <| .cons .den <| .nil), (true, .cons (.int (1) 2) <| .cons .den <| .nil)]
def cX12 : SV := .tup [(true, .cons (.int (0) 2) <| .cons .den <| .nil), (true, .cons (.int (1) 2) <| .cons .den <| .nil)]
def cX13 : SV := .tup [(true, .cons (.int (-3) 2) <| .cons .den <| .nil), (true, .cons (.int (-2) 2) <| .cons .den <| .nil)]
def cX14 : SV := .tup [(true, .cons (.int (-1) 2) <| .cons .den <| .nil), (true, .cons (.int (0) 2) <| .cons .den <| .nil)]
def cX15 : SV := .tup [(true, .cons (.int (-1) 2) <| .cons .den <| .nil), (true, .cons (.int (0) 2) <| .cons .den <| .nil)]
def cM : SV := .agg (.cons (.int (1) 2) <| .cons (.int (1) 2) <| .cons (.int (3) 2) <| .cons (.int (1) 2) <| .cons (.sc (.bool false)) <| .nil)

def T1 : Tab := [(8, [nv 2], cCU)]
def T2 : Tab := (63, [cI0, cCell], cB0) :: (63, [cI1, cCell], cB1) :: T1
def T3 : Tab := [
  (31, [cB0, vt3 1 0 0], cX00),
  (31, [cB0, vt3 0 1 0], cX01),
  (31, [cB0, vt3 0 0 1], cX02),
  (31, [cB0, vt3 (-1) 0 0], cX03),
  (31, [cB0, vt3 0 (-1) 0], cX04),
  (31, [cB0, vt3 0 0 (-1)], cX05),
  (31, [cB1, vt3 1 0 0], cX10),
  (31, [cB1, vt3 0 1 0], cX11),
  (31, [cB1, vt3 0 0 1], cX12),
  (31, [cB1, vt3 (-1) 0 0], cX13),
  (31, [cB1, vt3 0 (-1) 0], cX14),
  (31, [cB1, vt3 0 0 (-1)], cX15)] ++ T2
def T4 : Tab := (98, [cB0, cB1, vt3 1 0 0, bv false], cM) :: T3
def zRat : AV := .cons (.sc (.bool false)) (.cons (.sc (.slice none 0 0)) (.cons (.sc (.bool false)) (.cons (.sc (.slice none 0 0)) .nil)))
def aRat : AV := .cons .any (.cons .any (.cons .any (.cons .any .nil)))
/-- the number of the statement: its error, and whether it is too long -/
def oRead (e : Int) : Orac
  | [.one .sym] => some (.tup [(true, cond (Nat.beq e.natAbs 0) aRat zRat), (false, .sc (.int .i64 e))])
  | a => oReadL a
def oShort (sh : Bool) : Orac
  | [.one .sym] => some (bv sh)
  | _ => none
def OS (e : Int) (sh : Bool) (f : Nat) (args : List SV) : Option SV :=
  cond (Nat.beq f 4) (one_ [] (bv true) args) <|
  cond (Nat.beq f 6) (oRead e args) <|
  cond (Nat.beq f 14) (oShort sh args) (tabO OB T4 f args)
end
end Go.Proofs.YteaggpgdfiodfaaGreatDoor
