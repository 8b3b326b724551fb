/-
  Oracles of texts, sound: the texts of 0 and 2; whether the text of the statement is too long. Conditions: none.
-/
import Derived.Test.YteaggpgdfiodfaaGreatDoorOr
import Derived.Test.YteaggpgdfiodfaaGreatDoorShelf
namespace Go.Proofs.YteaggpgdfiodfaaGreatDoor
set_option linter.all false
open Go.RowKit

/-- a magnitude of one digit divided by a digit -/
def oShortD : Orac
  | [.one (.lim [d]), .one (.sc (.int .u32 (.ofNat y)))] => req (Nat.blt 0 y && Nat.blt y 4294967296 && Nat.blt d 4294967296) (some (.tup [(false, .lim (cond (Nat.beq (d / y) 0) [] [d / y])), (false, .sc (.int .u32 ((d % y : Nat) : Int)))]))
  | _ => none
def oItoa : Orac
  | [.one (.sc (.int .i64 (.ofNat 2)))] => some (.one (.sc (.string ⟨#[50]⟩)))
  | _ => none
def OD (f : Nat) (args : List SV) : Option SV :=
  cond (Nat.beq f 145) (oShortD args) <|
  cond (Nat.beq f 151) (oItoa args) none
theorem ev_text0 : evK Tryz.prog OD keepF 100 9 none 120 [.agg (.cons (.sc (.bool false)) (.cons (.lim []) .nil))] ⟨0, []⟩ = some (.one (.sc (.string ⟨#[48]⟩)), ⟨0, []⟩) := by kernel_rfl
theorem ev_text2 : evK Tryz.prog OD keepF 100 9 none 120 [.agg (.cons (.sc (.bool false)) (.cons (.lim [2]) .nil))] ⟨0, []⟩ = some (.one (.sc (.string ⟨#[50]⟩)), ⟨0, []⟩) := by kernel_rfl
section
variable [Rho]
theorem or_shortD : Or1 Tryz.prog 145 oShortD := by
  intro args s hs γ N0 H w vs hS hc
  unfold oShortD at hs
  split at hs
  · rename_i d y
    obtain ⟨h1, h2⟩ := req_some hs
    cases h2
    simp only [Bool.and_eq_true] at h1
    have hy0 := Nat.le_of_ble_eq_true h1.1.1
    have hy := Nat.le_of_ble_eq_true h1.1.2
    have hd := Nat.le_of_ble_eq_true h1.2
    cases hc with
    | cons hv ht =>
      cases ht with
      | cons hu ht =>
        cases ht
        cases hv with
        | lim hl =>
          cases hu
          have hok : digitsOk [d] := by intro x hx; simp at hx; subst hx; rw [B32_eq]; exact hd
          refine (short_spec w _ [d] y hl hok (by simp) hy hy0).mono ?_
          rintro e w' ⟨hx, v, l, rfl, h3, h4, h5, h6⟩
          have hdv : dval [d] = d := by simp [dval]
          rw [hdv] at h6
          refine ⟨_, rfl, hx, [v, .int .u32 ((d % y : Nat) : Int)], by rw [hdv], ?_⟩
          have hl' : l = cond (Nat.beq (d / y) 0) [] [d / y] := by
            refine h4.eq ?_ ?_
            · cases hb : Nat.beq (d / y) 0 with
              | true => exact ⟨fun x hx => (by cases hx), (by simp)⟩
              | false =>
                have := Nat.ne_of_beq_eq_false hb
                refine ⟨?_, ?_⟩
                · intro x hx
                  simp at hx
                  subst hx
                  rw [B32_eq]
                  exact Nat.lt_of_le_of_lt (Nat.div_le_self _ _) hd
                · intro h; exact this (Option.some.inj h)
            · rw [h6]
              cases hb : Nat.beq (d / y) 0 with
              | true => simp [dval, Nat.eq_of_beq_eq_true hb]
              | false => simp [dval]
          rw [← hl']
          exact .cons (p := (false, .lim l)) (DV.lim h3) (.cons (p := (false, _)) (DV.sc rfl) .nil)
  · cases hs
theorem or_itoa : Or1 Tryz.prog 151 oItoa := by
  intro args s hs γ N0 H w vs hS hc
  unfold oItoa at hs
  split at hs
  · cases hs
    cases hc with
    | cons hv ht =>
      cases ht
      cases hv
      refine (Tryz.strconv_Itoa_small 2 (by decide) w).mono ?_
      rintro e w' ⟨rfl, rfl⟩
      have e : Lib.decDigits 2 = [50] := by unfold Lib.decDigits; rfl
      rw [e]
      exact ⟨_, rfl, Ext.refl _, DV.sc rfl⟩
  · cases hs
theorem OD_ok : OrOk Tryz.prog OD := .cond or_shortD <| .cond or_itoa <| .none _
theorem or_text : Or1 Tryz.prog 120 oText := or_un RI toInt_spec fun x s h w v hr => by
  obtain ⟨x, k⟩ := x
  simp only at h hr
  cases x with
  | negSucc n => cases h
  | ofNat n =>
    obtain ⟨b, A, cap, l, rfl, h1, h2, h3, h4⟩ := hr.1.form
    have hb : b = false := by
      cases b with
      | false => rfl
      | true =>
        exfalso
        have := h3 rfl
        have h5 := mt (norm_zero h2).1 this
        simp at h4
        omega
    subst hb
    simp at h4
    have hvr : ∀ {m : List Nat}, l = m → VR noγ noN w (.agg (.cons (.sc (.bool false)) (.cons (.lim m) .nil))) (.agg #[.bool false, .slice A l.length cap]) := fun {m} e => by
      subst e
      exact ⟨[.bool false, .slice A l.length cap], rfl, .cons (xs := [.bool false]) (.sc rfl) (.cons (xs := [.slice A l.length cap]) (.lim h1) .nil)⟩
    have fin : ∀ {m : List Nat} {c : ByteArray}, l = m → evK Tryz.prog OD keepF 100 9 none 120 [.agg (.cons (.sc (.bool false)) (.cons (.lim m) .nil))] ⟨0, []⟩ = some (.one (.sc (.string c)), ⟨0, []⟩) → Calls Tryz.prog 120 #[.agg #[.bool false, .slice A l.length cap]] w fun e w' => ∃ u, e = .returned u ∧ Ext w w' ∧ ∀ (γ : Nat → Option Nat) (N : Nat → Prop), VR γ N w' (.one (.sc (.string c))) u := fun {m c} e he => by
      refine (ev_run OD_ok he noN_lt (caps1 (hvr e))).mono ?_
      rintro e w' ⟨u, h5, h6, h7⟩
      cases h7
      exact ⟨_, h5, h6, fun _ _ => DV.sc rfl⟩
    simp only [] at h
    rcases cond_some h with ⟨h5, h6⟩ | ⟨_, h6⟩
    · cases h6
      have := Nat.eq_of_beq_eq_true h5
      subst this
      exact fin ((norm_zero h2).1 (by omega)) ev_text0
    · rcases cond_some h6 with ⟨h5, h7⟩ | ⟨_, h7⟩
      · cases h7
        have := Nat.eq_of_beq_eq_true h5
        subst this
        refine fin (h2.eq ⟨by intro x hx; simp at hx; subst hx; decide, by decide⟩ ?_) ev_text2
        have : dval [2] = 2 := rfl
        omega
      · cases h7
end
end Go.Proofs.YteaggpgdfiodfaaGreatDoor
