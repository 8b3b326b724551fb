/-
  The law dowellaw54.CheckerNumbers holds of every text. Conditions: none.
-/
import Derived.Test.YteaggpgdfiodfaaGreatDoorRq
import Derived.Test.YteaggpgdfiodfaaGreatDoorKa
import Derived.Test.YteaggpgdfiodfaaGreatDoorKb
import Derived.Test.YteaggpgdfiodfaaGreatDoorKc
import Derived.Test.YteaggpgdfiodfaaGreatDoorKd
import Derived.Test.YteaggpgdfiodfaaGreatDoorKe
import Derived.Test.YteaggpgdfiodfaaGreatDoorKf
import Derived.Test.YteaggpgdfiodfaaGreatDoorKg
namespace Go.Proofs.YteaggpgdfiodfaaGreatDoor
set_option linter.all false
open Go.RowKit

section
variable [Rho]
theorem known_ob {fn : Nat} {args : List SV} {r : SV} (h : evK Tryz.prog OB keepF 1000 12 none fn args ⟨0, []⟩ = some (r, ⟨0, []⟩)) (hc : allClosed args = true) : Known fn args r := ⟨⟨OB, keepF, 1000, 12, OB_ok, h⟩, hc⟩
theorem T1_ok : ∀ p ∈ T1, Known p.1 p.2.1 p.2.2 := by
  intro p hp
  simp only [T1, List.mem_cons, List.not_mem_nil, or_false] at hp
  subst hp
  exact known_ob ev_cubes (by kernel_rfl)
theorem T2_ok : ∀ p ∈ T2, Known p.1 p.2.1 p.2.2 := by
  intro p hp
  simp only [T2, List.mem_cons] at hp
  rcases hp with rfl | rfl | hp
  · exact known_ob ev_place0 (by kernel_rfl)
  · exact known_ob ev_place1 (by kernel_rfl)
  · exact T1_ok p hp
theorem T3_ok : ∀ p ∈ T3, Known p.1 p.2.1 p.2.2 := by
  intro p hp
  rw [T3, List.mem_append] at hp
  rcases hp with hp | hp
  · simp only [List.mem_cons, List.not_mem_nil, or_false] at hp
    rcases hp with rfl | rfl | rfl | rfl | rfl | rfl | rfl | rfl | rfl | rfl | rfl | rfl
    · exact known_ob ev_extent00 (by kernel_rfl)
    · exact known_ob ev_extent01 (by kernel_rfl)
    · exact known_ob ev_extent02 (by kernel_rfl)
    · exact known_ob ev_extent03 (by kernel_rfl)
    · exact known_ob ev_extent04 (by kernel_rfl)
    · exact known_ob ev_extent05 (by kernel_rfl)
    · exact known_ob ev_extent10 (by kernel_rfl)
    · exact known_ob ev_extent11 (by kernel_rfl)
    · exact known_ob ev_extent12 (by kernel_rfl)
    · exact known_ob ev_extent13 (by kernel_rfl)
    · exact known_ob ev_extent14 (by kernel_rfl)
    · exact known_ob ev_extent15 (by kernel_rfl)
  · exact T2_ok p hp
theorem T4_ok : ∀ p ∈ T4, Known p.1 p.2.1 p.2.2 := by
  intro p hp
  simp only [T4, List.mem_cons] at hp
  rcases hp with rfl | hp
  · exact ⟨⟨_, keepF, 1000, 12, tabO_ok OB_ok T3_ok, ev_meets⟩, by kernel_rfl⟩
  · exact T3_ok p hp
theorem or_known : Or1 Tryz.prog 4 (one_ [] (bv true)) := by
  intro args s hs γ N0 H w vs hS hc
  unfold one_ at hs
  rcases cond_some hs with ⟨h1, h2⟩ | ⟨_, h2⟩
  · cases h2
    have := eqL_eq h1
    subst this
    refine (ev_run (tabO_ok OB_ok T4_ok) ev_known (N := Nn N0 γ) (fun g hg => hS.nlt hg) (closed_caps hc rfl)).mono ?_
    rintro e w' ⟨v, k1, k2, k3⟩
    exact ⟨v, k1, k2, k3.keep (Keep.of_ext (Ext.refl w')) (fun b g hb => by cases hb) fun g hg => .inl hg⟩
  · cases h2
theorem OS_ok {n : ByteArray} (hv : Rho.v = .string n) (hs : n.size ≤ 20) {e : Int} (he : rErr n.data.toList = e) : OrOk Tryz.prog (OS e false) :=
  .cond or_known <| .cond (or_read hv hs he) <| .cond (or_short hv (decide_eq_false (by omega))) <| tabO_ok OB_ok T4_ok
theorem OL_ok {n : ByteArray} (hv : Rho.v = .string n) (hs : 20 < n.size) : OrOk Tryz.prog OL :=
  .cond or_known <| .cond (or_short hv (decide_eq_true hs)) <| tabO_ok OB_ok T4_ok
end
theorem rErr_cases (l : List UInt8) : rErr l = 0 ∨ rErr l = 3 ∨ rErr l = 14 ∨ rErr l = 19 := by
  unfold rErr
  repeat' split
  all_goals simp
theorem law_spec (w : World) (n : ByteArray) : Calls Tryz.prog 3 #[.string n] w (fun e w' => Ext w w' ∧ e = .returned (.bool true)) := by
  letI : Rho := ⟨.string n, rfl⟩
  have fin : ∀ {O : Nat → List SV → Option SV}, OrOk Tryz.prog O → evK Tryz.prog O keepF 1000 12 none 3 [.one .sym] ⟨0, []⟩ = some (bv true, ⟨0, []⟩) → Calls Tryz.prog 3 #[.string n] w (fun e w' => Ext w w' ∧ e = .returned (.bool true)) := by
    intro O hO h
    refine (ev_run hO h noN_lt (w := w) (vs := [.string n]) (caps1 .sym)).mono ?_
    rintro e w' ⟨v, rfl, hx, hv⟩
    cases hv
    exact ⟨hx, rfl⟩
  by_cases hs : n.size ≤ 20
  · rcases rErr_cases n.data.toList with h | h | h | h
    · exact fin (OS_ok rfl hs h) ev_law0
    · exact fin (OS_ok rfl hs h) ev_law3
    · exact fin (OS_ok rfl hs h) ev_law14
    · exact fin (OS_ok rfl hs h) ev_law19
  · exact fin (OL_ok rfl (by omega)) ev_lawL
end Go.Proofs.YteaggpgdfiodfaaGreatDoor
