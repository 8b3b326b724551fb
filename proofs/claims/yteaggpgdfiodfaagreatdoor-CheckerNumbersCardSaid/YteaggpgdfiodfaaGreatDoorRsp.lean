/-
  rational.read and rational.Read at texts of at most 20 bytes: the error is a function of the text. Conditions: none beyond the size.
-/
import Derived.Test.YteaggpgdfiodfaaGreatDoorReT
import Derived.Test.YteaggpgdfiodfaaGreatDoorOr
namespace Go.Proofs.YteaggpgdfiodfaaGreatDoor
set_option linter.all false
open Go.RowKit

def rErr (l : List UInt8) : Int :=
  if isDigits (Lib.trimPrefix (Lib.cut l [47]).1 [45]) = false then 14 else
  if (Lib.cut l [47]).2.2 = true then
    if isDigits (Lib.cut l [47]).2.1 = false then 14 else
    if Lib.trimB (Lib.cut l [47]).2.1 48 = [] then 19 else
    if pErr (Lib.cut l [47]).1 = 3 then 3 else
    if pErr (Lib.cut l [47]).2.1 = 3 then 3 else
    if decide (cmpI (pVal (Lib.cut l [47]).2.1) 1 = 0) = true then 3 else
    if decide (cmpI (Nat.gcd (pVal (Lib.cut l [47]).1).natAbs (pVal (Lib.cut l [47]).2.1).natAbs : Nat) 1 ≠ 0) = true then 3 else 0
  else if pErr (Lib.cut l [47]).1 = 3 then 3 else 0
def rVal (l : List UInt8) : AV :=
  if (Lib.cut l [47]).2.2 = true then .cons (.int (pVal (Lib.cut l [47]).1) 4) (.cons (.int (pVal (Lib.cut l [47]).2.1) 4) .nil) else .cons (.int (pVal (Lib.cut l [47]).1) 4) (.cons .den .nil)
def errV (e : Int) : SV := .tup [(true, zeroAV), (false, .sc (.int .i64 e))]
def rSV (l : List UInt8) : SV := if rErr l = 0 then okR (rVal l) else errV (rErr l)

theorem pErr_two (T : List UInt8) : pErr T = 3 ∨ pErr T = 0 := by
  unfold pErr
  split
  · exact .inl rfl
  · exact .inr rfl
theorem sval_natAbs (b : Bool) (n : Nat) : (sval b n).natAbs = n := by cases b <;> simp [sval]
theorem pVal_lt {T : List UInt8} (hd : isDigits (Lib.trimPrefix T [45]) = true) : (pVal T).natAbs < 10 ^ T.length := by
  unfold pVal
  rw [sval_natAbs]
  exact Nat.lt_of_lt_of_le (decL_lt (isDigits_spec hd).2) (Nat.pow_le_pow_right (by decide) (trimPrefix_le T))
theorem pVal_sz {T : List UInt8} (hd : isDigits (Lib.trimPrefix T [45]) = true) (hl : T.length ≤ 20) : SzI 4 (pVal T) := by
  unfold SzI
  refine Nat.lt_of_lt_of_le (pVal_lt hd) (Nat.le_trans (Nat.pow_le_pow_right (by decide) hl) ?_)
  rw [B32_eq]; decide
theorem pVal_sz1 {T : List UInt8} (hd : isDigits (Lib.trimPrefix T [45]) = true) (hl : T.length ≤ 9) : SzI 1 (pVal T) := by
  unfold SzI
  refine Nat.lt_of_lt_of_le (pVal_lt hd) (Nat.le_trans (Nat.pow_le_pow_right (by decide) hl) ?_)
  rw [B32_eq]; decide
theorem cut_len {l T B : List UInt8} {d : Bool} (h : Lib.cut l [47] = (T, B, d)) : T.length ≤ l.length ∧ B.length ≤ l.length ∧ (d = true → T.length + B.length + 1 ≤ l.length) := by
  unfold Lib.cut at h
  split at h
  · rename_i h0
    have h1 := Lib.index_room l [47] h0
    simp only [Prod.mk.injEq] at h
    obtain ⟨rfl, rfl, rfl⟩ := h
    simp only [List.length_cons, List.length_nil] at h1
    refine ⟨?_, ?_, fun _ => ?_⟩
    · rw [List.length_take]; omega
    · rw [List.length_drop]; omega
    · rw [List.length_take, List.length_drop]; simp only [List.length_cons, List.length_nil]; omega
  · simp only [Prod.mk.injEq] at h
    obtain ⟨rfl, rfl, rfl⟩ := h
    exact ⟨Nat.le_refl _, by simp, fun h => by cases h⟩

section
variable [Rho]
/-- what a call of read gives -/
def RdOk (s : SV) (w : World) (e : Ending) (w' : World) : Prop := Ext w w' ∧ ∃ v, e = .returned v ∧ ∃ γ N, VR γ N w' s v
theorem errV_vr (e : Int) (w : World) : VR noγ (fun _ => False) w (errV e) (.tuple #[.agg z4, .int .i64 e]) :=
  ⟨[.agg z4, .int .i64 e], rfl, .cons (p := (true, zeroAV)) ⟨[.bool false, .slice none 0 0, .bool false, .slice none 0 0], rfl, .cons (xs := [_]) (.sc rfl) (.cons (xs := [_]) (.sc rfl) (.cons (xs := [_]) (.sc rfl) (.cons (xs := [_]) (.sc rfl) .nil)))⟩ (.cons (p := (false, _)) (DV.sc rfl) .nil)⟩
theorem RdOk.err {n : Int} {w w' : World} {e : Ending} (h : Ext w w' ∧ e = .returned (.tuple #[.agg z4, .int .i64 n])) : RdOk (errV n) w e w' := ⟨h.1, _, h.2, _, _, errV_vr n w'⟩
theorem RdOk.whole {n : Int} {w w' : World} {e : Ending} (hn : SzI 4 n) (h : Ext w w' ∧ ∃ c, e = .returned (.tuple #[.agg (c ++ [Value.bool false, Value.slice none 0 0]).toArray, .int .i64 0]) ∧ IntC w' c n) : RdOk (okR (.cons (.int n 4) (.cons .den .nil))) w e w' := by
  obtain ⟨hx, c, h1, h2⟩ := h
  refine ⟨hx, _, h1, noγ, fun _ => False, ?_⟩
  refine ⟨[.agg (c ++ [Value.bool false, Value.slice none 0 0]).toArray, .int .i64 0], rfl, .cons (p := (true, _)) ⟨c ++ [Value.bool false, Value.slice none 0 0], rfl, ?_⟩ (.cons (p := (false, _)) (DV.sc rfl) .nil)⟩
  exact .cons (.int h2 hn) (dv_one (.den (IntC.zero w') (.inl rfl)))
theorem read_spec (w : World) (s : ByteArray) (hs : s.size ≤ 20) : Calls Tryz.prog 15 #[.string s, .int .i64 65536] w (RdOk (rSV s.data.toList) w) := by
  have hl : s.data.toList.length ≤ 20 := by rw [← Lib.size_eq]; exact hs
  rcases hc : Lib.cut s.data.toList [47] with ⟨T, B, d⟩
  obtain ⟨l1, l2, l3⟩ := cut_len hc
  have lT : T.length ≤ 20 := by omega
  have lB : B.length ≤ 20 := by omega
  have lP : (Lib.trimPrefix T [45]).length ≤ 20 := Nat.le_trans (trimPrefix_le T) lT
  unfold rSV rVal rErr
  rw [hc]
  simp only
  cases hT : isDigits (Lib.trimPrefix T [45]) with
  | false =>
    simp only [if_true]
    exact (read_syntaxA w s hs T B _ d hc rfl lT lP lB hT).mono fun e w' h => RdOk.err h
  | true =>
    have sT := pVal_sz hT lT
    cases d with
    | false =>
      rcases pErr_two T with h3 | h3
      · simp only [h3, if_true, if_false, Bool.false_eq_true, Bool.true_eq_false]
        exact (read_wholeErr w s hs T B _ _ hc rfl lT lP lB hT rfl h3).mono fun e w' h => RdOk.err h
      · simp only [h3, if_true, if_false, Bool.false_eq_true, Bool.true_eq_false]
        exact (read_whole w s hs T B _ _ hc rfl lT lP lB hT rfl h3).mono fun e w' h => RdOk.whole sT h
    | true =>
      cases hB : isDigits B with
      | false =>
        simp only [if_true, if_false, Bool.false_eq_true, Bool.true_eq_false]
        exact (read_syntaxB w s hs T B _ _ hc rfl lT lP lB hT rfl hB).mono fun e w' h => RdOk.err h
      | true =>
        have hB' : isDigits (Lib.trimPrefix B [45]) = true := by rw [(no_sign (isDigits_spec hB).2).2]; exact hB
        have sB := pVal_sz hB' lB
        by_cases hZ : Lib.trimB B 48 = []
        · simp only [hZ, if_true, if_false, Bool.false_eq_true, Bool.true_eq_false]
          exact (read_zero w s hs T B _ _ hc rfl lT lP lB hT rfl hB hZ).mono fun e w' h => RdOk.err h
        · rcases pErr_two T with h3 | h3
          · simp only [hZ, h3, if_true, if_false, Bool.false_eq_true, Bool.true_eq_false]
            exact (read_fracErrT w s hs T B _ _ hc rfl lT lP lB _ hT rfl hB rfl hZ h3).mono fun e w' h => RdOk.err h
          · rcases pErr_two B with h4 | h4
            · simp only [hZ, h3, h4, if_true, if_false, Bool.false_eq_true, Bool.true_eq_false]
              exact (read_fracErrB w s hs T B _ _ hc rfl lT lP lB _ hT rfl hB rfl hZ h3 h4 sT)
            · cases h5 : decide (cmpI (pVal B) 1 = 0) with
              | true =>
                simp only [hZ, h3, h4, if_true, if_false, Bool.false_eq_true, Bool.true_eq_false]
                exact (read_fracOne w s hs T B _ _ hc rfl lT lP lB _ hT rfl hB rfl hZ h3 h4 sT sB h5)
              | false =>
                have hsm : SzI 1 (pVal T) ∨ SzI 1 (pVal B) := by
                  have := l3 rfl
                  by_cases h : T.length ≤ 9
                  · exact .inl (pVal_sz1 hT h)
                  · exact .inr (pVal_sz1 hB' (by omega))
                cases h6 : decide (cmpI (Nat.gcd (pVal T).natAbs (pVal B).natAbs : Nat) 1 ≠ 0) with
                | true =>
                  simp only [hZ, h3, h4, if_true, if_false, Bool.false_eq_true, Bool.true_eq_false]
                  exact (read_frac w s hs T B _ _ hc rfl lT lP lB _ hT rfl hB rfl hZ h3 h4 sT sB hsm h5 _ h6)
                | false =>
                  simp only [hZ, h3, h4, if_true, if_false, Bool.false_eq_true, Bool.true_eq_false]
                  exact (read_frac w s hs T B _ _ hc rfl lT lP lB _ hT rfl hB rfl hZ h3 h4 sT sB hsm h5 _ h6)
end
end Go.Proofs.YteaggpgdfiodfaaGreatDoor
