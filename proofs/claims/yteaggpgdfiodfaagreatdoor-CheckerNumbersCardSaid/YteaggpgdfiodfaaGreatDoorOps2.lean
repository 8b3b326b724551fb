/-
  More operations: guarded ones, choices, tests on integers, structs built. Conditions: each lemma's premises.
-/
import Derived.Test.YteaggpgdfiodfaaGreatDoorOps
namespace Go.Proofs.YteaggpgdfiodfaaGreatDoor
set_option linter.all false
open Go.RowKit

section
variable {P : Program} {E : World → World → Prop} {ops : Array Oper} {a : Act} {ds : List Tmp} {W : World} {K : Kn → Prop} {kn : Kn} {rest : List Oper}
variable {d : Tmp} {ty : TypeId} {pos : String} {after : Array Edge}

theorem looks_guard {o : Oper} {g : Nat × Bool} : ∀ t, t ∈ Oper.looksAt ops { o with guard := none } → t ∈ Oper.looksAt ops { o with guard := some g } := by
  intro t ht
  unfold Oper.looksAt at ht ⊢
  simp only [List.append_nil] at ht
  exact List.mem_append_left _ ht
theorem looks_guard' {o : Oper} {j t : Nat} {want : Bool} (hj : (ops[j]?).bind (·.dst) = some t) : t ∈ Oper.looksAt ops { o with guard := some (j, want) } := by
  unfold Oper.looksAt
  refine List.mem_append_right _ ?_
  simp [hj]

theorem yields_of {j t : Nat} {b : Bool} {a' : Act} (hj : (ops[j]?).bind (·.dst) = some t) (h : a'.tmps[t]? = some (.bool b)) : yielded ops a'.tmps j = some b := by
  unfold yielded
  rw [hj]
  simp [h]

/-- a guarded operation whose guard is met -/
theorem Steps.guarded {op : Op} {j t : Nat} {want : Bool} (hj : (ops[j]?).bind (·.dst) = some t) (hk : kn.lookup t = some (fun u _ => u = .bool want))
    (h : Steps P E ops a ds W K (⟨some d, op, ty, pos, after, none⟩ :: rest) kn) : Steps P E ops a ds W K (⟨some d, op, ty, pos, after, some (j, want)⟩ :: rest) kn := by
  obtain ⟨d', R, hd, hst, ho, hr⟩ := h
  refine ⟨d', R, hd, hst, fun a' w' h1 h2 h3 => ?_, hr⟩
  have hy : yielded ops a'.tmps j = some want := by
    obtain ⟨v, hv, hb⟩ := h3 _ (lookup_mem hk) (looks_guard' (o := ⟨some d, op, ty, pos, after, none⟩) hj)
    subst hb
    exact yields_of hj hv
  rw [if_pos (by simp [Region.wanted, hy])]
  have h4 := ho a' w' h1 h2 (fun p hp ht => h3 p hp (looks_guard (o := ⟨some d, op, ty, pos, after, none⟩) p.1 ht))
  rw [if_pos (by simp [Region.wanted])] at h4
  exact h4
/-- a guarded operation that is left out -/
theorem Steps.skipped {op : Op} {j t : Nat} {want : Bool} (hj : (ops[j]?).bind (·.dst) = some t) (hk : kn.lookup t = some (fun u _ => u = .bool (!want)))
    (h : Steps P E ops a ds W K rest (kn ++ [(d, fun u _ => u = undef)])) : Steps P E ops a ds W K (⟨some d, op, ty, pos, after, some (j, want)⟩ :: rest) kn := by
  refine ⟨d, _, rfl, Stb.exact, fun a' w' h1 h2 h3 => ?_, h⟩
  have hy : yielded ops a'.tmps j = some (!want) := by
    obtain ⟨v, hv, hb⟩ := h3 _ (lookup_mem hk) (looks_guard' (o := ⟨some d, op, ty, pos, after, none⟩) hj)
    subst hb
    exact yields_of hj hv
  rw [if_neg (by simp [Region.wanted, hy])]

theorem Steps.pick_true (hp : Pre E) {c x y : Operand} {R : Pd} (hst : Stb E R)
    (hc : Opd kn a ds (Oper.looksAt ops ⟨some d, .pick c x y, ty, pos, after, none⟩) c (fun u _ => u = .bool true))
    (hx : Opd kn a ds (Oper.looksAt ops ⟨some d, .pick c x y, ty, pos, after, none⟩) x R)
    (h : Steps P E ops a ds W K rest (kn ++ [(d, R)])) : Steps P E ops a ds W K (⟨some d, .pick c x y, ty, pos, after, none⟩ :: rest) kn :=
  Steps.op rfl rfl hst (fun a' w' h1 h2 h3 => Runs.of_run (v := a'.eval x) (w' := w') (by simp [execOp, hc a' w' h1 h3, asBool]) ⟨hp.refl _, hx a' w' h1 h3⟩) h
theorem Steps.pick_false (hp : Pre E) {c x y : Operand} {R : Pd} (hst : Stb E R)
    (hc : Opd kn a ds (Oper.looksAt ops ⟨some d, .pick c x y, ty, pos, after, none⟩) c (fun u _ => u = .bool false))
    (hx : Opd kn a ds (Oper.looksAt ops ⟨some d, .pick c x y, ty, pos, after, none⟩) y R)
    (h : Steps P E ops a ds W K rest (kn ++ [(d, R)])) : Steps P E ops a ds W K (⟨some d, .pick c x y, ty, pos, after, none⟩ :: rest) kn :=
  Steps.op rfl rfl hst (fun a' w' h1 h2 h3 => Runs.of_run (v := a'.eval y) (w' := w') (by simp [execOp, hc a' w' h1 h3, asBool]) ⟨hp.refl _, hx a' w' h1 h3⟩) h

theorem Steps.eqlI (hp : Pre E) {T T' : TypeId} {x y : Operand} {m n : Int}
    (hx : Opd kn a ds (Oper.looksAt ops ⟨some d, .binOp .eql T x y T', ty, pos, after, none⟩) x (fun u _ => u = .int .i64 m))
    (hy : Opd kn a ds (Oper.looksAt ops ⟨some d, .binOp .eql T x y T', ty, pos, after, none⟩) y (fun u _ => u = .int .i64 n))
    (b : Bool) (hb : decide (m = n) = b)
    (h : Steps P E ops a ds W K rest (kn ++ [(d, fun u _ => u = .bool b)])) : Steps P E ops a ds W K (⟨some d, .binOp .eql T x y T', ty, pos, after, none⟩ :: rest) kn := by
  refine Steps.pure hp _ rfl rfl (fun a' w' h1 h2 h3 => ?_) h
  subst hb
  have e1 : a'.eval x = _ := hx a' w' h1 h3
  have e2 : a'.eval y = _ := hy a' w' h1 h3
  simp only [execOp, e1, e2]
  simp [go_sem]
  rfl
theorem Steps.neqI (hp : Pre E) {T T' : TypeId} {x y : Operand} {m n : Int}
    (hx : Opd kn a ds (Oper.looksAt ops ⟨some d, .binOp .neq T x y T', ty, pos, after, none⟩) x (fun u _ => u = .int .i64 m))
    (hy : Opd kn a ds (Oper.looksAt ops ⟨some d, .binOp .neq T x y T', ty, pos, after, none⟩) y (fun u _ => u = .int .i64 n))
    (b : Bool) (hb : decide (m ≠ n) = b)
    (h : Steps P E ops a ds W K rest (kn ++ [(d, fun u _ => u = .bool b)])) : Steps P E ops a ds W K (⟨some d, .binOp .neq T x y T', ty, pos, after, none⟩ :: rest) kn := by
  refine Steps.pure hp _ rfl rfl (fun a' w' h1 h2 h3 => ?_) h
  subst hb
  have e1 : a'.eval x = _ := hx a' w' h1 h3
  have e2 : a'.eval y = _ := hy a' w' h1 h3
  simp only [execOp, e1, e2]
  simp [go_sem]
  rfl
theorem Steps.lssI (hp : Pre E) {T T' : TypeId} {x y : Operand} {m n : Int}
    (hx : Opd kn a ds (Oper.looksAt ops ⟨some d, .binOp .lss T x y T', ty, pos, after, none⟩) x (fun u _ => u = .int .i64 m))
    (hy : Opd kn a ds (Oper.looksAt ops ⟨some d, .binOp .lss T x y T', ty, pos, after, none⟩) y (fun u _ => u = .int .i64 n))
    (b : Bool) (hb : decide (m < n) = b)
    (h : Steps P E ops a ds W K rest (kn ++ [(d, fun u _ => u = .bool b)])) : Steps P E ops a ds W K (⟨some d, .binOp .lss T x y T', ty, pos, after, none⟩ :: rest) kn := by
  refine Steps.pure hp _ rfl rfl (fun a' w' h1 h2 h3 => ?_) h
  subst hb
  have e1 : a'.eval x = _ := hx a' w' h1 h3
  have e2 : a'.eval y = _ := hy a' w' h1 h3
  simp only [execOp, e1, e2]
  simp [go_sem]
end
end Go.Proofs.YteaggpgdfiodfaaGreatDoor
