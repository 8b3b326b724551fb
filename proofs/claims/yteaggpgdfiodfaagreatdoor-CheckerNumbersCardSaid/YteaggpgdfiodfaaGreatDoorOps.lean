/-
  What each kind of operation comes to, said of opaque worlds. Conditions: each lemma's premises.
-/
import Derived.Test.YteaggpgdfiodfaaGreatDoorReg
import Derived.WalkKit
import Derived.WalkLawsBesides
import Derived.KernelRfl
namespace Go.Proofs.YteaggpgdfiodfaaGreatDoor
set_option linter.all false
open Go.RowKit

/-! worlds -/
def Ext (w w' : World) : Prop := Below w.heap.size w w'
theorem Ext.refl (w : World) : Ext w w := Below.refl _ _
theorem Ext.trans {a b c : World} (h : Ext a b) (k : Ext b c) : Ext a c := Below.trans h (k.mono h.size)
theorem Ext.drew (w : World) : Ext w { w with drawn := w.drawn + 1 } := ⟨rfl, rfl, rfl, Nat.le_refl _, fun _ _ => rfl⟩
theorem Ext.alloc (w : World) (o : Obj) : Ext w (w.alloc o) := (Below.refl _ _).alloc (Nat.le_refl _) o
theorem Ext.size {w w' : World} (h : Ext w w') : w.heap.size ≤ w'.heap.size := Below.size h
theorem Ext.heap {w w' : World} (h : Ext w w') {g : Nat} {o : Obj} (hg : w.heap[g]? = some o) : w'.heap[g]? = some o := by
  have hlt : g < w.heap.size := by
    rcases Nat.lt_or_ge g w.heap.size with h1 | h1
    · exact h1
    · rw [Array.getElem?_eq_none h1] at hg; cases hg
  rw [h.block g hlt]; exact hg
theorem Ext.pre : Pre Ext := ⟨fun h k => h.trans k, Ext.refl, Ext.drew⟩
/-- from a smaller world on -/
theorem Ext.below {a w w' : World} (h : Ext a w) {B : Nat} (hB : B ≤ a.heap.size) (k : Below B w w') : Below B a w' := (Below.mono h hB).trans k

/-- block g is just the cells cs of element type t -/
def Blk (w : World) (g : Nat) (t : TypeId) (cs : Array Value) : Prop := w.heap[g]? = some (.cells cs t (0, 0))
theorem Blk.lt {w : World} {g : Nat} {t : TypeId} {cs : Array Value} (h : Blk w g t cs) : g < w.heap.size := by
  rcases Nat.lt_or_ge g w.heap.size with hlt | hge
  · exact hlt
  · unfold Blk at h; rw [Array.getElem?_eq_none hge] at h; cases h
theorem Blk.below {w w' : World} {g : Nat} {t : TypeId} {cs : Array Value} (h : Blk w g t cs) {B : Nat} (hb : Below B w w') (hg : g < B) : Blk w' g t cs := (hb.block g hg).trans h
theorem Blk.ext {w w' : World} {g : Nat} {t : TypeId} {cs : Array Value} (h : Blk w g t cs) (hb : Ext w w') : Blk w' g t cs := h.below hb h.lt
theorem Blk.new (w : World) (t : TypeId) (cs : Array Value) : Blk (w.alloc (.cells cs t)) w.heap.size t cs := by
  exact heap_alloc_new w _
theorem Blk.uniq {w : World} {g : Nat} {t t' : TypeId} {cs cs' : Array Value} (h : Blk w g t cs) (h' : Blk w g t' cs') : t = t' ∧ cs = cs' := by
  unfold Blk at h h'; rw [h] at h'; injection h' with h'; injection h' with h1 h2; exact ⟨h2, h1⟩
theorem Blk.ne {w : World} {g g' : Nat} {t t' : TypeId} {cs cs' : Array Value} (h : Blk w g t cs) (h' : Blk w g' t' cs') (hne : t ≠ t') : g ≠ g' := by
  rintro rfl; exact hne (h.uniq h').1

/-- the cells from a on read so -/
def Cells (w : World) (a : Addr) (l : List Value) : Prop := ∀ j v, l[j]? = some v → w.cell? (a.add j) = some v
theorem addr_add (g off j : Nat) : (⟨g, off, none⟩ : Addr).add j = ⟨g, off + j, none⟩ := by unfold Addr.add; split <;> simp_all
theorem Blk.cell {w : World} {g : Nat} {t : TypeId} {cs : Array Value} (h : Blk w g t cs) (i : Nat) : w.cell? ⟨g, i, none⟩ = cs[i]? := by
  unfold Blk at h; simp [World.cell?, h]
theorem Blk.cells {w : World} {g : Nat} {t : TypeId} {cs : Array Value} (h : Blk w g t cs) (off n : Nat) : Cells w ⟨g, off, none⟩ ((cs.toList.drop off).take n) := by
  intro j v hj
  rw [addr_add, h.cell]
  rw [List.getElem?_take] at hj
  split at hj
  · rw [List.getElem?_drop] at hj; simpa using hj
  · cases hj

/-! types of the program, read by the kernel -/
def tyAgg (P : Program) (T n : Nat) : Bool :=
  match P.underlying T, P.info? T with
  | some (.struct _), some i => i.size == n
  | some (.array _ _), some i => i.size == n
  | _, _ => false
def tyOne (P : Program) (T : Nat) : Bool :=
  match P.underlying T, P.info? T with
  | some (.struct _), _ => false
  | some (.array _ _), _ => false
  | some _, some i => i.size == 1
  | _, _ => false
def tySize (P : Program) (T n : Nat) : Bool := ((P.info? T).map (·.size)) == some n
def tySlice (P : Program) (T e : Nat) : Bool := match P.underlying T with | some (.slice x) => x == e | _ => false
def tyArr (P : Program) (T len e : Nat) : Bool := match P.underlying T with | some (.array n x) => n == len && x == e | _ => false
def tyField (P : Program) (T i off n : Nat) : Bool :=
  match P.underlying T with
  | some (.struct fs) => (match fs[i]? with | some f => f.offset == off && (P.info? f.type).map (·.size) == some n | none => false)
  | _ => false
def tyFieldT (P : Program) (T i off ft : Nat) : Bool :=
  match P.underlying T with
  | some (.struct fs) => (match fs[i]? with | some f => f.offset == off && f.type == ft | none => false)
  | _ => false

theorem size_of {P : Program} {T n : Nat} (h : tySize P T n = true) (w : World) : (sizeOf T).run P w = .ok n w := by
  unfold tySize at h
  simp only [beq_iff_eq] at h
  cases hi : P.info? T with
  | none => rw [hi] at h; cases h
  | some i => rw [hi] at h; simp at h; simp [sizeOf, typeInfo, hi, h]

theorem run_load_agg {P : Program} {T : Nat} {l : List Value} {w : World} {a : Addr} (hT : tyAgg P T l.length = true) (hc : Cells w a l) : (loadVar T a).run P w = .ok (.agg l.toArray) w := by
  unfold tyAgg at hT
  have hl := run_loadCells_list (P := P) w a l hc
  cases hu : P.underlying T with
  | none => rw [hu] at hT; cases hT
  | some d =>
    cases hi : P.info? T with
    | none => rw [hu, hi] at hT; cases d <;> cases hT
    | some i =>
      rw [hu, hi] at hT
      cases d <;> first | (cases hT; done) | (simp only [beq_iff_eq] at hT; simp [loadVar, isAgg, underlying, hu, sizeOf, typeInfo, hi, hT, hl])

theorem run_load_one {P : Program} {T : Nat} {v : Value} {w : World} {a : Addr} (hT : tyOne P T = true) (hc : w.cell? a = some v) : (loadVar T a).run P w = .ok v w := by
  unfold tyOne at hT
  cases hu : P.underlying T with
  | none => rw [hu] at hT; cases hT
  | some d =>
    cases hi : P.info? T with
    | none => rw [hu, hi] at hT; cases d <;> cases hT
    | some i =>
      rw [hu, hi] at hT
      cases d <;> first | (cases hT; done) | simp [loadVar, isAgg, underlying, hu, hc]

/-- the function has a body of its own -/
def hasBody (P : Program) (f : FuncId) : Bool := match P.funcs[f]? with | some fn => fn.body.isSome && !(fn.name == "runtime.NumGoroutine") | none => false
theorem run_callFunc {P : Program} {f : FuncId} (h : hasBody P f = true) (args : Array Value) (w : World) : (callFunc f args).run P w = .ok (.enter f args) w := by
  unfold hasBody at h
  cases hf : P.funcs[f]? with
  | none => rw [hf] at h; cases h
  | some fn =>
    rw [hf] at h
    simp only [Bool.and_eq_true, Bool.not_eq_true'] at h
    have h1 : ¬ fn.body = none := by cases hb : fn.body <;> simp [hb] at h ⊢
    have h2 : ¬ fn.name = "runtime.NumGoroutine" := by simpa using h.2
    simp only [callFunc, Sem.run_bind, run_program, Result.andThen_ok, hf]
    simp [h1, h2]

/-! slots -/
theorem eval_tmp {a : Act} {t : Tmp} {v : Value} (h : a.tmps[t]? = some v) : a.eval (.tmp t) = v := by simp [Act.eval, h]

/-- the value of an operand, from what is known -/
def Opd (kn : Kn) (a : Act) (ds ts : List Tmp) (x : Operand) (R : Pd) : Prop := ∀ a' w', Outer a ds a' → kn.holds ts a' w' → R (a'.eval x) w'

theorem lookup_mem {kn : Kn} {t : Tmp} {R : Pd} (h : kn.lookup t = some R) : (t, R) ∈ kn := by
  induction kn with
  | nil => cases h
  | cons p kn ih =>
    obtain ⟨s, S⟩ := p
    rw [List.lookup_cons] at h
    split at h
    · rename_i he
      have := eq_of_beq he
      cases h; subst this; exact List.mem_cons_self
    · exact List.mem_cons_of_mem _ (ih h)

theorem Opd.kn {kn : Kn} {a : Act} {ds ts : List Tmp} {t : Tmp} {R : Pd} (h : kn.lookup t = some R) (ht : ts.contains t = true) : Opd kn a ds ts (.tmp t) R := fun a' w' _ hk => by
  obtain ⟨v, hv, hr⟩ := hk _ (lookup_mem h) (by simpa using ht)
  rw [eval_tmp hv]; exact hr
theorem Opd.out {kn : Kn} {a : Act} {ds ts : List Tmp} {t : Tmp} {v : Value} (ht : ds.contains t = false) (h : a.tmps[t]? = some v) : Opd kn a ds ts (.tmp t) (fun u _ => u = v) := fun a' w' ho _ =>
  eval_tmp ((ho.slot t (by simpa using ht)).trans h)
theorem Opd.const {kn : Kn} {a : Act} {ds ts : List Tmp} {v : Value} : Opd kn a ds ts (.const v) (fun u _ => u = v) := fun _ _ _ _ => rfl
theorem Opd.func {kn : Kn} {a : Act} {ds ts : List Tmp} {f : FuncId} : Opd kn a ds ts (.func f) (fun u _ => u = .func (.func f) #[] #[]) := fun _ _ _ _ => rfl

section
variable {P : Program} {E : World → World → Prop} {ops : Array Oper} {a : Act} {ds : List Tmp} {W : World} {K : Kn → Prop} {kn : Kn} {rest : List Oper}

theorem Stb.exact {v : Value} : Stb E (fun u _ => u = v) := fun _ _ _ _ h => h

theorem Steps.done (h : K kn) : Steps P E ops a ds W K [] kn := h

theorem Steps.op {o : Oper} {d : Tmp} {R : Pd} (hd : o.dst = some d) (hg : o.guard = none) (hst : Stb E R)
    (hrun : ∀ a' w', Outer a ds a' → E W w' → kn.holds (o.looksAt ops) a' w' → Runs P o a'.eval w' (fun v w'' => E w' w'' ∧ R v w''))
    (h : Steps P E ops a ds W K rest (kn ++ [(d, R)])) : Steps P E ops a ds W K (o :: rest) kn :=
  ⟨d, R, hd, hst, fun a' w' h1 h2 h3 => by rw [if_pos (by simp [Region.wanted, hg])]; exact hrun a' w' h1 h2 h3, h⟩

/-- an operation that leaves the world alone and gives a known value -/
theorem Steps.pure (hp : Pre E) {o : Oper} {d : Tmp} (v : Value) (hd : o.dst = some d) (hg : o.guard = none)
    (hrun : ∀ a' w', Outer a ds a' → E W w' → kn.holds (o.looksAt ops) a' w' → (execOp a'.eval o).run P w' = .ok (.value v) w')
    (h : Steps P E ops a ds W K rest (kn ++ [(d, fun u _ => u = v)])) : Steps P E ops a ds W K (o :: rest) kn :=
  Steps.op hd hg Stb.exact (fun a' w' h1 h2 h3 => Runs.of_run (hrun a' w' h1 h2 h3) ⟨hp.refl _, rfl⟩) h

variable {d : Tmp} {ty : TypeId} {pos : String} {after : Array Edge}

theorem Steps.load_agg (hp : Pre E) {T : TypeId} {x : Operand} {ad : Addr} {l : List Value} (hT : tyAgg P T l.length = true)
    (hx : Opd kn a ds (Oper.looksAt ops ⟨some d, .load T x, ty, pos, after, none⟩) x (fun u _ => u = .pointer (some ad)))
    (hc : ∀ w', E W w' → Cells w' ad l)
    (h : Steps P E ops a ds W K rest (kn ++ [(d, fun u _ => u = .agg l.toArray)])) : Steps P E ops a ds W K (⟨some d, .load T x, ty, pos, after, none⟩ :: rest) kn :=
  Steps.pure hp _ rfl rfl (fun a' w' h1 h2 h3 => by simp [execOp, Instr.loadAt, Instr.sureAddr, hx a' w' h1 h3, run_load_agg hT (hc w' h2)]) h

theorem Steps.load_one (hp : Pre E) {T : TypeId} {x : Operand} {ad : Addr} {v : Value} (hT : tyOne P T = true)
    (hx : Opd kn a ds (Oper.looksAt ops ⟨some d, .load T x, ty, pos, after, none⟩) x (fun u _ => u = .pointer (some ad)))
    (hc : ∀ w', E W w' → w'.cell? ad = some v)
    (h : Steps P E ops a ds W K rest (kn ++ [(d, fun u _ => u = v)])) : Steps P E ops a ds W K (⟨some d, .load T x, ty, pos, after, none⟩ :: rest) kn :=
  Steps.pure hp _ rfl rfl (fun a' w' h1 h2 h3 => by simp [execOp, Instr.loadAt, Instr.sureAddr, hx a' w' h1 h3, run_load_one hT (hc w' h2)]) h

/-- the address of an array's element -/
theorem Steps.elem_arr (hp : Pre E) {T : TypeId} {x ix : Operand} {g off : Nat} {len e size i : Nat} (hT : tyArr P T len e = true) (hs : tySize P e size = true) (hi : i < len)
    (hx : Opd kn a ds (Oper.looksAt ops ⟨some d, .indexAddr T x ix, ty, pos, after, none⟩) x (fun u _ => u = .pointer (some ⟨g, off, none⟩)))
    (hix : Opd kn a ds (Oper.looksAt ops ⟨some d, .indexAddr T x ix, ty, pos, after, none⟩) ix (fun u _ => u = .int .i64 (i : Int)))
    (h : Steps P E ops a ds W K rest (kn ++ [(d, fun u _ => u = .pointer (some ⟨g, off + i * size, none⟩))])) : Steps P E ops a ds W K (⟨some d, .indexAddr T x ix, ty, pos, after, none⟩ :: rest) kn :=
  Steps.pure hp _ rfl rfl (fun a' w' h1 h2 h3 => by
    have hu : P.underlying T = some (.array len e) := by
      unfold tyArr at hT
      split at hT
      · rename_i n x hu; simp only [Bool.and_eq_true, beq_iff_eq] at hT; rw [hu, hT.1, hT.2]
      · cases hT
    simp only [execOp, hx a' w' h1 h3, hix a' w' h1 h3]
    simp [Instr.indexAt, asIntOf, underlying, hu, Instr.sureAddr, size_of hs, hi, addr_add]) h

/-- the address of a slice's element -/
theorem Steps.elem_slice (hp : Pre E) {T : TypeId} {x ix : Operand} {g off : Nat} {len cap e size i : Nat} (hT : tySlice P T e = true) (hs : tySize P e size = true) (hi : i < len)
    (hx : Opd kn a ds (Oper.looksAt ops ⟨some d, .indexAddr T x ix, ty, pos, after, none⟩) x (fun u _ => u = .slice (some ⟨g, off, none⟩) len cap))
    (hix : Opd kn a ds (Oper.looksAt ops ⟨some d, .indexAddr T x ix, ty, pos, after, none⟩) ix (fun u _ => u = .int .i64 (i : Int)))
    (h : Steps P E ops a ds W K rest (kn ++ [(d, fun u _ => u = .pointer (some ⟨g, off + i * size, none⟩))])) : Steps P E ops a ds W K (⟨some d, .indexAddr T x ix, ty, pos, after, none⟩ :: rest) kn :=
  Steps.pure hp _ rfl rfl (fun a' w' h1 h2 h3 => by
    have hu : P.underlying T = some (.slice e) := by
      unfold tySlice at hT
      split at hT
      · rename_i x hu; simp only [beq_iff_eq] at hT; rw [hu, hT]
      · cases hT
    simp only [execOp, hx a' w' h1 h3, hix a' w' h1 h3]
    simp [Instr.indexAt, asIntOf, underlying, hu, size_of hs, hi, addr_add]) h

/-- the address of a field -/
theorem Steps.field_addr (hp : Pre E) {T : TypeId} {x : Operand} {g off : Nat} {i fo n : Nat} (hT : tyField P T i fo (n + 1) = true)
    (hx : Opd kn a ds (Oper.looksAt ops ⟨some d, .fieldAddr T x i, ty, pos, after, none⟩) x (fun u _ => u = .pointer (some ⟨g, off, none⟩)))
    (h : Steps P E ops a ds W K rest (kn ++ [(d, fun u _ => u = .pointer (some ⟨g, off + fo, none⟩))])) : Steps P E ops a ds W K (⟨some d, .fieldAddr T x i, ty, pos, after, none⟩ :: rest) kn :=
  Steps.pure hp _ rfl rfl (fun a' w' h1 h2 h3 => by
    unfold tyField at hT
    cases hu : P.underlying T with
    | none => rw [hu] at hT; cases hT
    | some dd =>
      rw [hu] at hT
      cases dd with
      | struct fs =>
        simp only at hT
        cases hf : fs[i]? with
        | none => rw [hf] at hT; cases hT
        | some f =>
          rw [hf] at hT
          simp only [Bool.and_eq_true, beq_iff_eq] at hT
          cases hfi : P.info? f.type with
          | none => rw [hfi] at hT; cases hT.2
          | some fi =>
            rw [hfi] at hT
            have h2 : fi.size = n + 1 := by simpa using hT.2
            simp only [execOp, hx a' w' h1 h3]
            simp [Instr.fieldAt, underlying, hu, hf, Instr.sureAddr, fieldPlace, sizeOf, typeInfo, hfi, h2, addr_add, hT.1]
      | _ => cases hT) h

theorem Steps.move (hp : Pre E) {x : Operand} {v : Value} (hx : Opd kn a ds (Oper.looksAt ops ⟨some d, .move x, ty, pos, after, none⟩) x (fun u _ => u = v))
    (h : Steps P E ops a ds W K rest (kn ++ [(d, fun u _ => u = v)])) : Steps P E ops a ds W K (⟨some d, .move x, ty, pos, after, none⟩ :: rest) kn :=
  Steps.pure hp _ rfl rfl (fun a' w' h1 h2 h3 => by simp [execOp, hx a' w' h1 h3]) h
theorem Steps.assign (hp : Pre E) {x : Operand} {v : Value} (hx : Opd kn a ds (Oper.looksAt ops ⟨some d, .assign x, ty, pos, after, none⟩) x (fun u _ => u = v))
    (h : Steps P E ops a ds W K rest (kn ++ [(d, fun u _ => u = v)])) : Steps P E ops a ds W K (⟨some d, .assign x, ty, pos, after, none⟩ :: rest) kn :=
  Steps.pure hp _ rfl rfl (fun a' w' h1 h2 h3 => by simp [execOp, hx a' w' h1 h3]) h
/-- what is known of a value goes on -/
theorem Steps.moveR (hp : Pre E) {x : Operand} {R : Pd} (hst : Stb E R) (hx : Opd kn a ds (Oper.looksAt ops ⟨some d, .move x, ty, pos, after, none⟩) x R)
    (h : Steps P E ops a ds W K rest (kn ++ [(d, R)])) : Steps P E ops a ds W K (⟨some d, .move x, ty, pos, after, none⟩ :: rest) kn :=
  Steps.op rfl rfl hst (fun a' w' h1 h2 h3 => Runs.of_run (v := a'.eval x) (w' := w') (by simp [execOp]) ⟨hp.refl _, hx a' w' h1 h3⟩) h
theorem Steps.assignR (hp : Pre E) {x : Operand} {R : Pd} (hst : Stb E R) (hx : Opd kn a ds (Oper.looksAt ops ⟨some d, .assign x, ty, pos, after, none⟩) x R)
    (h : Steps P E ops a ds W K rest (kn ++ [(d, R)])) : Steps P E ops a ds W K (⟨some d, .assign x, ty, pos, after, none⟩ :: rest) kn :=
  Steps.op rfl rfl hst (fun a' w' h1 h2 h3 => Runs.of_run (v := a'.eval x) (w' := w') (by simp [execOp]) ⟨hp.refl _, hx a' w' h1 h3⟩) h

/-- one of several results -/
theorem Steps.extract (hp : Pre E) {x : Operand} {i : Nat} {R S : Pd} (hst : Stb E R) (hx : Opd kn a ds (Oper.looksAt ops ⟨some d, .extract x i, ty, pos, after, none⟩) x S)
    (hS : ∀ u w, S u w → ∃ vs v, u = .tuple vs ∧ vs[i]? = some v ∧ R v w)
    (h : Steps P E ops a ds W K rest (kn ++ [(d, R)])) : Steps P E ops a ds W K (⟨some d, .extract x i, ty, pos, after, none⟩ :: rest) kn :=
  Steps.op rfl rfl hst (fun a' w' h1 h2 h3 => by
    obtain ⟨vs, v, hu, hv, hr⟩ := hS _ _ (hx a' w' h1 h3)
    refine Runs.of_run (v := v) (w' := w') ?_ ⟨hp.refl _, hr⟩
    simp [execOp, hu, Instr.extract, hv]) h

/-- a call of a function by its name -/
theorem Steps.call {f : FuncId} {args : Array Operand} {ats : Array TypeId} {R : Pd} (hb : hasBody P f = true) (hst : Stb E R)
    (hc : ∀ a' w', Outer a ds a' → E W w' → kn.holds (Oper.looksAt ops ⟨some d, .call { callee := .value (.func f), args := args, argTypes := ats }, ty, pos, after, none⟩) a' w' →
      Calls P f (args.map a'.eval) w' fun e w'' => ∃ v, e = .returned v ∧ E w' w'' ∧ R v w'')
    (h : Steps P E ops a ds W K rest (kn ++ [(d, R)])) : Steps P E ops a ds W K (⟨some d, .call { callee := .value (.func f), args := args, argTypes := ats }, ty, pos, after, none⟩ :: rest) kn :=
  Steps.op rfl rfl hst (fun a' w' h1 h2 h3 => by
    have := hc a' w' h1 h2 h3
    unfold Runs
    rw [show (execOp a'.eval ⟨some d, .call { callee := .value (.func f), args := args, argTypes := ats }, ty, pos, after, none⟩) = callFunc f (#[] ++ args.map a'.eval ++ #[]) from rfl, run_callFunc hb]
    simpa using this) h
end

/-! the frame: what is known of the slots -/
structure Fr (n : Nat) (env : List (Nat × Value)) (a : Act) : Prop where
  size : a.tmps.size = n
  defers : a.defers = []
  slot : ∀ (t : Nat) (v : Value), env.lookup t = some v → a.tmps[t]? = some v

theorem lookup_filter (ds : List Tmp) (t : Tmp) (v : Value) : ∀ env : List (Nat × Value), (env.filter fun p => !ds.contains p.1).lookup t = some v → t ∉ ds ∧ env.lookup t = some v := by
  intro env
  induction env with
  | nil => intro h; simp at h
  | cons p env ih =>
    obtain ⟨s, u⟩ := p
    intro h
    rw [List.filter_cons] at h
    split at h
    · rename_i hs
      rw [List.lookup_cons] at h ⊢
      split at h
      · rename_i he
        have : t = s := eq_of_beq he
        subst this
        cases h
        exact ⟨by simpa using hs, by rfl⟩
      · exact ih h
    · rename_i hs
      obtain ⟨h1, h2⟩ := ih h
      refine ⟨h1, ?_⟩
      rw [List.lookup_cons]
      split
      · rename_i he
        have : t = s := eq_of_beq he
        subst this
        exact absurd h1 (by simpa using hs)
      · exact h2

theorem Fr.outer {n : Nat} {env : List (Nat × Value)} {a a' : Act} {ds : List Tmp} (h : Fr n env a) (ho : Outer a ds a') : Fr n (env.filter fun p => !ds.contains p.1) a' :=
  ⟨ho.size.trans h.size, ho.defers.trans h.defers, fun t v hv => by
    obtain ⟨h1, h2⟩ := lookup_filter ds t v env hv
    rw [ho.slot t h1]; exact h.slot t v h2⟩
theorem Fr.cons {n : Nat} {env : List (Nat × Value)} {a : Act} {t : Tmp} {v : Value} (h : Fr n env a) (hs : a.tmps[t]? = some v) : Fr n ((t, v) :: env) a :=
  ⟨h.size, h.defers, fun s u hu => by
    rw [List.lookup_cons] at hu
    split at hu
    · rename_i he
      have : s = t := eq_of_beq he
      subst this; cases hu; exact hs
    · exact h.slot s u hu⟩
theorem Fr.put {n : Nat} {env : List (Nat × Value)} {a : Act} {d : Tmp} (h : Fr n env a) (hd : d < n) (v : Value) : Fr n ((d, v) :: env) (a.put (some d) v) := by
  refine ⟨by simp [Act.put, h.size], by simp [Act.put, h.defers], fun s u hu => ?_⟩
  rw [List.lookup_cons] at hu
  simp only [Act.put]
  split at hu
  · rename_i he
    have : s = d := eq_of_beq he
    subst this; cases hu
    simp [h.size, hd]
  · rename_i he
    have : d ≠ s := fun e => by subst e; simp at he
    rw [Array.getElem?_setIfInBounds_ne this]
    exact h.slot s u hu
theorem Fr.mono {n : Nat} {env env' : List (Nat × Value)} {a : Act} (h : Fr n env a) (hs : ∀ t v, env'.lookup t = some v → env.lookup t = some v) : Fr n env' a := ⟨h.size, h.defers, fun t v hv => h.slot t v (hs t v hv)⟩
theorem Fr.eval {n : Nat} {env : List (Nat × Value)} {a : Act} (h : Fr n env a) {t : Tmp} {v : Value} (ht : env.lookup t = some v) : a.eval (.tmp t) = v := eval_tmp (h.slot t v ht)

theorem Kn.all.get {kn : Kn} {a : Act} {w : World} (h : kn.all a w) (i : Nat) {t : Tmp} {R : Pd} (hi : kn[i]? = some (t, R)) : ∃ v, a.tmps[t]? = some v ∧ R v w := h _ (List.mem_of_getElem? hi)

/-- into a function -/
theorem enter {P : Program} {f : FuncId} {fn : Func} {c : Code} {args : Array Value} {w : World} {R : Ending → World → Prop} (n : Nat) (hf : P.funcs[f]? = some fn) (hb : fn.body = some c) (hn : fn.ntmps = n) (hle : args.size ≤ n)
    (h : ∀ a, Fr n ((List.range args.size).zip args.toList) a → c.wp P (bodyPost P fn R) a w) : Calls P f args w R := by
  subst hn
  refine calls_of_wp hf hb (h _ ⟨by simp; omega, rfl, fun t v hv => ?_⟩)
  have key : ∀ (l : List Value) (k : Nat), ((List.range' k l.length).zip l).lookup t = some v → k ≤ t ∧ l[t - k]? = some v := by
    intro l
    induction l with
    | nil => intro k h; simp at h
    | cons x l ih =>
      intro k h
      simp only [List.length_cons, List.range'_succ, List.zip_cons_cons, List.lookup_cons] at h
      split at h
      · rename_i he
        have : t = k := eq_of_beq he
        subst this; cases h; exact ⟨Nat.le_refl _, by simp⟩
      · obtain ⟨h1, h2⟩ := ih (k + 1) h
        refine ⟨by omega, ?_⟩
        rw [show (t : Nat) - k = ((t : Nat) - (k + 1)) + 1 from (by have h3 : k + 1 ≤ (t : Nat) := h1; omega : (t : Nat) - k = ((t : Nat) - (k + 1)) + 1), List.getElem?_cons_succ]; exact h2
  have h0 := key args.toList 0 (by simpa [List.range_eq_range'] using hv)
  have h1 : args[t]? = some v := by simpa using h0.2
  have hlt : t < args.size := (Array.getElem?_eq_some_iff.1 h1).1
  rw [Array.getElem?_append_left hlt]; exact h1

/-- one operation of a region in order -/
theorem list_step {P : Program} {ops : Array Oper} {Q : Exit → Act → World → Prop} {o : Oper} {rest : List Oper} {a : Act} {w : World} {R : Pd} (hg : o.guard = none) (h : Runs P o a.eval w R)
    (hk : ∀ v w', R v w' → wpList P ops Q rest (a.put o.dst v) w') : wpList P ops Q (o :: rest) a w := by
  unfold wpList
  rw [if_pos (by simp [Region.wanted, hg])]
  exact .inl (h.wp hk)

/-- a new variable -/
theorem runs_box {P : Program} {T : Nat} {x : Operand} {d : Option Tmp} {ty : TypeId} {pos : String} {after : Array Edge} {g : Option (Nat × Bool)} {ρ : Operand → Value} {w : World} :
    Runs P ⟨d, .box T x, ty, pos, after, g⟩ ρ w fun v w' => v = .pointer (some ⟨w.heap.size, 0, none⟩) ∧ w' = w.alloc (.cells (ρ x).cells T) :=
  Runs.of_run (v := .pointer (some ⟨w.heap.size, 0, none⟩)) (w' := w.alloc (.cells (ρ x).cells T)) (by simp [execOp, Instr.box, newVar, newRow]) ⟨rfl, rfl⟩
def tyZero (P : Program) (T : Nat) (z : Value) : Prop := (P.info? T).map (·.zero) = some (some z)
theorem runs_alloc {P : Program} {T : Nat} {z : Value} (hz : tyZero P T z) {d : Option Tmp} {ty : TypeId} {pos : String} {after : Array Edge} {g : Option (Nat × Bool)} {ρ : Operand → Value} {w : World} :
    Runs P ⟨d, .alloc T, ty, pos, after, g⟩ ρ w fun v w' => v = .pointer (some ⟨w.heap.size, 0, none⟩) ∧ w' = w.alloc (.cells z.cells T) := by
  unfold tyZero at hz
  cases hi : P.info? T with
  | none => rw [hi] at hz; cases hz
  | some i =>
    rw [hi] at hz
    have hz' : i.zero = some z := by simpa using hz
    exact Runs.of_run (v := .pointer (some ⟨w.heap.size, 0, none⟩)) (w' := w.alloc (.cells z.cells T)) (by simp [execOp, Instr.alloc, zeroValue, typeInfo, hi, hz', newVar, newRow]) ⟨rfl, rfl⟩

/-- a new variable that holds a value, named -/
theorem list_box {P : Program} {ops : Array Oper} {Q : Exit → Act → World → Prop} {rest : List Oper} {a : Act} {w : World} {n : Nat} {env : List (Nat × Value)} {d T : Nat} {x : Operand} {ty : TypeId} {pos : String} {after : Array Edge}
    (hF : Fr n env a) (hd : d < n) {v : Value} (hx : a.eval x = v)
    (hk : ∀ a' w' g, Fr n ((d, .pointer (some ⟨g, 0, none⟩)) :: env) a' → Ext w w' → w.heap.size ≤ g → Blk w' g T v.cells → wpList P ops Q rest a' w') :
    wpList P ops Q (⟨some d, .box T x, ty, pos, after, none⟩ :: rest) a w := by
  subst hx
  have h1 := hk (a.put (some d) (.pointer (some ⟨w.heap.size, 0, none⟩))) (w.alloc (.cells (a.eval x).cells T)) w.heap.size (hF.put hd _) (Ext.alloc _ _) (Nat.le_refl _) (Blk.new _ _ _)
  clear hk
  generalize hr : wpList P ops Q rest = r at h1
  refine list_step rfl runs_box ?_
  intro v w1 hv
  rw [hv.1, hv.2, hr]; exact h1
theorem list_alloc {P : Program} {ops : Array Oper} {Q : Exit → Act → World → Prop} {rest : List Oper} {a : Act} {w : World} {n : Nat} {env : List (Nat × Value)} {d T : Nat} {z : Value} {ty : TypeId} {pos : String} {after : Array Edge}
    (hz : tyZero P T z) (hF : Fr n env a) (hd : d < n)
    (hk : ∀ a' w' g, Fr n ((d, .pointer (some ⟨g, 0, none⟩)) :: env) a' → Ext w w' → w.heap.size ≤ g → Blk w' g T z.cells → wpList P ops Q rest a' w') :
    wpList P ops Q (⟨some d, .alloc T, ty, pos, after, none⟩ :: rest) a w := by
  have h1 := hk (a.put (some d) (.pointer (some ⟨w.heap.size, 0, none⟩))) (w.alloc (.cells z.cells T)) w.heap.size (hF.put hd _) (Ext.alloc _ _) (Nat.le_refl _) (Blk.new _ _ _)
  clear hk
  generalize hr : wpList P ops Q rest = r at h1
  refine list_step rfl (runs_alloc hz) ?_
  intro v w1 hv
  rw [hv.1, hv.2, hr]; exact h1

section
variable {P : Program} {E : World → World → Prop} {ops : Array Oper} {a : Act} {ds : List Tmp} {W : World} {K : Kn → Prop} {kn : Kn} {rest : List Oper}
variable {d : Tmp} {ty : TypeId} {pos : String} {after : Array Edge}
/-- a struct or an array read out of memory, of which R holds -/
theorem Steps.loadR (hp : Pre E) {T : TypeId} {x : Operand} {ad : Addr} {R : Pd} {l : List Value} (hst : Stb E R) (hT : tyAgg P T l.length = true)
    (hx : Opd kn a ds (Oper.looksAt ops ⟨some d, .load T x, ty, pos, after, none⟩) x (fun u _ => u = .pointer (some ad)))
    (hc : ∀ w', E W w' → Cells w' ad l ∧ R (.agg l.toArray) w')
    (h : Steps P E ops a ds W K rest (kn ++ [(d, R)])) : Steps P E ops a ds W K (⟨some d, .load T x, ty, pos, after, none⟩ :: rest) kn :=
  Steps.op rfl rfl hst (fun a' w' h1 h2 h3 => Runs.of_run (v := .agg l.toArray) (w' := w') (by simp [execOp, Instr.loadAt, Instr.sureAddr, hx a' w' h1 h3, run_load_agg hT (hc w' h2).1]) ⟨hp.refl _, (hc w' h2).2⟩) h
theorem Steps.call1 {f : FuncId} {x : Operand} {ats : Array TypeId} {R S : Pd} (hb : hasBody P f = true) (hst : Stb E R)
    (hx : Opd kn a ds (Oper.looksAt ops ⟨some d, .call { callee := .value (.func f), args := #[x], argTypes := ats }, ty, pos, after, none⟩) x S)
    (hc : ∀ w' u, E W w' → S u w' → Calls P f #[u] w' fun e w'' => ∃ v, e = .returned v ∧ E w' w'' ∧ R v w'')
    (h : Steps P E ops a ds W K rest (kn ++ [(d, R)])) : Steps P E ops a ds W K (⟨some d, .call { callee := .value (.func f), args := #[x], argTypes := ats }, ty, pos, after, none⟩ :: rest) kn :=
  Steps.call hb hst (fun a' w' h1 h2 h3 => by rw [show (#[x] : Array Operand).map a'.eval = #[a'.eval x] from by simp]; exact hc w' _ h2 (hx a' w' h1 h3)) h
theorem Steps.call2 {f : FuncId} {x y : Operand} {ats : Array TypeId} {R S S' : Pd} (hb : hasBody P f = true) (hst : Stb E R)
    (hx : Opd kn a ds (Oper.looksAt ops ⟨some d, .call { callee := .value (.func f), args := #[x, y], argTypes := ats }, ty, pos, after, none⟩) x S)
    (hy : Opd kn a ds (Oper.looksAt ops ⟨some d, .call { callee := .value (.func f), args := #[x, y], argTypes := ats }, ty, pos, after, none⟩) y S')
    (hc : ∀ w' u v, E W w' → S u w' → S' v w' → Calls P f #[u, v] w' fun e w'' => ∃ v, e = .returned v ∧ E w' w'' ∧ R v w'')
    (h : Steps P E ops a ds W K rest (kn ++ [(d, R)])) : Steps P E ops a ds W K (⟨some d, .call { callee := .value (.func f), args := #[x, y], argTypes := ats }, ty, pos, after, none⟩ :: rest) kn :=
  Steps.call hb hst (fun a' w' h1 h2 h3 => by rw [show (#[x, y] : Array Operand).map a'.eval = #[a'.eval x, a'.eval y] from by simp]; exact hc w' _ _ h2 (hx a' w' h1 h3) (hy a' w' h1 h3)) h
end

/-- one operation of a region in order, by the laws for regions -/
theorem list_one {P : Program} {ops : Array Oper} {Q : Exit → Act → World → Prop} {o : Oper} {rest : List Oper} {a : Act} {w : World} {d : Tmp} (hd : o.dst = some d) (hg : o.guard = none)
    (h : Steps P Ext ops a [] w (fun kn => ∀ v w', Ext w w' → (∀ p ∈ kn, p.2 v w') → wpList P ops Q rest (a.put (some d) v) w') [o] []) : wpList P ops Q (o :: rest) a w := by
  obtain ⟨d', R, hd', hst, ho, hk⟩ := h
  rw [hd] at hd'
  obtain rfl := Option.some.inj hd'
  have h1 := ho a w ⟨rfl, rfl, fun _ _ => rfl⟩ (Ext.refl w) (fun p hp => by cases hp)
  rw [if_pos (by simp [Region.wanted, hg])] at h1
  refine list_step hg h1 ?_
  intro v w' hv
  rw [hd]
  exact hk v w' hv.1 (fun p hp => by
    simp at hp; subst hp; exact hv.2)

/-- only block g has changed -/
structure Upd (g : Nat) (w w' : World) : Prop where
  os : w'.os = w.os
  tape : w'.tape = w.tape
  output : w'.output = w.output
  size : w'.heap.size = w.heap.size
  block : ∀ k, k ≠ g → w'.heap[k]? = w.heap[k]?
theorem Upd.trans {g : Nat} {a b c : World} (h : Upd g a b) (k : Upd g b c) : Upd g a c :=
  ⟨k.os.trans h.os, k.tape.trans h.tape, k.output.trans h.output, k.size.trans h.size, fun i hi => (k.block i hi).trans (h.block i hi)⟩
theorem Blk.upd {w w' : World} {g g' : Nat} {t : TypeId} {cs : Array Value} (h : Blk w g t cs) (hu : Upd g' w w') (hne : g ≠ g') : Blk w' g t cs := (hu.block g hne).trans h
theorem Upd.below {B g : Nat} {a w w' : World} (h : Below B a w) (hu : Upd g w w') (hB : B ≤ g) : Below B a w' :=
  h.trans ⟨hu.os, hu.tape, hu.output, Nat.le_of_eq hu.size.symm, fun k hk => hu.block k (by omega)⟩

def oneCells (l : List Value) : Bool := l.all fun v => v.oneCell'
/-- the cells of a row with some of them written -/
def putRow (cs : Array Value) (off : Nat) (l : List Value) : Array Value := (cs.toList.take off ++ l ++ cs.toList.drop (off + l.length)).toArray

theorem putRow_full (cs : Array Value) (l : List Value) (h : l.length = cs.size) : putRow cs 0 l = l.toArray := by
  unfold putRow
  rw [List.take_zero, List.nil_append, List.drop_eq_nil_of_le (by simp; omega), List.append_nil]

theorem run_storeVar {P : Program} {w : World} {g off T t : Nat} {cs : Array Value} {v : Value} (hB : Blk w g t cs) (hT : tySize P T v.cells.size = true) (h1 : oneCells v.cells.toList = true) (hfit : off + v.cells.size ≤ cs.size) :
    ∃ w', (storeVar T ⟨g, off, none⟩ v).run P w = .ok () w' ∧ Upd g w w' ∧ Blk w' g t (putRow cs off v.cells.toList) := by
  have hr := run_storeCells_at (P := P) g off t v.cells.toList 0 cs w hB (by simpa using hfit) (fun u hu => by
    unfold oneCells at h1; exact (List.all_eq_true.1 h1) u hu)
  simp only [Nat.add_zero] at hr
  refine ⟨w.setRow g (putRow cs off v.cells.toList), ?_, ⟨rfl, rfl, rfl, ?_, ?_⟩, setRow_heap w g cs _ t (0, 0) hB⟩
  · have e1 : v.cells.toList.length = v.cells.size := by simp
    rw [storeVar]
    simp only [Sem.run_bind, size_of hT, Result.andThen_ok]
    simp only [ne_eq, not_true_eq_false, if_false]
    rw [hr]
    rfl
  · simp [World.setRow]
  · intro k hk
    simp only [World.setRow, Array.getElem?_modify]
    rw [if_neg (by omega)]

/-- a store at the end of a region -/
theorem list_store {P : Program} {ops : Array Oper} {Q : Exit → Act → World → Prop} {rest : List Oper} {a : Act} {w : World} {T : TypeId} {x y : Operand} {ty : TypeId} {pos : String} {after : Array Edge}
    {g off t : Nat} {cs : Array Value} {v : Value} (hx : a.eval x = .pointer (some ⟨g, off, none⟩)) (hy : a.eval y = v) (hB : Blk w g t cs) (hT : tySize P T v.cells.size = true) (h1 : oneCells v.cells.toList = true) (hfit : off + v.cells.size ≤ cs.size)
    (hk : ∀ w', Upd g w w' → Blk w' g t (putRow cs off v.cells.toList) → wpList P ops Q rest a w') : wpList P ops Q (⟨none, .store T x y, ty, pos, after, none⟩ :: rest) a w := by
  obtain ⟨w', hr, hu, hb⟩ := run_storeVar (P := P) (T := T) hB hT h1 hfit
  have h2 := hk w' hu hb
  clear hk
  generalize hrr : wpList P ops Q rest = r at h2
  have hrun : Runs P ⟨none, .store T x y, ty, pos, after, none⟩ a.eval w (fun _ w1 => w1 = w') := by
    unfold Runs
    simp [execOp, hx, hy, Instr.storeAt, Instr.sureAddr, hr]
  refine list_step rfl hrun ?_
  intro u w1 hu1
  rw [hrr, hu1]
  exact h2

theorem results_cell {P : Program} {fn : Func} {t T : Nat} (h : fn.results = #[.cell t T]) {tmps : Array Value} {w : World} {ad : Addr} {v : Value} (ht : tmps[t]? = some (.pointer (some ad))) (hl : (loadVar T ad).run P w = .ok v w) :
    (results fn tmps).run P w = .ok v w := by
  simp [results, h, ht, asAddr, hl]
theorem results_tmp1 {P : Program} {fn : Func} {t : Nat} (h : fn.results = #[.tmp t]) {tmps : Array Value} {w : World} {v : Value} (ht : tmps[t]? = some v) :
    (results fn tmps).run P w = .ok v w := by
  simp [results, h, ht]
theorem results_tmps2 {P : Program} {fn : Func} {t t' : Nat} (h : fn.results = #[.tmp t, .tmp t']) {tmps : Array Value} {w : World} {v v' : Value} (ht : tmps[t]? = some v) (ht' : tmps[t']? = some v') :
    (results fn tmps).run P w = .ok (.tuple #[v, v']) w := by
  simp [results, h, ht, ht']
/-- the end of a function -/
theorem ret_post {P : Program} {fn : Func} {R : Ending → World → Prop} {n : Nat} {env : List (Nat × Value)} {a : Act} {w : World} (hF : Fr n env a) {v : Value} (hr : (results fn a.tmps).run P w = .ok v w) (hR : R (.returned v) w) : bodyPost P fn R .ret a w :=
  ⟨hF.defers, v, hr, hR⟩
end Go.Proofs.YteaggpgdfiodfaaGreatDoor
