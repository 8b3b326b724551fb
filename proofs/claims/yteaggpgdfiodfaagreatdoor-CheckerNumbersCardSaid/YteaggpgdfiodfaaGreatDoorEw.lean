/-
  Slices cut, their lengths, appends, calls over abstract values. Conditions: each lemma's premises. Appends to slices of our own; calls. Conditions: each lemma's premises. The evaluator: one operation. Conditions: none. The evaluator: operations in order. Conditions: none.
-/
import Derived.Test.YteaggpgdfiodfaaGreatDoorEv
import Derived.Lib.AppendZeros
namespace Go.Proofs.YteaggpgdfiodfaaGreatDoor
set_option linter.all false
open Go.RowKit

section
variable [Rho]

section
variable {f : Nat} {N0 : Nat → Prop} {H : AH} {γ : Nat → Option Nat} {w : World} {o : Oper} {ρ : Operand → Value}

/-! cutting -/
def cutAs (l h size : Nat) : SV → Option SV
  | .one (.sl es n) => if l < h then if h ≤ n then (es.drop (l * size)).map fun e => .one (.sl e (h - l)) else none else if l = h then if h ≤ n then some (.one (.sl .nil 0)) else none else none
  | .one (.osl gr b off n) => if l < h then if h ≤ n then some (.one (.osl false b (off + l * size) (h - l))) else none else if l = 0 then if h = 0 then some (.one (.osl gr b off 0)) else none else none
  | .one (.sc (.slice none 0 0)) => if l = 0 then if h = 0 then some (.one (.sc (.slice none 0 0))) else none else none
  | _ => none
def loOf : Option SV → Option Nat
  | none => some 0
  | some s => s.idx
def hiOf (n : Nat) : Option SV → Option Nat
  | none => some n
  | some s => s.idx
/-- bounds that are there or not -/
inductive OptR (γ : Nat → Option Nat) (N : Nat → Prop) (w : World) : Option SV → Option Value → Prop
  | none : OptR γ N w none none
  | some {s v} : VR γ N w s v → OptR γ N w (some s) (some v)
theorem run_bounds {P : Program} {N : Nat → Prop} {isS : Bool} {n cap l h : Nat} {sl sh : Option SV} {vl vh : Option Value} (hl : OptR γ N w sl vl) (hh : OptR γ N w sh vh) (el : loOf sl = some l) (eh : hiOf n sh = some h) (hlh : l ≤ h) (hn : h ≤ n) (hc : n ≤ cap) :
    (Instr.sliceBounds isS n cap vl vh none).run P w = .ok (l, h, cap) w := by
  cases hh with
  | none =>
    cases eh
    cases hl with
    | none => cases el; simp [Instr.sliceBounds]
    | some hv =>
      have e := idx_spec hv el
      subst e
      simp [Instr.sliceBounds, Instr.sliceBound, asIntOf, hlh]
  | some hv' =>
    have e' := idx_spec hv' eh
    subst e'
    have h1 : h ≤ cap := Nat.le_trans hn hc
    cases hl with
    | none => cases el; simp [Instr.sliceBounds, Instr.sliceBound, asIntOf, h1]
    | some hv =>
      have e := idx_spec hv el
      subst e
      simp [Instr.sliceBounds, Instr.sliceBound, asIntOf, hlh, h1]
theorem slice_ok {P : Program} (hS : St γ N0 H w) {T e : TypeId} {i : TypeInfo} {x : Operand} {lo hi : Option Operand} {s r : SV} {sl sh : Option SV} {n l h : Nat} {d : Option Tmp} {ty : TypeId} {pos : String} {after : Array Edge} {g : Option (Nat × Bool)}
    (hx : VR γ (Nn N0 γ) w s (ρ x)) (hl : OptR γ (Nn N0 γ) w sl (lo.map ρ)) (hh : OptR γ (Nn N0 γ) w sh (hi.map ρ)) (hi' : elemInfo P T = some (e, i)) (hn : slLen s = some n) (el : loOf sl = some l) (eh : hiOf n sh = some h) (hr : cutAs l h i.size s = some r) :
    OpOk P f N0 H γ w ⟨d, .slice T x lo hi none, ty, pos, after, g⟩ ρ r H := by
  obtain ⟨hu, hi'⟩ := elemInfo_spec hi'
  have hs : (sizeOf e).run P w = .ok i.size w := by simp [sizeOf, typeInfo, hi']
  have key : ∀ (g0 off cap : Nat), ρ x = .slice (some ⟨g0, off, none⟩) n cap → l < h → h ≤ n → n ≤ cap →
      (execOp ρ ⟨d, .slice T x lo hi none, ty, pos, after, g⟩).run P w = .ok (.value (.slice (some ⟨g0, off + l * i.size, none⟩) (h - l) (cap - l))) w := by
    intro g0 off cap hv h1 h2 h3
    have hb := run_bounds (P := P) (isS := true) (cap := cap) hl hh el eh (Nat.le_of_lt h1) h2 h3
    simp only [execOp, Instr.sliceAt, Sem.run_bind, run_underlying hu, Result.andThen_ok]
    simp only [Instr.slice, Sem.run_bind, run_underlying hu, Result.andThen_ok, hv]
    simp only [Option.map_none, hb, Result.andThen_ok, hs]
    simp [show ¬ cap = l by omega, addr_add]
  have key0 : ∀ (g0 off cap : Nat), ρ x = .slice (some ⟨g0, off, none⟩) n cap → l = h → h ≤ n → n ≤ cap →
      ∃ o', (execOp ρ ⟨d, .slice T x lo hi none, ty, pos, after, g⟩).run P w = .ok (.value (.slice (some ⟨g0, o', none⟩) 0 (cap - l))) w ∧ (l = 0 → o' = off) := by
    intro g0 off cap hv h1 h2 h3
    have hb := run_bounds (P := P) (isS := true) (cap := cap) hl hh el eh (Nat.le_of_eq h1) h2 h3
    refine ⟨if cap = l then off else off + l * i.size, ?_, ?_⟩
    · simp only [execOp, Instr.sliceAt, Sem.run_bind, run_underlying hu, Result.andThen_ok]
      simp only [Instr.slice, Sem.run_bind, run_underlying hu, Result.andThen_ok, hv]
      simp only [Option.map_none, hb, Result.andThen_ok, hs]
      by_cases hc : cap = l
      · subst h1; simp [hc]
      · subst h1; simp [hc, addr_add]
    · intro h0; subst h0; simp
  unfold cutAs at hr
  split at hr
  · rename_i es m
    cases hn
    split at hr
    · rename_i h1
      split at hr
      · rename_i h2
        cases hd : es.drop (l * i.size) with
        | none => rw [hd] at hr; cases hr
        | some e' =>
          rw [hd] at hr; cases hr
          generalize hv : ρ x = v at hx
          cases hx with
          | sl hB hN hdv hp hc =>
            obtain ⟨h4, h5⟩ := hdv.drop hd
            refine OpOk.pure hS (key _ _ _ hv h1 h2 hc) (DV.sl hB hN h4 ?_ (by omega))
            obtain ⟨r, hr⟩ := hp
            rw [← List.drop_drop, ← hr, List.drop_append_of_le_length h5]
            exact List.prefix_append _ _
      · cases hr
    · split at hr
      · rename_i h1
        split at hr
        · rename_i h2
          cases hr
          subst h1
          generalize hv : ρ x = v at hx
          cases hx with
          | sl hB hN hdv hp hc =>
            obtain ⟨o', k1, k2⟩ := key0 _ _ _ hv rfl h2 hc
            exact OpOk.pure hS k1 (DV.sl (xs := []) hB hN .nil (List.nil_prefix) (Nat.zero_le _))
        · cases hr
      · cases hr
  · rename_i gr b off m
    cases hn
    split at hr
    · rename_i h1
      split at hr
      · rename_i h2
        cases hr
        generalize hv : ρ x = v at hx
        cases hx with
        | osl hb hg hc =>
          exact OpOk.pure hS (key _ _ _ hv h1 h2 hc) (DV.osl hb (fun h => by cases h) (by omega))
      · cases hr
    · split at hr
      · rename_i h1
        split at hr
        · rename_i h2
          cases hr
          subst h1 h2
          generalize hv : ρ x = v at hx
          cases hx with
          | osl hb hg hc =>
            obtain ⟨o', k1, k2⟩ := key0 _ _ _ hv rfl (Nat.zero_le _) hc
            refine OpOk.pure hS k1 ?_
            rw [k2 rfl]
            exact DV.osl hb hg (Nat.zero_le _)
        · cases hr
      · cases hr
  · cases hn
    split at hr
    · rename_i h1
      split at hr
      · rename_i h2
        cases hr
        subst h1 h2
        have hv := exact_spec (u := .slice none 0 0) rfl hx
        have hb := run_bounds (P := P) (isS := true) (cap := 0) hl hh el eh (Nat.le_refl _) (Nat.le_refl _) (Nat.le_refl _)
        refine OpOk.pure hS (v := .slice none 0 0) ?_ (DV.sc rfl)
        simp only [execOp, Instr.sliceAt, Sem.run_bind, run_underlying hu, Result.andThen_ok]
        simp only [Instr.slice, Sem.run_bind, run_underlying hu, Result.andThen_ok, hv]
        simp only [Option.map_none, hb, Result.andThen_ok, hs]
        simp
      · cases hr
    · cases hr
  · cases hr

/-- an array cut -/
def cutArr (l h size : Nat) (p : SV) : Option SV :=
  if l < h then match p with
    | .one (.ptr b off) => some (.one (.osl false b (off + l * size) (h - l)))
    | .one (.fp es) => (es.drop (l * size)).map fun e => .one (.sl e (h - l))
    | _ => none
  else none
def arrInfo (P : Program) (T : TypeId) : Option (Nat × TypeId × TypeInfo) := match P.underlying T with
  | some (.array n e) => match P.info? e with
    | some i => some (n, e, i)
    | none => none
  | _ => none
theorem arrInfo_spec {P : Program} {T e : TypeId} {n : Nat} {i : TypeInfo} (h : arrInfo P T = some (n, e, i)) : P.underlying T = some (.array n e) ∧ P.info? e = some i := by
  unfold arrInfo at h
  cases hu : P.underlying T with
  | none => rw [hu] at h; cases h
  | some dsc =>
    rw [hu] at h
    cases dsc with
    | array n' e' =>
      simp only at h
      cases hi : P.info? e' with
      | none => rw [hi] at h; cases h
      | some i' => rw [hi] at h; cases h; exact ⟨rfl, hi⟩
    | _ => cases h
theorem cutArr_spec {N : Nat → Prop} {l h size : Nat} {p r : SV} {v : Value} (hv : VR γ N w p v) (hr : cutArr l h size p = some r) :
    l < h ∧ ∃ g off, v = .pointer (some ⟨g, off, none⟩) ∧ ∀ cap, h ≤ cap → VR γ N w r (.slice (some ⟨g, off + l * size, none⟩) (h - l) (cap - l)) := by
  unfold cutArr at hr
  split at hr
  · rename_i h1
    refine ⟨h1, ?_⟩
    split at hr
    · cases hr
      cases hv with
      | ptr hb => exact ⟨_, _, rfl, fun cap hc => DV.osl hb (fun h => by cases h) (by omega)⟩
    · rename_i es
      cases hd : es.drop (l * size) with
      | none => rw [hd] at hr; cases hr
      | some e' =>
        rw [hd] at hr; cases hr
        cases hv with
        | fp hB hN hdv hp =>
          obtain ⟨h4, h5⟩ := hdv.drop hd
          refine ⟨_, _, rfl, fun cap hc => DV.sl hB hN h4 ?_ (by omega)⟩
          obtain ⟨r, hr⟩ := hp
          rw [← List.drop_drop, ← hr, List.drop_append_of_le_length h5]
          exact List.prefix_append _ _
    · cases hr
  · cases hr
theorem sliceArr_ok {P : Program} (hS : St γ N0 H w) {T e : TypeId} {i : TypeInfo} {x : Operand} {lo hi : Option Operand} {s r : SV} {sl sh : Option SV} {n l h : Nat} {d : Option Tmp} {ty : TypeId} {pos : String} {after : Array Edge} {g : Option (Nat × Bool)}
    (hx : VR γ (Nn N0 γ) w s (ρ x)) (hl : OptR γ (Nn N0 γ) w sl (lo.map ρ)) (hh : OptR γ (Nn N0 γ) w sh (hi.map ρ)) (hi' : arrInfo P T = some (n, e, i)) (el : loOf sl = some l) (eh : hiOf n sh = some h) (hn : h ≤ n) (hr : cutArr l h i.size s = some r) :
    OpOk P f N0 H γ w ⟨d, .slice T x lo hi none, ty, pos, after, g⟩ ρ r H := by
  obtain ⟨hu, hi'⟩ := arrInfo_spec hi'
  have hs : (sizeOf e).run P w = .ok i.size w := by simp [sizeOf, typeInfo, hi']
  obtain ⟨h1, g0, off, hv, h2⟩ := cutArr_spec hx hr
  have hb := run_bounds (P := P) (isS := false) (cap := n) hl hh el eh (Nat.le_of_lt h1) hn (Nat.le_refl _)
  refine OpOk.pure hS ?_ (h2 n hn)
  simp only [execOp, Instr.sliceAt, Sem.run_bind, run_underlying hu, Result.andThen_ok, hv, Instr.sureAddr, Sem.run_pure]
  simp only [Option.map_none, hb, Result.andThen_ok, hs]
  simp [show ¬ n = l by omega, addr_add]

/-- a slice seen as an array -/
def toArr (n : Nat) : SV → Option SV
  | .one (.sl es m) => if n ≤ m then some (.one (.fp es)) else none
  | .one (.osl _ b off m) => if n ≤ m then some (.one (.ptr b off)) else none
  | _ => none
theorem toArr_ok {P : Program} (hS : St γ N0 H w) {T e : TypeId} {i : TypeInfo} {x : Operand} {s r : SV} {n : Nat} {d : Option Tmp} {ty : TypeId} {pos : String} {after : Array Edge} {g : Option (Nat × Bool)}
    (hx : VR γ (Nn N0 γ) w s (ρ x)) (hi : arrInfo P T = some (n, e, i)) (hr : toArr n s = some r) : OpOk P f N0 H γ w ⟨d, .sliceToArrayPointer T x, ty, pos, after, g⟩ ρ r H := by
  obtain ⟨hu, _⟩ := arrInfo_spec hi
  have key : ∀ (A : Option Addr) (m cap : Nat), ρ x = .slice A m cap → n ≤ m → (execOp ρ ⟨d, .sliceToArrayPointer T x, ty, pos, after, g⟩).run P w = .ok (.value (.pointer A)) w := by
    intro A m cap hv hn
    simp only [execOp, Instr.arrayAt, Sem.run_bind, run_underlying hu, Result.andThen_ok, hv]
    simp [Nat.not_lt.2 hn]
  unfold toArr at hr
  split at hr
  · split at hr
    · rename_i hn
      cases hr
      generalize hv : ρ x = v at hx
      cases hx with
      | sl hB hN hd hp hc => exact OpOk.pure hS (key _ _ _ hv hn) (DV.fp hB hN hd hp)
    · cases hr
  · split at hr
    · rename_i hn
      cases hr
      generalize hv : ρ x = v at hx
      cases hx with
      | osl hb _ _ => exact OpOk.pure hS (key _ _ _ hv hn) (DV.ptr hb)
    · cases hr
  · cases hr

/-! lengths -/
theorem len_ok {P : Program} (hS : St γ N0 H w) {t e : TypeId} {x : Operand} {s : SV} {n : Nat} {d : Option Tmp} {ty : TypeId} {pos : String} {after : Array Edge} {g : Option (Nat × Bool)}
    (hx : VR γ (Nn N0 γ) w s (ρ x)) (hu : P.underlying t = some (.slice e)) (hn : slLen s = some n) : OpOk P f N0 H γ w ⟨d, .call { callee := .builtin .len, args := #[x], argTypes := #[t] }, ty, pos, after, g⟩ ρ (.one (.sc (.int .i64 n))) H := by
  obtain ⟨A, cap, hv, _⟩ := slLen_spec hx hn
  refine OpOk.pure hS (v := .int .i64 n) ?_ (DV.sc rfl)
  simp [execOp, resolve, invoke, builtin, Builtin.len_, run_underlying hu, hv, goInt]
theorem lenStr_ok {P : Program} (hS : St γ N0 H w) {t : TypeId} {x : Operand} {s : SV} {b : ByteArray} {d : Option Tmp} {ty : TypeId} {pos : String} {after : Array Edge} {g : Option (Nat × Bool)}
    (hx : VR γ (Nn N0 γ) w s (ρ x)) (hu : P.underlying t = some .string) (hn : s.exact = some (.string b)) : OpOk P f N0 H γ w ⟨d, .call { callee := .builtin .len, args := #[x], argTypes := #[t] }, ty, pos, after, g⟩ ρ (.one (.sc (.int .i64 b.size))) H := by
  have hv := exact_spec hn hx
  refine OpOk.pure hS (v := .int .i64 b.size) ?_ (DV.sc rfl)
  simp [execOp, resolve, invoke, builtin, Builtin.len_, run_underlying hu, hv, goInt]

/-! appends -/
/-- the cells of the elements of a slice -/
def slCells (H : AH) (size : Nat) : SV → Option AV
  | .one (.sl es n) => es.take (n * size)
  | .one (.osl _ b off n) => match H.get b with
    | some (_, cs) => match cs.drop off with
      | some e => e.take (n * size)
      | none => none
    | none => none
  | _ => none
theorem slCells_spec (hS : St γ N0 H w) {size n : Nat} {s : SV} {v : Value} {c : AV} (hv : VR γ (Nn N0 γ) w s v) (hn : slLen s = some n) (h : slCells H size s = some c) :
    ∃ ad cap l, v = .slice (some ad) n cap ∧ DV γ (Nn N0 γ) w c l ∧ l.length = n * size ∧ Cells w ad l := by
  unfold slCells at h
  split at h
  · rename_i es m
    cases hn
    cases hv with
    | sl hB hN hd hp hc =>
      obtain ⟨h1, h2⟩ := hd.take h
      refine ⟨_, _, _, rfl, h1, by rw [List.length_take]; omega, ?_⟩
      intro j u hj
      refine cells_prefix hB hp j u ?_
      rw [List.getElem?_take] at hj
      split at hj
      · exact hj
      · cases hj
  · rename_i gr b off m
    cases hn
    split at h
    · rename_i t cs hg
      split at h
      · rename_i e he
        cases hv with
        | osl hb hroom hc =>
          rename_i g0 cap
          obtain ⟨l, ex, hB, hd⟩ := hS.live b g0 t cs hb hg
          obtain ⟨h1, h2⟩ := hd.drop he
          obtain ⟨h3, h4⟩ := h1.take h
          refine ⟨_, _, _, rfl, h3, by rw [List.length_take]; omega, ?_⟩
          intro j u hj
          refine cells_prefix (l := l.drop off) hB ?_ j u ?_
          · simp only []
            rw [List.drop_append_of_le_length h2]
            exact List.prefix_append _ _
          · rw [List.getElem?_take] at hj
            split at hj
            · exact hj
            · cases hj
      · cases h
    · cases h
  · cases h

theorem run_append_op {P : Program} {t ty : TypeId} {x y : Operand} {d : Option Tmp} {pos : String} {after : Array Edge} {g : Option (Nat × Bool)} {v : Value} {w' : World}
    (h : (Builtin.append_ #[t, t] ty #[ρ x, ρ y]).run P w = .ok v w') : (execOp ρ ⟨d, .call { callee := .builtin .append, args := #[x, y], argTypes := #[t, t] }, ty, pos, after, g⟩).run P w = .ok (.value v) w' := by
  simp [execOp, resolve, invoke, builtin, h]

theorem Ext.drewAlloc (w : World) (o : Obj) : Ext w (w.drew.alloc o) := (Ext.drew w).trans (Ext.alloc _ _)

/-- append to nothing -/
theorem append_nil_ok (hS : St γ N0 H w) {t e : TypeId} {i : TypeInfo} {z : Value} {x y : Operand} {s r : SV} {n : Nat} {c : AV} {d : Option Tmp} {ty : TypeId} {pos : String} {after : Array Edge} {g : Option (Nat × Bool)}
    (hf : f ≤ H.n) (hx : VR γ (Nn N0 γ) w s (ρ x)) (hy : VR γ (Nn N0 γ) w r (ρ y)) (hs : s.exact = some (.slice none 0 0)) (hi : elemInfo Tryz.prog t = some (e, i)) (hz : i.zero = some z) (hzs : z.cells.size = i.size) (hn : slLen r = some n) (h0 : 0 < n) (hn6 : n ≤ 65536) (hb6 : i.bytes ≤ 65536) (he : e ≠ 231) (hc : slCells H i.size r = some c) :
    OpOk Tryz.prog f N0 H γ w ⟨d, .call { callee := .builtin .append, args := #[x, y], argTypes := #[t, t] }, ty, pos, after, g⟩ ρ (.one (.osl true H.n 0 n)) (H.push (e, c)) := by
  have ex := exact_spec hs hx
  obtain ⟨hu, hi⟩ := elemInfo_spec hi
  obtain ⟨ad, cap, l, ey, hd, hl, hcs⟩ := slCells_spec hS hy hn hc
  have hm0 : n * i.bytes ≤ 281474976710656 := Nat.le_trans (Nat.mul_le_mul hn6 hb6) (by decide)
  have hr := run_append_nil (P := Tryz.prog) w t ty e i z hu hi hz ad n cap l hl hcs h0 (by omega) hm0
  have hrun := run_append_op (ρ := ρ) (x := x) (y := y) (d := d) (pos := pos) (after := after) (g := g) (by rw [ex, ey]; exact hr)
  have hge := grownCap_ge w n 0 e
  have hB : Blk (w.drew.alloc (.cells (l.toArray ++ Builtin.zeroCells z.cells (grownCap w n 0 e - n)) e)) w.heap.size e (l ++ (Builtin.zeroCells z.cells (grownCap w n 0 e - n)).toList).toArray := by
    have := Blk.new w.drew e (l.toArray ++ Builtin.zeroCells z.cells (grownCap w n 0 e - n))
    have e1 : (l ++ (Builtin.zeroCells z.cells (grownCap w n 0 e - n)).toList).toArray = l.toArray ++ Builtin.zeroCells z.cells (grownCap w n 0 e - n) := by
      apply Array.ext'; simp
    rw [e1]; exact this
  obtain ⟨h4, h5⟩ := hS.new (Ext.drewAlloc w _) (Nat.le_refl _) hB he hd
  refine Runs.of_run hrun ⟨_, h4, h5.mono hf, DV.osl (g := w.heap.size) (by simp [extG]) (fun _ => ⟨rfl, e, i.size, tySize_of hi rfl, _, hB, ?_⟩) hge⟩
  simp only [List.size_toArray, List.length_append, hl, Builtin.zeroCells]
  simp [hzs]
  rw [← Nat.add_mul]
  exact Nat.le_of_eq (by rw [show n + (grownCap w n 0 e - n) = grownCap w n 0 e by omega])
/-- append of n zeros to nothing -/
theorem run_append_op2 {P : Program} {t t' ty : TypeId} {x y : Operand} {d : Option Tmp} {pos : String} {after : Array Edge} {g : Option (Nat × Bool)} {v : Value} {w' : World}
    (h : (Builtin.append_ #[t, t'] ty #[ρ x, ρ y]).run P w = .ok v w') : (execOp ρ ⟨d, .call { callee := .builtin .append, args := #[x, y], argTypes := #[t, t'] }, ty, pos, after, g⟩).run P w = .ok (.value v) w' := by
  simp [execOp, resolve, invoke, builtin, h]
theorem append_zeros_ok (hS : St γ N0 H w) {t t' e : TypeId} {i : TypeInfo} {z : Value} {kn : IntKind} {x y : Operand} {s r : SV} {n : Nat} {d : Option Tmp} {ty : TypeId} {pos : String} {after : Array Edge} {g : Option (Nat × Bool)}
    (hf : f ≤ H.n) (hx : VR γ (Nn N0 γ) w s (ρ x)) (hy : VR γ (Nn N0 γ) w r (ρ y)) (hs : s.exact = some (.slice none 0 0)) (hi : elemInfo Tryz.prog t = some (e, i)) (ht' : Tryz.prog.underlying t' = some (.int kn)) (hz : i.zero = some z) (hzs : z.cells.size = i.size) (hpos : 0 < i.size) (hn : r.idx = some n) (h0 : 0 < n) (hn6 : n ≤ 65536) (hb6 : i.bytes ≤ 65536) (he : e ≠ 231) (ho : oneCells (zrep z.cells.toList (n * i.size)) = true) :
    OpOk Tryz.prog f N0 H γ w ⟨d, .call { callee := .builtin .append, args := #[x, y], argTypes := #[t, t'] }, ty, pos, after, g⟩ ρ (.one (.osl true H.n 0 n)) (H.push (e, .ofVals (zrep z.cells.toList (n * i.size)))) := by
  have ex := exact_spec hs hx
  have ey := idx_spec hy hn
  obtain ⟨hu, hi⟩ := elemInfo_spec hi
  have hm0 : n * i.bytes ≤ 281474976710656 := Nat.le_trans (Nat.mul_le_mul hn6 hb6) (by decide)
  have hr := Lib.run_append_nil_zeros (P := Tryz.prog) w t t' ty e i z .i64 kn hu ht' hi hz n h0 hpos (by omega) hm0
  have hrun := run_append_op2 (ρ := ρ) (x := x) (y := y) (d := d) (pos := pos) (after := after) (g := g) (by rw [ex, ey]; exact hr)
  have hge := grownCap_ge w n 0 e
  have hzc : Builtin.zeroCells z.cells n = (zrep z.cells.toList (n * i.size)).toArray := by
    unfold zrep Builtin.zeroCells
    rw [Array.length_toList, hzs]
    apply Array.ext'
    simp
  have hlen : (zrep z.cells.toList (n * i.size)).length = n * i.size := by unfold zrep; simp
  rw [hzc] at hrun
  have hB : Blk (w.drew.alloc (.cells ((zrep z.cells.toList (n * i.size)).toArray ++ Builtin.zeroCells z.cells (grownCap w n 0 e - n)) e)) w.heap.size e (zrep z.cells.toList (n * i.size) ++ (Builtin.zeroCells z.cells (grownCap w n 0 e - n)).toList).toArray := by
    have := Blk.new w.drew e ((zrep z.cells.toList (n * i.size)).toArray ++ Builtin.zeroCells z.cells (grownCap w n 0 e - n))
    have e1 : (zrep z.cells.toList (n * i.size) ++ (Builtin.zeroCells z.cells (grownCap w n 0 e - n)).toList).toArray = (zrep z.cells.toList (n * i.size)).toArray ++ Builtin.zeroCells z.cells (grownCap w n 0 e - n) := by
      apply Array.ext'; simp
    rw [e1]; exact this
  obtain ⟨h4, h5⟩ := hS.new (Ext.drewAlloc w _) (Nat.le_refl _) hB he (DV.ofVals ho)
  refine Runs.of_run hrun ⟨_, h4, h5.mono hf, DV.osl (g := w.heap.size) (by simp [extG]) (fun _ => ⟨rfl, e, i.size, tySize_of hi rfl, _, hB, ?_⟩) hge⟩
  simp only [List.size_toArray, List.length_append, hlen, Builtin.zeroCells]
  simp [hzs]
  rw [← Nat.add_mul]
  exact Nat.le_of_eq (by rw [show n + (grownCap w n 0 e - n) = grownCap w n 0 e by omega])
end
end

section
variable [Rho]

theorem Upd.setRow (w : World) (g : Nat) (cs : Array Value) : Upd g w (w.setRow g cs) := by
  refine ⟨rfl, rfl, rfl, by simp [World.setRow], fun k hk => ?_⟩
  simp only [World.setRow, Array.getElem?_modify]
  rw [if_neg (by omega)]

section
variable {f : Nat} {N0 : Nat → Prop} {H : AH} {γ : Nat → Option Nat} {w : World} {o : Oper} {ρ : Operand → Value}

theorem St.retire (h : St γ N0 H w) {b : Nat} {x : TypeId × AV} (hg : H.get b = some x) (hf : f ≤ b) : St γ N0 (H.set b none) w ∧ Step f H γ w (H.set b none) γ w := by
  have hst : Step f H γ w (H.set b none) γ w :=
    ⟨Nat.le_refl _, fun _ _ => rfl, fun b' g' hb' hg' => absurd (h.lt b' g' hg') (by omega), fun b' hb' => H.get_set_ne _ (by omega), .of_ext (Ext.refl w)⟩
  have hget : ∀ k, (H.set b none).get k ≠ none → (H.set b none).get k = H.get k := fun k hk => by
    by_cases e : k = b
    · subst e; rw [AH.get_set_eq _ _ hg] at hk; exact absurd rfl hk
    · exact H.get_set_ne _ e
  refine ⟨⟨h.lt0, h.lt, h.ty, fun b' g t cs hb hk => ?_, fun b1 b2 g h1 h2 h3 h4 => ?_⟩, hst⟩
  · rw [hget b' (by rw [hk]; simp)] at hk
    exact h.live b' g t cs hb hk
  · exact h.inj b1 b2 g h1 h2 (by rw [← hget b1 h3]; exact h3) (by rw [← hget b2 h4]; exact h4)

theorem St.forget (h : St γ N0 H w) {b : Nat} {t : TypeId} {c c' : AV} {k : Nat} (hg : H.get b = some (t, c)) (hc : c.take k = some c') (hf : f ≤ b) : St γ N0 (H.set b (some (t, c'))) w ∧ Step f H γ w (H.set b (some (t, c'))) γ w := by
  have hst : Step f H γ w (H.set b (some (t, c'))) γ w :=
    ⟨Nat.le_refl _, fun _ _ => rfl, fun b' g' hb' hg' => absurd (h.lt b' g' hg') (by omega), fun b' hb' => H.get_set_ne _ (by omega), .of_ext (Ext.refl w)⟩
  refine ⟨⟨h.lt0, h.lt, h.ty, fun b' g t' cs hb hk => ?_, fun b1 b2 g h1 h2 h3 h4 => ?_⟩, hst⟩
  · by_cases e : b' = b
    · subst e
      rw [AH.get_set_eq _ _ hg] at hk
      cases hk
      obtain ⟨l, ex, h1, h2⟩ := h.live b' g t c hb hg
      refine ⟨l.take k, l.drop k ++ ex, ?_, (h2.take hc).1⟩
      rw [← List.append_assoc, List.take_append_drop]; exact h1
    · rw [H.get_set_ne _ e] at hk
      exact h.live b' g t' cs hb hk
  · refine h.inj b1 b2 g h1 h2 ?_ ?_
    · by_cases e : b1 = b
      · subst e; rw [hg]; simp
      · rw [H.get_set_ne _ e] at h3; exact h3
    · by_cases e : b2 = b
      · subst e; rw [hg]; simp
      · rw [H.get_set_ne _ e] at h4; exact h4
theorem append_own_ok (hS : St γ N0 H w) {t e : TypeId} {i : TypeInfo} {z : Value} {x y : Operand} {r : SV} {b m n : Nat} {c cs : AV} {d : Option Tmp} {ty : TypeId} {pos : String} {after : Array Edge} {g : Option (Nat × Bool)}
    (hx : VR γ (Nn N0 γ) w (.one (.osl true b 0 m)) (ρ x)) (hy : VR γ (Nn N0 γ) w r (ρ y)) (hi : elemInfo Tryz.prog t = some (e, i)) (hz : i.zero = some z) (hzs : z.cells.size = i.size) (hn : slLen r = some n) (h0 : 0 < n) (hn6 : m + n ≤ 65536) (hb6 : i.bytes ≤ 65536) (he : e ≠ 231)
    (hg : H.get b = some (e, cs)) (hw : cs.width = m * i.size) (hfb : f ≤ b) (hc : slCells H i.size r = some c) :
    OpOk Tryz.prog f N0 H γ w ⟨d, .call { callee := .builtin .append, args := #[x, y], argTypes := #[t, t] }, ty, pos, after, g⟩ ρ (.one (.osl true H.n 0 (m + n))) ((H.set b none).push (e, cs.app c)) := by
  obtain ⟨hu, hi⟩ := elemInfo_spec hi
  obtain ⟨ad, cap, l, ey, hd, hl, hcs⟩ := slCells_spec hS hy hn hc
  generalize hv : ρ x = v at hx
  cases hx with
  | osl hb hroom hcap =>
    rename_i g0 cap0
    obtain ⟨_, t', size', ht', cur, hB0, hfit⟩ := hroom rfl
    obtain ⟨ol, ex, hB, hdo⟩ := hS.live b g0 e cs hb hg
    obtain ⟨rfl, rfl⟩ := hB0.uniq hB
    have hsz : size' = i.size := by
      unfold tySize at ht'
      rw [hi] at ht'
      have h9 : i.size = size' := by simpa using ht'
      exact h9.symm
    subst hsz
    have hlo : ol.length = m * i.size := hdo.length.trans hw
    have hlen : (ol ++ l).length = (m + n) * i.size := by rw [List.length_append, hlo, hl, Nat.add_mul]
    by_cases hr : m + n ≤ cap0
    · have hge : (m + n) * i.size ≤ (ol ++ ex).toArray.size := Nat.le_trans (Nat.mul_le_mul_right _ hr) hfit
      have hfit2 : m * i.size + l.length ≤ (ol ++ ex).toArray.size := by rw [hl, ← Nat.add_mul]; exact hge
      have hrun0 := run_append_room (P := Tryz.prog) w t ty t' i hu hi g0 m cap0 (ol ++ ex).toArray hB0 ad n cap l hl hcs (fun u hu => by have h1 := hd.one; unfold oneCells at h1; exact List.all_eq_true.1 h1 u hu) hr hfit2
      have hrun := run_append_op (ρ := ρ) (x := x) (y := y) (d := d) (pos := pos) (after := after) (g := g) (by rw [hv, ey]; exact hrun0)
      have hcells : ((ol ++ ex).toArray.toList.take (m * i.size) ++ l ++ (ol ++ ex).toArray.toList.drop (m * i.size + l.length)) = (ol ++ l) ++ ex.drop l.length := by
        simp only []
        rw [List.take_append_of_le_length (by omega), List.take_of_length_le (by omega), List.drop_append, List.drop_eq_nil_of_le (by omega), List.nil_append]
        rw [show m * i.size + l.length - ol.length = l.length by omega]
      rw [hcells] at hrun
      have hB' : Blk (w.setRow g0 ((ol ++ l) ++ ex.drop l.length).toArray) g0 t' ((ol ++ l) ++ ex.drop l.length).toArray := setRow_heap w g0 _ _ t' (0, 0) hB
      have hexl : l.length ≤ ex.length := by
        simp at hfit2; omega
      obtain ⟨h4, h5⟩ := hS.grow (f := f) (ol := ol ++ ex) (l := ol ++ l) (ex := ex.drop l.length) hb hg hfb hB (Upd.setRow w g0 _) hB' (by simp; omega) (hdo.app hd)
      refine Runs.of_run hrun ⟨_, h4, h5, DV.osl (g := g0) (by simp [extG]) (fun _ => ⟨rfl, t', i.size, ht', _, hB', ?_⟩) hr⟩
      have e1 : (ol ++ l ++ ex.drop l.length).toArray.size = (ol ++ ex).toArray.size := by simp; omega
      rw [e1]; exact hfit
    · have hm0 : (m + n) * i.bytes ≤ 140737488355328 := Nat.le_trans (Nat.mul_le_mul hn6 hb6) (by decide)
      have holds : ∀ j u, ol[j]? = some u → w.cell? ((⟨g0, 0, none⟩ : Addr).add j) = some u := cells_prefix (off := 0) hB (by simp)
      have hrun0 := run_append_grow (P := Tryz.prog) w t ty t' i z hu hi hz ⟨g0, 0, none⟩ m cap0 ol hlo holds ad n cap l hl hcs (by omega) (by omega) (growslice_fits (by omega) hm0)
      have hrun := run_append_op (ρ := ρ) (x := x) (y := y) (d := d) (pos := pos) (after := after) (g := g) (by rw [hv, ey]; exact hrun0)
      have hge := grownCap_ge w (m + n) cap0 t'
      generalize grownCap w (m + n) cap0 t' = G at hge hrun
      have hB2 : Blk (w.drew.alloc (.cells (ol.toArray ++ l.toArray ++ Builtin.zeroCells z.cells (G - (m + n))) t')) w.heap.size t' ((ol ++ l) ++ (Builtin.zeroCells z.cells (G - (m + n))).toList).toArray := by
        have := Blk.new w.drew t' (ol.toArray ++ l.toArray ++ Builtin.zeroCells z.cells (G - (m + n)))
        have e1 : ((ol ++ l) ++ (Builtin.zeroCells z.cells (G - (m + n))).toList).toArray = ol.toArray ++ l.toArray ++ Builtin.zeroCells z.cells (G - (m + n)) := by
          apply Array.ext'; simp
        rw [e1]; exact this
      obtain ⟨h1, h2⟩ := hS.retire (f := f) hg hfb
      obtain ⟨h4, h5⟩ := h1.new (Ext.drewAlloc w _) (Nat.le_refl _) hB2 he (hdo.app hd)
      have hbn : b < H.n := hS.lt b g0 hb
      refine Runs.of_run hrun ⟨_, h4, h2.trans hS.lt (h5.mono (by show f ≤ H.n; omega)), DV.osl (g := w.heap.size) (by simp [extG, AH.set]) (fun _ => ⟨rfl, t', i.size, ht', _, hB2, ?_⟩) hge⟩
      have e1 : ((ol ++ l) ++ (Builtin.zeroCells z.cells (G - (m + n))).toList).toArray.size = (m + n) * i.size + (G - (m + n)) * i.size := by
        rw [List.size_toArray, List.length_append, hlen]; simp [Builtin.zeroCells, hzs]
      rw [e1, ← Nat.add_mul]
      exact Nat.le_of_eq (by rw [show m + n + (G - (m + n)) = G by omega])

/-! parts of values -/
theorem part_spec {P : Program} {N : Nat → Prop} {T : TypeId} {es : AV} {s : SV} {l : List Value} {off : Nat} (h : loadAs P T es = some s) (hd : DV γ N w es (l.drop off)) :
    ∃ v, (part T l.toArray off).run P w = .ok v w ∧ VR γ N w s v := by
  have hagg : ∀ i, P.info? T = some i → (isAgg T).run P w = .ok true w → (es.take i.size).map SV.agg = some s → ∃ v, (part T l.toArray off).run P w = .ok v w ∧ VR γ N w s v := fun i hi hT h => by
    cases ht : es.take i.size with
    | none => rw [ht] at h; cases h
    | some e =>
      rw [ht] at h; cases h
      obtain ⟨h1, h2⟩ := hd.take ht
      have hs : (sizeOf T).run P w = .ok i.size w := by simp [sizeOf, typeInfo, hi]
      refine ⟨.agg (l.toArray.extract off (off + i.size)), ?_, (l.drop off).take i.size, ?_, h1⟩
      · unfold part
        simp only [Sem.run_bind, hT, Result.andThen_ok, if_true, hs]
        rfl
      · congr 1
        apply Array.ext'
        simp [List.drop_take]
  unfold loadAs at h
  split at h
  · rename_i fs i hu hi
    exact hagg i hi (by simp [isAgg, underlying, hu]) h
  · rename_i e n i hu hi
    exact hagg i hi (by simp [isAgg, underlying, hu]) h
  · rename_i dsc i hns hna hu hi
    split at h
    · rename_i a r
      split at h
      · rename_i hw
        split at h
        · cases h
          obtain ⟨xs, ys, he, h1, h2, h3⟩ := hd.cons_inv
          rw [hw] at h3
          obtain ⟨x, rfl⟩ := List.length_eq_one_iff.1 h3
          have hg : l[off]? = some x := by
            have := congrArg (fun l => l[0]?) he
            simpa using this
          have hf : (isAgg T).run P w = .ok false w := by
            cases dsc <;> first | (simp [isAgg, underlying, hu]; done) | skip
            · exact absurd rfl (hna _ _)
            · exact absurd rfl (hns _)
          refine ⟨x, ?_, h1⟩
          unfold part
          simp only [Sem.run_bind, hf, Result.andThen_ok]
          simp [hg]
        · cases h
      · cases h
    · cases h
  · cases h
theorem index_ok {P : Program} (hS : St γ N0 H w) {T e : TypeId} {n k : Nat} {i : TypeInfo} {x y : Operand} {cs es : AV} {s r : SV} {d : Option Tmp} {ty : TypeId} {pos : String} {after : Array Edge} {g : Option (Nat × Bool)}
    (hx : VR γ (Nn N0 γ) w (.agg cs) (ρ x)) (hy : VR γ (Nn N0 γ) w s (ρ y)) (hk : s.idx = some k) (hi : arrInfo P T = some (n, e, i)) (hlt : k < n) (hdr : cs.drop (k * i.size) = some es) (hr : loadAs P e es = some r) : OpOk P f N0 H γ w ⟨d, .index T x y, ty, pos, after, g⟩ ρ r H := by
  obtain ⟨hu, hi⟩ := arrInfo_spec hi
  have e2 := idx_spec hy hk
  obtain ⟨l, e1, hd⟩ := hx
  obtain ⟨h1, h2⟩ := hd.drop hdr
  obtain ⟨v, h3, h4⟩ := part_spec (P := P) hr h1
  have hs : (sizeOf e).run P w = .ok i.size w := by simp [sizeOf, typeInfo, hi]
  refine OpOk.pure hS (v := v) ?_ h4
  simp only [execOp, e1, e2, Instr.index, asIntOf, Sem.run_bind, Sem.run_pure, Result.andThen_ok, run_underlying hu]
  rw [if_pos ⟨by omega, by omega⟩]
  simp only [Sem.run_bind, hs, Result.andThen_ok, Int.toNat_natCast, h3]

def fieldPart (P : Program) (T : TypeId) (i : Nat) : Option (TypeId × Nat) :=
  match P.underlying T with
  | some (.struct fs) => match fs[i]? with
    | some fl => some (fl.type, fl.offset)
    | none => none
  | _ => none
theorem field_ok {P : Program} (hS : St γ N0 H w) {T e : TypeId} {j k : Nat} {x : Operand} {cs es : AV} {r : SV} {d : Option Tmp} {ty : TypeId} {pos : String} {after : Array Edge} {g : Option (Nat × Bool)}
    (hx : VR γ (Nn N0 γ) w (.agg cs) (ρ x)) (hj : fieldPart P T j = some (e, k)) (hdr : cs.drop k = some es) (hr : loadAs P e es = some r) : OpOk P f N0 H γ w ⟨d, .field T x j, ty, pos, after, g⟩ ρ r H := by
  obtain ⟨l, e1, hd⟩ := hx
  obtain ⟨h1, h2⟩ := hd.drop hdr
  obtain ⟨v, h3, h4⟩ := part_spec (P := P) hr h1
  unfold fieldPart at hj
  split at hj
  · rename_i fs hu
    split at hj
    · rename_i fl hfl
      cases hj
      refine OpOk.pure hS (v := v) ?_ h4
      simp only [execOp, e1, Instr.field, Sem.run_bind, run_underlying hu, Result.andThen_ok, hfl, asAgg, Sem.run_pure, h3]
    · cases hj
  · cases hj
/-! calls -/
/-- what a call must come to -/
def CallOk (P : Program) (f : Nat) (call : Nat → List SV → AH → Option (SV × AH)) : Prop :=
  ∀ fn args H s H', call fn args H = some (s, H') → f ≤ H.n → ∀ γ N0 w vs, St γ N0 H w → Caps γ (Nn N0 γ) w args vs →
    Calls P fn vs.toArray w fun e w' => ∃ v γ', e = .returned v ∧ St γ' N0 H' w' ∧ Step f H γ w H' γ' w' ∧ VR γ' (Nn N0 γ') w' s v
def capsList : AV → Option (List SV)
  | .nil => some []
  | .cons a r => match capsList r with
    | some l => if a.width = 1 then some (.one a :: l) else none
    | none => none
  | _ => none
theorem capsList_spec {N : Nat → Prop} : ∀ {c : AV} {l : List SV} {vs : List Value}, DV γ N w c vs → capsList c = some l → Caps γ N w l vs := by
  intro c
  induction c with
  | nil => intro l vs h hc; cases hc; cases h; exact .nil
  | cons a r _ ih =>
    intro l vs h hc
    simp only [capsList] at hc
    split at hc
    · rename_i l' hl'
      split at hc
      · rename_i hw
        cases hc
        obtain ⟨xs, ys, rfl, h1, h2, h3⟩ := h.cons_inv
        rw [hw] at h3
        obtain ⟨x, rfl⟩ := List.length_eq_one_iff.1 h3
        exact .cons h1 (ih h2 hl')
      · cases hc
    · cases hc
  | _ => intro l vs _ hc; cases hc
theorem Caps.append {N : Nat → Prop} {l l' : List SV} {vs vs' : List Value} (h : Caps γ N w l vs) (h' : Caps γ N w l' vs') : Caps γ N w (l ++ l') (vs ++ vs') := by
  induction h with
  | nil => exact h'
  | cons h1 _ ih => exact .cons h1 ih
theorem call_ok {P : Program} {call : Nat → List SV → AH → Option (SV × AH)} (hC : CallOk P f call) (hS : St γ N0 H w) {x : Operand} {args : Array Operand} {ats : Array TypeId} {fn : Nat} {c : AV} {cl al : List SV} {s : SV} {H' : AH} {d : Option Tmp} {ty : TypeId} {pos : String} {after : Array Edge} {g : Option (Nat × Bool)}
    (hf : f ≤ H.n) (hx : VR γ (Nn N0 γ) w (.one (.fn fn c)) (ρ x)) (ha : Caps γ (Nn N0 γ) w al (args.toList.map ρ)) (hc : capsList c = some cl) (hb : hasBody P fn = true) (h : call fn (al ++ cl) H = some (s, H')) :
    OpOk P f N0 H γ w ⟨d, .call { callee := .value x, args := args, argTypes := ats }, ty, pos, after, g⟩ ρ s H' := by
  generalize hv : ρ x = v at hx
  cases hx with
  | fn hd =>
    rename_i ys
    have h1 := hC fn _ H s H' h hf γ N0 w _ hS (ha.append (capsList_spec hd hc))
    unfold OpOk Runs
    have e : (execOp ρ ⟨d, .call { callee := .value x, args := args, argTypes := ats }, ty, pos, after, g⟩).run P w = .ok (.enter fn (args.toList.map ρ ++ ys).toArray) w := by
      have e2 : (args.toList.map ρ ++ ys).toArray = args.map ρ ++ ys.toArray := by
        apply Array.ext'; simp
      rw [e2]
      simp only [execOp, resolve, hv, Deferred.ofValue, Sem.run_bind, Sem.run_pure, Result.andThen_ok, invoke]
      rw [show (#[] ++ args.map ρ : Array Value) = args.map ρ by simp]
      exact run_callFunc hb _ w
    rw [e]
    refine Calls.mono h1 ?_
    rintro en w' ⟨v, γ', rfl, h2, h3, h4⟩
    exact ⟨v, rfl, γ', h2, h3, h4⟩
end
end

section
variable [Rho]

def req {α : Type} (b : Bool) (x : Option α) : Option α := cond b x none
theorem req_some {α : Type} {b : Bool} {x : Option α} {y : α} (h : req b x = some y) : b = true ∧ x = some y := by
  cases b with
  | true => exact ⟨rfl, h⟩
  | false => cases h
theorem cond_some {α : Type} {b : Bool} {x y : Option α} {z : α} (h : cond b x y = some z) : (b = true ∧ x = some z) ∨ (b = false ∧ y = some z) := by
  cases b with
  | true => exact .inl ⟨rfl, h⟩
  | false => exact .inr ⟨rfl, h⟩
theorem bnd_some {α β : Type} {x : Option α} {k : α → Option β} {y : β} (h : x.bind k = some y) : ∃ a, x = some a ∧ k a = some y := by
  cases x with
  | none => cases h
  | some a => exact ⟨a, rfl, h⟩

def opv (env : AEnv) : Operand → Option SV
  | .tmp t => lk t env
  | .const v => cond v.oneCell' (some (.one (.sc v))) none
  | .func f => some (.one (.fn f .nil))
  | .global _ => none
def opvs (env : AEnv) : List Operand → Option (List SV)
  | [] => some []
  | x :: r => (opv env x).bind fun s => (opvs env r).bind fun l => some (s :: l)
def opps (env : AEnv) : List (Nat × Operand) → Option (List (Nat × SV))
  | [] => some []
  | (i, x) :: r => (opv env x).bind fun s => (opps env r).bind fun l => some ((i, s) :: l)
def opo (env : AEnv) : Option Operand → Option (Option SV)
  | none => some none
  | some x => (opv env x).bind fun s => some (some s)
def isU32 (T : TypeId) : Bool := Nat.beq T 231
theorem isU32_ne {T : TypeId} (h : (!isU32 T) = true) : T ≠ 231 := by
  unfold isU32 at h
  simp only [Bool.not_eq_true'] at h
  exact Nat.ne_of_beq_eq_false h
def ret1 (H : AH) (s : SV) : Option (SV × AH) := some (s, H)

/-- the operands of which abstract values are known -/
def Rl (γ : Nat → Option Nat) (N : Nat → Prop) (w : World) (env : AEnv) (ρ : Operand → Value) (xs : List Operand) : Prop := ∀ x ∈ xs, ∀ s, opv env x = some s → VR γ N w s (ρ x)

def evApp (P : Program) (f : Nat) (H : AH) (t : TypeId) (s r : SV) : Option (SV × AH) :=
  (elemInfo P t).bind fun (e, i) => i.zero.bind fun z => req (Nat.beq z.cells.size i.size && !isU32 e && Nat.ble i.bytes 65536) ((slLen r).bind fun n => req (Nat.blt 0 n) ((slCells H i.size r).bind fun c =>
    match s with
    | .one (.sc (.slice none 0 0)) => req (Nat.ble n 65536) (some (.one (.osl true H.n 0 n), H.push (e, c)))
    | .one (.osl true b 0 m) => (H.get b).bind fun (e', cs) => req (Nat.beq e' e && Nat.ble f b && Nat.ble (m + n) 65536) (cond (Nat.beq cs.width (m * i.size)) (some (.one (.osl true H.n 0 (m + n)), (H.set b none).push (e, cs.app c)))
        ((cs.take (m * i.size)).bind fun cs0 => req (Nat.beq cs0.width (m * i.size)) ((slCells (H.set b (some (e, cs0))) i.size r).bind fun c0 => some (.one (.osl true H.n 0 (m + n)), ((H.set b (some (e, cs0))).set b none).push (e, cs0.app c0)))))
    | _ => none))

def evAppZ (P : Program) (H : AH) (t t' : TypeId) (s r : SV) : Option (SV × AH) :=
  (elemInfo P t).bind fun (e, i) => i.zero.bind fun z => match P.underlying t', s with
    | some (.int _), .one (.sc (.slice none 0 0)) => r.idx.bind fun n => req (Nat.beq z.cells.size i.size && Nat.blt 0 i.size && Nat.blt 0 n && Nat.ble n 65536 && Nat.ble i.bytes 65536 && !isU32 e && oneCells (zrep z.cells.toList (n * i.size)))
        (some (.one (.osl true H.n 0 n), H.push (e, .ofVals (zrep z.cells.toList (n * i.size)))))
    | _, _ => none
def evOp (P : Program) (call : Nat → List SV → AH → Option (SV × AH)) (f : Nat) (env : AEnv) (H : AH) (op : Op) : Option (SV × AH) :=
  match op with
  | .move x => (opv env x).bind (ret1 H)
  | .assign x => (opv env x).bind (ret1 H)
  | .pick c x y => (opv env c).bind fun s => match s.exact with
    | some (.bool true) => (opv env x).bind (ret1 H)
    | some (.bool false) => (opv env y).bind (ret1 H)
    | _ => none
  | .alloc T => (zeroAs P T).bind fun z => req (!isU32 T) (some (.one (.ptr H.n 0), H.push (T, .ofVals z)))
  | .box T x => (opv env x).bind fun s => s.cells.bind fun cs => req (!isU32 T) (some (.one (.ptr H.n 0), H.push (T, cs)))
  | .build T parts => (opps env parts.toList).bind fun l => (buildAs P T l).bind (ret1 H)
  | .buildSlice T n parts => (opps env parts.toList).bind fun l => (elemInfo P T).bind fun (e, i) => (zeroAs P e).bind fun z =>
      req (Nat.blt 0 (n * i.size) && Nat.ble (n * i.size) 65536 && oneCells (zrep z (n * i.size))) ((fillAs (fun k => some (k * i.size, i.size)) (.ofVals (zrep z (n * i.size))) l).bind fun cs => some (.one (.sl cs n), H))
  | .load T x => (opv env x).bind fun p => (deref H p).bind fun es => (loadAs P T es).bind (ret1 H)
  | .store T x y => (opv env x).bind fun p => (opv env y).bind fun s => match p with
    | .one (.ptr b off) => (H.get b).bind fun (t, cs) => s.cells.bind fun ps => (P.info? T).bind fun i => req (Nat.ble f b && Nat.beq i.size ps.width) ((cs.put off ps).bind fun cs' => some (.und, H.set b (some (t, cs'))))
    | _ => none
  | .nilCheck x => (opv env x).bind fun p => (ptrAdd 0 p).bind fun _ => some (p, H)
  | .binOp op T x y _ => (opv env x).bind fun s => (opv env y).bind fun t => s.exact.bind fun u => t.exact.bind fun v => (pureSV P (do eqGuard op T x y u v; binOp op T u v)).bind (ret1 H)
  | .unOp op _ x => (opv env x).bind fun s => s.exact.bind fun u => (pureSV P (Op.unary op u)).bind (ret1 H)
  | .convert T T' x => (opv env x).bind fun s => s.exact.bind fun u => (pureSV P (convert T T' u)).bind (ret1 H)
  | .sliceToArrayPointer T x => (opv env x).bind fun s => (arrInfo P T).bind fun (n, _, _) => (toArr n s).bind (ret1 H)
  | .makeFunc (.func f0) first cap => req (Nat.beq first.size 0) ((opvs env cap.toList).bind fun l => (capsAs l).bind fun c => some (.one (.fn f0 c), H))
  | .makeSlice T x y => (opv env x).bind fun s => (opv env y).bind fun t => s.idx.bind fun n => t.idx.bind fun m => (elemInfo P T).bind fun (e, i) => (zeroAs P e).bind fun z =>
      req (Nat.beq n m && Nat.ble n 65536 && Nat.ble i.bytes 65536 && !isU32 e && oneCells (zrep z (n * i.size))) (some (.one (.osl false H.n 0 n), H.push (e, .ofVals (zrep z (n * i.size)))))
  | .slice T x lo hi none => (opv env x).bind fun s => (opo env lo).bind fun sl => (opo env hi).bind fun sh => (loOf sl).bind fun l => match P.underlying T with
    | some (.slice _) => (elemInfo P T).bind fun (_, i) => (slLen s).bind fun n => (hiOf n sh).bind fun h => (cutAs l h i.size s).bind (ret1 H)
    | _ => (arrInfo P T).bind fun (n, _, i) => (hiOf n sh).bind fun h => req (Nat.ble h n) ((cutArr l h i.size s).bind (ret1 H))
  | .fieldAddr T x i => (opv env x).bind fun p => (fieldOff P T i).bind fun k => (ptrAdd k p).bind (ret1 H)
  | .indexAddr T x y => (opv env x).bind fun p => (opv env y).bind fun s => s.idx.bind fun i => (elemPtr P T i p).bind (ret1 H)
  | .extract x i => (opv env x).bind fun s => (s.comp i).bind (ret1 H)
  | .index T x y => (opv env x).bind fun p => (opv env y).bind fun s => match p with
    | .agg cs => s.idx.bind fun k => (arrInfo P T).bind fun (n, e, i) => req (Nat.blt k n) ((cs.drop (k * i.size)).bind fun es => (loadAs P e es).bind (ret1 H))
    | _ => none
  | .field T x j => (opv env x).bind fun p => match p with
    | .agg cs => (fieldPart P T j).bind fun (e, k) => (cs.drop k).bind fun es => (loadAs P e es).bind (ret1 H)
    | _ => none
  | .call c => match c.callee with
    | .value x => (opv env x).bind fun s => match s with
      | .one (.fn fn cp) => (opvs env c.args.toList).bind fun al => (capsList cp).bind fun cl => req (hasBody P fn) (call fn (al ++ cl) H)
      | _ => none
    | .builtin .len => match c.args.toList, c.argTypes.toList with
      | [x], [t] => (opv env x).bind fun s => match P.underlying t with
        | some (.slice _) => (slLen s).bind fun n => some (.one (.sc (.int .i64 n)), H)
        | some .string => s.exact.bind fun v => match v with
          | .string b => some (.one (.sc (.int .i64 b.size)), H)
          | _ => none
        | _ => none
      | _, _ => none
    | .builtin .cap => match c.args.toList, c.argTypes.toList with
      | [x], [t] => (opv env x).bind fun s => match P.underlying t, s with
        | some (.slice _), .one (.sc (.slice none 0 0)) => some (.one (.sc (.int .i64 0)), H)
        | _, _ => none
      | _, _ => none
    | .builtin .append => match c.args.toList, c.argTypes.toList with
      | [x, y], [t, t'] => (opv env x).bind fun s => (opv env y).bind fun r => cond (Nat.beq t t') (evApp P f H t s r) (evAppZ P H t t' s r)
      | _, _ => none
    | _ => none
  | _ => none

section
variable {f : Nat} {N0 : Nat → Prop} {H : AH} {γ : Nat → Option Nat} {w : World} {ρ : Operand → Value} {env : AEnv}
theorem opvs_spec {N : Nat → Prop} {xs : List Operand} : ∀ {l : List Operand} {r : List SV}, (∀ x ∈ l, x ∈ xs) → Rl γ N w env ρ xs → opvs env l = some r → Caps γ N w r (l.map ρ) := by
  intro l
  induction l with
  | nil => intro r _ _ h; cases h; exact .nil
  | cons x l ih =>
    intro r hm hR h
    obtain ⟨s, h1, h2⟩ := bnd_some h
    obtain ⟨l', h3, h4⟩ := bnd_some h2
    cases h4
    exact .cons (hR x (hm x List.mem_cons_self) s h1) (ih (fun y hy => hm y (List.mem_cons_of_mem _ hy)) hR h3)
theorem opps_spec {N : Nat → Prop} {xs : List Operand} : ∀ {l : List (Nat × Operand)} {r : List (Nat × SV)}, (∀ p ∈ l, p.2 ∈ xs) → Rl γ N w env ρ xs → opps env l = some r → Parts γ N w r (l.map fun p => (p.1, ρ p.2)) := by
  intro l
  induction l with
  | nil => intro r _ _ h; cases h; exact .nil
  | cons p l ih =>
    obtain ⟨i, x⟩ := p
    intro r hm hR h
    obtain ⟨s, h1, h2⟩ := bnd_some h
    obtain ⟨l', h3, h4⟩ := bnd_some h2
    cases h4
    exact .cons (hR x (hm (i, x) List.mem_cons_self) s h1) (ih (fun y hy => hm y (List.mem_cons_of_mem _ hy)) hR h3)
theorem opo_spec {N : Nat → Prop} {xs : List Operand} {x : Option Operand} {s : Option SV} (hm : ∀ y, x = some y → y ∈ xs) (hR : Rl γ N w env ρ xs) (h : opo env x = some s) : OptR γ N w s (x.map ρ) := by
  cases x with
  | none => cases h; exact .none
  | some y =>
    obtain ⟨s', h1, h2⟩ := bnd_some h
    cases h2
    exact .some (hR y (hm y rfl) s' h1)
theorem two_of {α : Type} {a : Array α} {l : List α} (h : a.toList = l) : a = l.toArray := by
  apply Array.ext'; simpa using h

theorem evApp_ok {P : Program} (hP : P = Tryz.prog) (hS : St γ N0 H w) {t : TypeId} {x y : Operand} {s r q : SV} {H' : AH} {d : Option Tmp} {ty : TypeId} {pos : String} {after : Array Edge} {g : Option (Nat × Bool)}
    (hf : f ≤ H.n) (hx : VR γ (Nn N0 γ) w s (ρ x)) (hy : VR γ (Nn N0 γ) w r (ρ y)) (h : evApp P f H t s r = some (q, H')) :
    OpOk P f N0 H γ w ⟨d, .call { callee := .builtin .append, args := #[x, y], argTypes := #[t, t] }, ty, pos, after, g⟩ ρ q H' := by
  subst hP
  unfold evApp at h
  obtain ⟨⟨e, i⟩, h1, h⟩ := bnd_some h
  obtain ⟨z, h2, h⟩ := bnd_some h
  obtain ⟨hc, h⟩ := req_some h
  simp only [Bool.and_eq_true] at hc
  obtain ⟨n, h3, h⟩ := bnd_some h
  obtain ⟨h0, h⟩ := req_some h
  obtain ⟨c, h4, h⟩ := bnd_some h
  have hz := Nat.eq_of_beq_eq_true hc.1.1
  have hu := isU32_ne hc.1.2
  have hb := Nat.le_of_ble_eq_true hc.2
  have hn0 : 0 < n := Nat.le_of_ble_eq_true h0
  split at h
  · obtain ⟨h5, h⟩ := req_some h
    cases h
    exact append_nil_ok hS hf hx hy rfl h1 h2 hz h3 hn0 (Nat.le_of_ble_eq_true h5) hb hu h4
  · rename_i b m
    obtain ⟨⟨e', cs⟩, h5, h⟩ := bnd_some h
    obtain ⟨h6, h⟩ := req_some h
    simp only [Bool.and_eq_true] at h6
    have he := Nat.eq_of_beq_eq_true h6.1.1
    subst he
    rcases cond_some h with ⟨hw, h⟩ | ⟨_, h⟩
    · cases h
      exact append_own_ok hS hx hy h1 h2 hz h3 hn0 (Nat.le_of_ble_eq_true h6.2) hb hu h5 (Nat.eq_of_beq_eq_true hw) (Nat.le_of_ble_eq_true h6.1.2) h4
    · obtain ⟨cs0, h7, h⟩ := bnd_some h
      obtain ⟨h8, h⟩ := req_some h
      obtain ⟨c0, h9, h⟩ := bnd_some h
      cases h
      obtain ⟨k1, k2⟩ := hS.forget (f := f) h5 h7 (Nat.le_of_ble_eq_true h6.1.2)
      refine Runs.mono (append_own_ok k1 hx hy h1 h2 hz h3 hn0 (Nat.le_of_ble_eq_true h6.2) hb hu (AH.get_set_eq _ _ h5) (Nat.eq_of_beq_eq_true h8) (Nat.le_of_ble_eq_true h6.1.2) h9) ?_
      rintro v w' ⟨γ', k3, k4, k5⟩
      exact ⟨γ', k3, k2.trans hS.lt k4, k5⟩
  · cases h

theorem evAppZ_ok {P : Program} (hP : P = Tryz.prog) (hS : St γ N0 H w) {t t' : TypeId} {x y : Operand} {s r q : SV} {H' : AH} {d : Option Tmp} {ty : TypeId} {pos : String} {after : Array Edge} {g : Option (Nat × Bool)}
    (hf : f ≤ H.n) (hx : VR γ (Nn N0 γ) w s (ρ x)) (hy : VR γ (Nn N0 γ) w r (ρ y)) (h : evAppZ P H t t' s r = some (q, H')) :
    OpOk P f N0 H γ w ⟨d, .call { callee := .builtin .append, args := #[x, y], argTypes := #[t, t'] }, ty, pos, after, g⟩ ρ q H' := by
  subst hP
  unfold evAppZ at h
  obtain ⟨⟨e, i⟩, h1, h⟩ := bnd_some h
  obtain ⟨z, h2, h⟩ := bnd_some h
  split at h
  · rename_i kn hu _ _
    obtain ⟨n, h3, h⟩ := bnd_some h
    obtain ⟨h4, h⟩ := req_some h
    cases h
    simp only [Bool.and_eq_true] at h4
    obtain ⟨⟨⟨⟨⟨⟨k1, k2⟩, k3⟩, k4⟩, k5⟩, k6⟩, k7⟩ := h4
    have e1 := Nat.eq_of_beq_eq_true k1
    have e2 := Nat.le_of_ble_eq_true k2
    have e3 := Nat.le_of_ble_eq_true k3
    have e4 := Nat.le_of_ble_eq_true k4
    have e5 := Nat.le_of_ble_eq_true k5
    have e6 := isU32_ne k6
    have hs : SV.exact (.one (.sc (.slice none 0 0))) = some (.slice none 0 0) := by simp only [SV.exact]
    exact append_zeros_ok hS hf hx hy hs h1 hu h2 e1 e2 h3 e3 e4 e5 e6 k7
  · cases h
theorem evOp_ok {P : Program} (hP : P = Tryz.prog) {call : Nat → List SV → AH → Option (SV × AH)} (hC : CallOk P f call) (hS : St γ N0 H w) (hf : f ≤ H.n) {op : Op} {s : SV} {H' : AH} {d : Option Tmp} {ty : TypeId} {pos : String} {after : Array Edge} {g : Option (Nat × Bool)}
    (hR : Rl γ (Nn N0 γ) w env ρ op.operands.toList) (h : evOp P call f env H op = some (s, H')) : OpOk P f N0 H γ w ⟨d, op, ty, pos, after, g⟩ ρ s H' := by
  cases op with
  | move x =>
    obtain ⟨s1, h1, h⟩ := bnd_some h
    cases h
    exact move_ok hS (hR x (by simp [Op.operands]) _ h1)
  | assign x =>
    obtain ⟨s1, h1, h⟩ := bnd_some h
    cases h
    exact assign_ok hS (hR x (by simp [Op.operands]) _ h1)
  | pick c x y =>
    obtain ⟨s1, h1, h⟩ := bnd_some h
    split at h
    · rename_i hb
      obtain ⟨s2, h2, h⟩ := bnd_some h
      cases h
      exact pick_ok hS (hR c (by simp [Op.operands]) _ h1) hb (fun _ => hR x (by simp [Op.operands]) _ h2) (fun e => by cases e)
    · rename_i hb
      obtain ⟨s2, h2, h⟩ := bnd_some h
      cases h
      exact pick_ok hS (hR c (by simp [Op.operands]) _ h1) hb (fun e => by cases e) (fun _ => hR y (by simp [Op.operands]) _ h2)
    · cases h
  | alloc T =>
    obtain ⟨z, h1, h⟩ := bnd_some h
    obtain ⟨h2, h⟩ := req_some h
    cases h
    exact alloc_ok hS hf h1 (isU32_ne h2)
  | box T x =>
    obtain ⟨s1, h1, h⟩ := bnd_some h
    obtain ⟨cs, h2, h⟩ := bnd_some h
    obtain ⟨h3, h⟩ := req_some h
    cases h
    exact box_ok hS hf (hR x (by simp [Op.operands]) _ h1) h2 (isU32_ne h3)
  | build T parts =>
    obtain ⟨l, h1, h⟩ := bnd_some h
    obtain ⟨s1, h2, h⟩ := bnd_some h
    cases h
    exact build_ok hS (opps_spec (fun p hp => by simp only [Op.operands]; simpa using ⟨p.1, by simpa using hp⟩) hR h1) h2
  | buildSlice T n parts =>
    obtain ⟨l, h1, h⟩ := bnd_some h
    obtain ⟨⟨e, i⟩, h2, h⟩ := bnd_some h
    obtain ⟨z, h3, h⟩ := bnd_some h
    obtain ⟨h4, h⟩ := req_some h
    obtain ⟨cs, h5, h⟩ := bnd_some h
    cases h
    simp only [Bool.and_eq_true] at h4
    exact buildSlice_ok hS (opps_spec (fun p hp => by simp only [Op.operands]; simpa using ⟨p.1, by simpa using hp⟩) hR h1) h2 h3 (Nat.le_of_ble_eq_true h4.1.1) (Nat.le_trans (Nat.le_of_ble_eq_true h4.1.2) (by omega)) h4.2 h5
  | load T x =>
    obtain ⟨p, h1, h⟩ := bnd_some h
    obtain ⟨es, h2, h⟩ := bnd_some h
    obtain ⟨s1, h3, h⟩ := bnd_some h
    cases h
    exact load_ok hS (hR x (by simp [Op.operands]) _ h1) h2 h3
  | store T x y =>
    obtain ⟨p, h1, h⟩ := bnd_some h
    obtain ⟨s1, h2, h⟩ := bnd_some h
    split at h
    · obtain ⟨⟨t, cs⟩, h3, h⟩ := bnd_some h
      obtain ⟨ps, h4, h⟩ := bnd_some h
      obtain ⟨i, h5, h⟩ := bnd_some h
      obtain ⟨h6, h⟩ := req_some h
      obtain ⟨cs', h7, h⟩ := bnd_some h
      cases h
      simp only [Bool.and_eq_true] at h6
      exact store_ok hS (hR x (by simp [Op.operands]) _ h1) (hR y (by simp [Op.operands]) _ h2) (Nat.le_of_ble_eq_true h6.1) h3 h4 h5 (Nat.eq_of_beq_eq_true h6.2) h7
    · cases h
  | nilCheck x =>
    obtain ⟨p, h1, h⟩ := bnd_some h
    obtain ⟨q, h2, h⟩ := bnd_some h
    cases h
    exact nilCheck_ok hS (hR x (by simp [Op.operands]) _ h1) h2
  | binOp op T x y T' =>
    obtain ⟨s1, h1, h⟩ := bnd_some h
    obtain ⟨s2, h2, h⟩ := bnd_some h
    obtain ⟨u, h3, h⟩ := bnd_some h
    obtain ⟨v, h4, h⟩ := bnd_some h
    obtain ⟨r, h5, h⟩ := bnd_some h
    cases h
    exact binOp_ok hS (hR x (by simp [Op.operands]) _ h1) (hR y (by simp [Op.operands]) _ h2) h3 h4 h5
  | unOp op T x =>
    obtain ⟨s1, h1, h⟩ := bnd_some h
    obtain ⟨u, h3, h⟩ := bnd_some h
    obtain ⟨r, h5, h⟩ := bnd_some h
    cases h
    exact unOp_ok hS (hR x (by simp [Op.operands]) _ h1) h3 h5
  | convert T T' x =>
    obtain ⟨s1, h1, h⟩ := bnd_some h
    obtain ⟨u, h3, h⟩ := bnd_some h
    obtain ⟨r, h5, h⟩ := bnd_some h
    cases h
    exact convert_ok hS (hR x (by simp [Op.operands]) _ h1) h3 h5
  | sliceToArrayPointer T x =>
    obtain ⟨s1, h1, h⟩ := bnd_some h
    obtain ⟨⟨n, e, i⟩, h2, h⟩ := bnd_some h
    obtain ⟨r, h5, h⟩ := bnd_some h
    cases h
    exact toArr_ok hS (hR x (by simp [Op.operands]) _ h1) h2 h5
  | makeFunc fn first cap =>
    cases fn with
    | func f0 =>
      obtain ⟨h1, h⟩ := req_some h
      obtain ⟨l, h2, h⟩ := bnd_some h
      obtain ⟨c, h3, h⟩ := bnd_some h
      cases h
      have he : first = #[] := Array.eq_empty_of_size_eq_zero (Nat.eq_of_beq_eq_true h1)
      subst he
      exact makeFunc_ok hS (opvs_spec (fun x hx => by simpa [Op.operands] using hx) hR h2) h3
    | _ => cases h
  | makeSlice T x y =>
    obtain ⟨s1, h1, h⟩ := bnd_some h
    obtain ⟨s2, h2, h⟩ := bnd_some h
    obtain ⟨n, h3, h⟩ := bnd_some h
    obtain ⟨m, h4, h⟩ := bnd_some h
    obtain ⟨⟨e, i⟩, h5, h⟩ := bnd_some h
    obtain ⟨z, h6, h⟩ := bnd_some h
    obtain ⟨h7, h⟩ := req_some h
    cases h
    simp only [Bool.and_eq_true] at h7
    have he := Nat.eq_of_beq_eq_true h7.1.1.1.1
    subst he
    exact makeSlice_ok hS hf (hR x (by simp [Op.operands]) _ h1) (hR y (by simp [Op.operands]) _ h2) h3 h4 h5 h6 (Nat.le_of_ble_eq_true h7.1.1.1.2) (Nat.le_of_ble_eq_true h7.1.1.2) (isU32_ne h7.1.2) h7.2
  | slice T x lo hi mx =>
    cases mx with
    | some m => cases h
    | none =>
      obtain ⟨s1, h1, h⟩ := bnd_some h
      obtain ⟨sl, h2, h⟩ := bnd_some h
      obtain ⟨sh, h3, h⟩ := bnd_some h
      obtain ⟨l, h4, h⟩ := bnd_some h
      have hx := hR x (by simp [Op.operands]) _ h1
      have hl := opo_spec (fun y hy => by subst hy; simp [Op.operands]) hR h2
      have hh := opo_spec (fun y hy => by subst hy; simp [Op.operands]) hR h3
      split at h
      · obtain ⟨⟨e, i⟩, h5, h⟩ := bnd_some h
        obtain ⟨n, h6, h⟩ := bnd_some h
        obtain ⟨hh', h7, h⟩ := bnd_some h
        obtain ⟨r, h8, h⟩ := bnd_some h
        cases h
        exact slice_ok hS hx hl hh h5 h6 h4 h7 h8
      · obtain ⟨⟨n, e, i⟩, h5, h⟩ := bnd_some h
        obtain ⟨hh', h7, h⟩ := bnd_some h
        obtain ⟨h9, h⟩ := req_some h
        obtain ⟨r, h8, h⟩ := bnd_some h
        cases h
        exact sliceArr_ok hS hx hl hh h5 h4 h7 (Nat.le_of_ble_eq_true h9) h8
  | fieldAddr T x i =>
    obtain ⟨p, h1, h⟩ := bnd_some h
    obtain ⟨k, h2, h⟩ := bnd_some h
    obtain ⟨q, h3, h⟩ := bnd_some h
    cases h
    exact fieldAddr_ok hS (hR x (by simp [Op.operands]) _ h1) h2 h3
  | indexAddr T x y =>
    obtain ⟨p, h1, h⟩ := bnd_some h
    obtain ⟨s1, h2, h⟩ := bnd_some h
    obtain ⟨i, h3, h⟩ := bnd_some h
    obtain ⟨q, h4, h⟩ := bnd_some h
    cases h
    exact indexAddr_ok hS (hR x (by simp [Op.operands]) _ h1) (hR y (by simp [Op.operands]) _ h2) h3 h4
  | extract x i =>
    obtain ⟨p, h1, h⟩ := bnd_some h
    obtain ⟨q, h4, h⟩ := bnd_some h
    cases h
    exact extract_ok hS (hR x (by simp [Op.operands]) _ h1) h4
  | index T x y =>
    obtain ⟨p, h1, h⟩ := bnd_some h
    obtain ⟨s1, h2, h⟩ := bnd_some h
    split at h
    · obtain ⟨k, h3, h⟩ := bnd_some h
      obtain ⟨⟨n, e, i⟩, h4, h⟩ := bnd_some h
      obtain ⟨h5, h⟩ := req_some h
      obtain ⟨es, h6, h⟩ := bnd_some h
      obtain ⟨r, h7, h⟩ := bnd_some h
      cases h
      exact index_ok hS (hR x (by simp [Op.operands]) _ h1) (hR y (by simp [Op.operands]) _ h2) h3 h4 (Nat.le_of_ble_eq_true h5) h6 h7
    · cases h
  | field T x j =>
    obtain ⟨p, h1, h⟩ := bnd_some h
    split at h
    · obtain ⟨⟨e, k⟩, h3, h⟩ := bnd_some h
      obtain ⟨es, h6, h⟩ := bnd_some h
      obtain ⟨r, h7, h⟩ := bnd_some h
      cases h
      exact field_ok hS (hR x (by simp [Op.operands]) _ h1) h3 h6 h7
    · cases h
  | call c =>
    obtain ⟨callee, args, ats⟩ := c
    cases callee with
    | value x =>
      obtain ⟨s1, h1, h⟩ := bnd_some h
      split at h
      · obtain ⟨al, h2, h⟩ := bnd_some h
        obtain ⟨cl, h3, h⟩ := bnd_some h
        obtain ⟨h4, h⟩ := req_some h
        exact call_ok hC hS hf (hR x (by simp [Op.operands, Call.operands]) _ h1) (opvs_spec (fun y hy => by
          simp only [Op.operands, Call.operands, Array.toList_append]
          exact List.mem_append_right _ hy) hR h2) h3 h4 h
      · cases h
    | invoke r m => cases h
    | builtin b =>
      cases b with
      | len =>
        simp only [evOp] at h
        split at h
        · rename_i x t hx ht
          obtain rfl := two_of hx
          obtain rfl := two_of ht
          obtain ⟨s1, h1, h⟩ := bnd_some h
          have hv := hR x (by simp [Op.operands, Call.operands]) _ h1
          split at h
          · rename_i e hu
            obtain ⟨n, h2, h⟩ := bnd_some h
            cases h
            exact len_ok hS hv hu h2
          · rename_i hu
            obtain ⟨v, h2, h⟩ := bnd_some h
            split at h
            · cases h
              exact lenStr_ok hS hv hu h2
            · cases h
          · cases h
        · cases h
      | cap =>
        simp only [evOp] at h
        split at h
        · rename_i x t hx ht
          obtain rfl := two_of hx
          obtain rfl := two_of ht
          obtain ⟨s1, h1, h⟩ := bnd_some h
          have hv := hR x (by simp [Op.operands, Call.operands]) _ h1
          split at h
          · rename_i e hu
            cases h
            have hv := exact_spec (u := .slice none 0 0) rfl hv
            refine OpOk.pure hS (v := .int .i64 0) ?_ (DV.sc rfl)
            simp [execOp, resolve, invoke, builtin, Builtin.cap_, run_underlying hu, hv, goInt]
          · cases h
        · cases h
      | append =>
        simp only [evOp] at h
        split at h
        · rename_i x y t t' hx ht
          obtain rfl := two_of hx
          obtain rfl := two_of ht
          obtain ⟨s1, h1, h⟩ := bnd_some h
          obtain ⟨s2, h2, h⟩ := bnd_some h
          have hvx := hR x (by simp [Op.operands, Call.operands]) _ h1
          have hvy := hR y (by simp [Op.operands, Call.operands]) _ h2
          rcases cond_some h with ⟨h3, h9⟩ | ⟨_, h9⟩
          · have he := Nat.eq_of_beq_eq_true h3
            subst he
            exact evApp_ok hP hS hf hvx hvy h9
          · exact evAppZ_ok hP hS hf hvx hvy h9
        · cases h
      | _ => cases h
  | _ => cases h
end
end

section
variable [Rho]

/-- what is known of a function's slots -/
structure FrR (n : Nat) (env : AEnv) (γ : Nat → Option Nat) (N : Nat → Prop) (w : World) (a : Act) : Prop where
  size : a.tmps.size = n
  defers : a.defers = []
  slot : ∀ (t : Nat) (s : SV), lk t env = some s → ∃ v, a.tmps[t]? = some v ∧ VR γ N w s v

section
variable {f n : Nat} {N0 : Nat → Prop} {H : AH} {γ : Nat → Option Nat} {w : World} {env : AEnv} {a : Act}
theorem FrR.eval {N : Nat → Prop} (h : FrR n env γ N w a) {x : Operand} {s : SV} (hx : opv env x = some s) : VR γ N w s (a.eval x) := by
  cases x with
  | tmp t =>
    obtain ⟨v, h1, h2⟩ := h.slot t s hx
    rw [eval_tmp h1]; exact h2
  | const v =>
    simp only [opv] at hx
    cases ho : v.oneCell' with
    | false => rw [ho] at hx; cases hx
    | true => rw [ho] at hx; cases hx; exact DV.sc ho
  | func f0 => simp only [opv] at hx; cases hx; exact DV.fn (ys := []) .nil
  | global g => cases hx
theorem FrR.rl {N : Nat → Prop} (h : FrR n env γ N w a) (xs : List Operand) : Rl γ N w env a.eval xs := fun x _ _ hx => h.eval hx
theorem FrR.step {H' : AH} {γ' : Nat → Option Nat} {w' : World} (h : FrR n env γ (Nn N0 γ) w a) (hS : St γ N0 H w) (hs : Step f H γ w H' γ' w') : FrR n env γ' (Nn N0 γ') w' a :=
  ⟨h.size, h.defers, fun t s ht => by
    obtain ⟨v, h1, h2⟩ := h.slot t s ht
    exact ⟨v, h1, hs.vr hS h2⟩⟩
theorem FrR.put {N : Nat → Prop} (h : FrR n env γ N w a) {d : Nat} (hd : d < n) {s : SV} {v : Value} (hv : VR γ N w s v) : FrR n (putL d s env) γ N w (a.put (some d) v) := by
  refine ⟨by simp [Act.put, h.size], by simp [Act.put, h.defers], fun t r ht => ?_⟩
  simp only [Act.put]
  by_cases e : t = d
  · subst e
    rw [lk_put_eq] at ht
    cases ht
    exact ⟨v, by simp [h.size, hd], hv⟩
  · rw [lk_put_ne e] at ht
    rw [Array.getElem?_setIfInBounds_ne (fun h => e h.symm)]
    exact h.slot t r ht

/-- whether a guarded operation is carried out -/
def evWant (ops : Array Oper) (env : AEnv) : Option (Nat × Bool) → Option Bool
  | none => some true
  | some (j, want) => match (ops[j]?).bind (·.dst) with
    | some t => match lk t env with
      | some (.one (.sc (.bool b))) => some (b == want)
      | some (.tup []) => some false
      | _ => none
    | none => none
theorem yields_none {ops : Array Oper} {j t : Nat} {a' : Act} (hj : (ops[j]?).bind (·.dst) = some t) (h : a'.tmps[t]? = some undef) : yielded ops a'.tmps j = none := by
  unfold yielded
  rw [hj]
  simp [h, undef]
theorem evWant_spec {N : Nat → Prop} {ops : Array Oper} {o : Oper} {b : Bool} (h : FrR n env γ N w a) (hb : evWant ops env o.guard = some b) : Region.wanted o (yielded ops a.tmps) = b := by
  unfold evWant at hb
  split at hb
  · rename_i hg
    cases hb
    simp [Region.wanted, hg]
  · rename_i j want hg
    split at hb
    · rename_i t ht
      split at hb
      · rename_i b' hl
        cases hb
        obtain ⟨v, h1, h2⟩ := h.slot t _ hl
        cases h2
        have hy := yields_of (a' := a) ht h1
        simp only [Region.wanted, hg, hy]
        cases b' <;> cases want <;> rfl
      · rename_i hl
        cases hb
        obtain ⟨v, h1, vs, h2, h3⟩ := h.slot t _ hl
        cases h3
        have hy := yields_none (a' := a) ht (h1.trans (by rw [h2]; rfl))
        simp [Region.wanted, hg, hy]
      · cases hb
    · cases hb

def putD (n : Nat) (d : Option Tmp) (s : SV) (env : AEnv) : Option AEnv :=
  match d with
  | none => some env
  | some d => req (Nat.blt d n) (some (putL d s env))
theorem putD_spec {N : Nat → Prop} (h : FrR n env γ N w a) {d : Option Tmp} {s : SV} {v : Value} {env' : AEnv} (hv : VR γ N w s v) (hp : putD n d s env = some env') : FrR n env' γ N w (a.put d v) := by
  cases d with
  | none => cases hp; exact h
  | some d =>
    obtain ⟨h1, h2⟩ := req_some hp
    cases h2
    exact h.put (Nat.le_of_ble_eq_true h1) hv

def evList (P : Program) (call : Nat → List SV → AH → Option (SV × AH)) (f n : Nat) (ops : Array Oper) : List Oper → AEnv → AH → Option (AEnv × AH)
  | [], env, H => some (env, H)
  | o :: rest, env, H => (evWant ops env o.guard).bind fun b => match b with
    | true => (evOp P call f env H o.op).bind fun (s, H') => (putD n o.dst s env).bind fun env' => evList P call f n ops rest env' H'
    | false => (putD n o.dst (.tup []) env).bind fun env' => evList P call f n ops rest env' H

theorem evList_ok {P : Program} (hP : P = Tryz.prog) {call : Nat → List SV → AH → Option (SV × AH)} (hC : CallOk P f call) {ops : Array Oper} {Q : Exit → Act → World → Prop} : ∀ (l : List Oper) (env : AEnv) (H : AH) (γ : Nat → Option Nat) (a : Act) (w : World) (env' : AEnv) (H' : AH),
    evList P call f n ops l env H = some (env', H') → f ≤ H.n → FrR n env γ (Nn N0 γ) w a → St γ N0 H w →
    (∀ γ' a' w', FrR n env' γ' (Nn N0 γ') w' a' → St γ' N0 H' w' → Step f H γ w H' γ' w' → Q .normal a' w') → wpList P ops Q l a w := by
  intro l
  induction l with
  | nil =>
    intro env H γ a w env' H' h hf hF hS hQ
    cases h
    exact wpList_nil (hQ γ a w hF hS (.refl hS.lt))
  | cons o rest ih =>
    intro env H γ a w env' H' h hf hF hS hQ
    obtain ⟨b, h1, h⟩ := bnd_some h
    have hw := evWant_spec hF h1
    unfold wpList
    cases b with
    | true =>
      rw [if_pos hw]
      obtain ⟨⟨s, H1⟩, h2, h⟩ := bnd_some h
      obtain ⟨env1, h3, h⟩ := bnd_some h
      have hop : OpOk P f N0 H γ w o a.eval s H1 := evOp_ok hP hC hS hf (hF.rl _) h2
      refine .inl (Runs.wp hop ?_)
      rintro v w1 ⟨γ1, hS1, hs1, hv⟩
      refine ih env1 H1 γ1 _ w1 env' H' h (Nat.le_trans hf hs1.n) (putD_spec (hF.step hS hs1) hv h3) hS1 ?_
      intro γ' a' w' h4 h5 h6
      exact hQ γ' a' w' h4 h5 (hs1.trans hS.lt h6)
    | false =>
      rw [if_neg (by rw [hw]; simp)]
      obtain ⟨env1, h3, h⟩ := bnd_some h
      exact ih env1 H γ _ w env' H' h hf (putD_spec hF (s := .tup []) ⟨[], rfl, .nil⟩ h3) hS hQ
end
end
end Go.Proofs.YteaggpgdfiodfaaGreatDoor
