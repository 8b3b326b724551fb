/-
  Regions: one walk in the text's order serves every order that Go may take, if each operation only extends the world. Conditions: 'regOk' of the operations.
-/
import Derived.Orders
import Derived.Tactics
import Derived.Below
namespace Go.Proofs.YteaggpgdfiodfaaGreatDoor
set_option linter.all false
open Go.RowKit

/-- What an operation comes to: it returns a value. -/
def Runs (P : Program) (o : Oper) (ρ : Operand → Value) (w : World) (R : Value → World → Prop) : Prop :=
  match (execOp ρ o).run P w with
  | .ok (.value v) w' => R v w'
  | .ok .skip w' => R undef w'
  | .ok (.enter f args) w' => Calls P f args w' fun e w'' => ∃ v, e = .returned v ∧ R v w''
  | .ok (.row r args) w' => Rows P r args w' R
  | _ => False

theorem Runs.wp {P : Program} {o : Oper} {a : Act} {w : World} {R : Value → World → Prop} {next : Act → World → Prop} {Q : Exit → Act → World → Prop}
    (h : Runs P o a.eval w R) (hk : ∀ v w', R v w' → next (a.put o.dst v) w') : o.wp P a w next Q := by
  unfold Runs at h
  unfold Oper.wp
  generalize (execOp a.eval o).run P w = r at h
  cases r with
  | halt x w' => cases h
  | ok n w' =>
    cases n <;> simp only [Oper.upon] at h ⊢
    case value v => exact hk _ _ h
    case skip => exact hk _ _ h
    case enter f args =>
      refine h.mono ?_
      rintro e w'' ⟨v, rfl, hr⟩
      exact hk _ _ hr
    case row r args => exact h.mono fun v w'' hr => hk _ _ hr

theorem Runs.mono {P : Program} {o : Oper} {ρ : Operand → Value} {w : World} {R R' : Value → World → Prop}
    (h : Runs P o ρ w R) (hk : ∀ v w', R v w' → R' v w') : Runs P o ρ w R' := by
  unfold Runs at h ⊢
  generalize (execOp ρ o).run P w = r at h
  cases r with
  | halt x w' => cases h
  | ok n w' =>
    cases n <;> simp only at h ⊢
    case value v => exact hk _ _ h
    case skip => exact hk _ _ h
    case enter f args =>
      refine Calls.mono h ?_
      rintro e w'' ⟨v, rfl, hr⟩
      exact ⟨v, rfl, hk _ _ hr⟩
    case row r args => exact h.mono fun v w'' hr => hk _ _ hr

theorem Runs.of_run {P : Program} {o : Oper} {ρ : Operand → Value} {w w' : World} {v : Value} {R : Value → World → Prop}
    (h : (execOp ρ o).run P w = .ok (.value v) w') (hr : R v w') : Runs P o ρ w R := by
  unfold Runs; rw [h]; exact hr

abbrev Pd := Value → World → Prop
abbrev Kn := List (Tmp × Pd)

/-- Known facts hold of the slots ts. -/
def Kn.holds (kn : Kn) (ts : List Tmp) (a : Act) (w : World) : Prop := ∀ p ∈ kn, p.1 ∈ ts → ∃ v, a.tmps[p.1]? = some v ∧ p.2 v w
def Kn.all (kn : Kn) (a : Act) (w : World) : Prop := ∀ p ∈ kn, ∃ v, a.tmps[p.1]? = some v ∧ p.2 v w

/-- All slots but ds are as they were. -/
structure Outer (a : Act) (ds : List Tmp) (a' : Act) : Prop where
  size : a'.tmps.size = a.tmps.size
  defers : a'.defers = a.defers
  slot : ∀ t, t ∉ ds → a'.tmps[t]? = a.tmps[t]?

structure Pre (E : World → World → Prop) : Prop where
  trans : ∀ {a b c}, E a b → E b c → E a c
  refl : ∀ a, E a a
  drew : ∀ a : World, E a { a with drawn := a.drawn + 1 }

def Stb (E : World → World → Prop) (R : Pd) : Prop := ∀ v w w', E w w' → R v w → R v w'

def Steps (P : Program) (E : World → World → Prop) (ops : Array Oper) (a : Act) (ds : List Tmp) (W : World) (K : Kn → Prop) : List Oper → Kn → Prop
  | [], kn => K kn
  | o :: rest, kn => ∃ (d : Tmp) (R : Pd), o.dst = some d ∧ Stb E R ∧
      (∀ a' w', Outer a ds a' → E W w' → kn.holds (o.looksAt ops) a' w' →
        if Region.wanted o (yielded ops a'.tmps) then Runs P o a'.eval w' (fun v w'' => E w' w'' ∧ R v w'') else R undef w') ∧
      Steps P E ops a ds W K rest (kn ++ [(d, R)])

def hasEdge (o : Oper) (j : Nat) : Bool := o.after.any fun e => Region.binds .any e && e.on == j

def regOk (ops : Array Oper) (m n : Nat) : Bool :=
  decide (m ≤ ops.size) &&
  (List.range ops.size).all fun i =>
    match ops[i]? with
    | none => true
    | some o =>
      (o.after.all fun e => !Region.binds .any e || decide (e.on < i)) &&
      (if i < m then
        (match o.dst with
         | none => false
         | some d => decide (d < n) && (List.range m).all fun j => j == i || (ops[j]?).bind (·.dst) != some d) &&
        (List.range i).all fun j => match (ops[j]?).bind (·.dst) with
          | none => true
          | some d => !(o.looksAt ops).contains d || hasEdge o j
       else (List.range i).all fun j => hasEdge o j)

def dstsOf (l : List Oper) : List Tmp := l.filterMap (·.dst)

structure RegOk (ops : Array Oper) (m n : Nat) : Prop where
  le : m ≤ ops.size
  down : ∀ i o, ops[i]? = some o → ∀ e ∈ o.after, Region.binds .any e = true → e.on < i
  dst : ∀ i o, i < m → ops[i]? = some o → ∃ d, o.dst = some d ∧ d < n ∧ ∀ j, j < m → j ≠ i → (ops[j]?).bind (·.dst) ≠ some d
  look : ∀ i o j d, i < m → ops[i]? = some o → j < i → (ops[j]?).bind (·.dst) = some d → d ∈ o.looksAt ops → hasEdge o j = true
  tail : ∀ i o j, m ≤ i → ops[i]? = some o → j < i → hasEdge o j = true

theorem regOk_spec {ops : Array Oper} {m n : Nat} (h : regOk ops m n = true) : RegOk ops m n := by
  unfold regOk at h
  simp only [Bool.and_eq_true, decide_eq_true_eq, List.all_eq_true, List.mem_range] at h
  obtain ⟨h0, h⟩ := h
  have hh : ∀ i o, ops[i]? = some o → _ := fun i o ho => by
    have hi : i < ops.size := (Array.getElem?_eq_some_iff.1 ho).1
    have := h i hi
    rw [ho] at this
    exact this
  refine ⟨h0, ?_, ?_, ?_, ?_⟩
  · intro i o ho e he hb
    have := hh i o ho
    simp only [Bool.and_eq_true, Array.all_eq_true_iff_forall_mem] at this
    have := this.1 e he
    simpa [hb] using this
  · intro i o hi ho
    have := hh i o ho
    simp only [hi, if_true, Bool.and_eq_true, List.all_eq_true, List.mem_range] at this
    obtain ⟨_, h1, _⟩ := this
    cases hd : o.dst with
    | none => simp [hd] at h1
    | some d =>
      simp only [hd, Bool.and_eq_true, decide_eq_true_eq, List.all_eq_true, List.mem_range, Bool.or_eq_true, beq_iff_eq, bne_iff_ne] at h1
      exact ⟨d, rfl, h1.1, fun j hj hne => (h1.2 j hj).resolve_left hne⟩
  · intro i o j d hi ho hj hd hl
    have := hh i o ho
    simp only [hi, if_true, Bool.and_eq_true, List.all_eq_true, List.mem_range] at this
    have := this.2.2 j hj
    simp only [hd] at this
    simpa [hl] using this
  · intro i o j hi ho hj
    have := hh i o ho
    simp only [show ¬ i < m by omega, if_false, Bool.and_eq_true, List.all_eq_true, List.mem_range] at this
    exact this.2 j hj

section
variable {P : Program} {E : World → World → Prop} {ops : Array Oper} {a : Act} {ds : List Tmp} {W : World} {K : Kn → Prop}

/-- What one operation owes, when the operations before it have known facts kn. -/
def Owes (P : Program) (E : World → World → Prop) (ops : Array Oper) (a : Act) (ds : List Tmp) (W : World) (kn : Kn) (o : Oper) (R : Pd) : Prop :=
  ∀ a' w', Outer a ds a' → E W w' → kn.holds (o.looksAt ops) a' w' →
    if Region.wanted o (yielded ops a'.tmps) then Runs P o a'.eval w' (fun v w'' => E w' w'' ∧ R v w'') else R undef w'

theorem Steps.list : ∀ (l : List Oper) (kn : Kn), Steps P E ops a ds W K l kn →
    ∃ full : Kn, full.length = kn.length + l.length ∧ (∀ i, i < kn.length → full[i]? = kn[i]?) ∧ K full ∧
      ∀ i o, l[i]? = some o → ∃ d R, full[kn.length + i]? = some (d, R) ∧ o.dst = some d ∧ Stb E R ∧ Owes P E ops a ds W (full.take (kn.length + i)) o R := by
  intro l
  induction l with
  | nil => intro kn h; exact ⟨kn, by simp, fun _ _ => rfl, h, fun i o ho => by simp at ho⟩
  | cons x rest ih =>
    intro kn h
    obtain ⟨d, R, hd, hs, ho, hr⟩ := h
    obtain ⟨full, hlen, hpre, hK, hall⟩ := ih _ hr
    simp only [List.length_append, List.length_singleton] at hlen hpre hall
    refine ⟨full, by simp [hlen]; omega, fun i hi => ?_, hK, ?_⟩
    · rw [hpre i (by omega), List.getElem?_append_left hi]
    · intro i o hio
      cases i with
      | zero =>
        simp at hio; subst hio
        have hx : full[kn.length]? = some (d, R) := by rw [hpre _ (by omega)]; simp
        have htake : full.take kn.length = kn := by
          apply List.ext_getElem?
          intro j
          by_cases hj : j < kn.length
          · rw [List.getElem?_take_of_lt hj, hpre j (by omega), List.getElem?_append_left hj]
          · rw [List.getElem?_take, if_neg hj, List.getElem?_eq_none (by omega)]
        exact ⟨d, R, by simpa using hx, hd, hs, by rw [Nat.add_zero, htake]; exact ho⟩
      | succ i =>
        simp at hio
        obtain ⟨d', R', h1, h2, h3, h4⟩ := hall i o hio
        have e : kn.length + 1 + i = kn.length + (i + 1) := by omega
        rw [e] at h1 h4
        exact ⟨d', R', h1, h2, h3, h4⟩
end

theorem countP_lt {α : Type} (p q : α → Bool) : ∀ (l : List α), (∀ x ∈ l, q x = true → p x = true) → (∃ x ∈ l, p x = true ∧ q x = false) → l.countP q < l.countP p := by
  intro l
  induction l with
  | nil => rintro _ ⟨x, hx, _⟩; cases hx
  | cons y l ih =>
    intro h1 h2
    have hmono : l.countP q ≤ l.countP p := List.countP_mono_left fun x hx => h1 x (List.mem_cons_of_mem _ hx)
    obtain ⟨x, hx, hp, hq⟩ := h2
    rw [List.countP_cons, List.countP_cons]
    rcases List.mem_cons.1 hx with rfl | hx'
    · simp only [hp, hq, if_true]; simp; omega
    · have := ih (fun z hz => h1 z (List.mem_cons_of_mem _ hz)) ⟨x, hx', hp, hq⟩
      by_cases hy : q y = true
      · simp [hy, h1 y List.mem_cons_self hy]; exact this
      · simp [hy]; split <;> omega

/-- how many operations are still to come -/
def todo (ops : Array Oper) (listed : Array Bool) : Nat := (List.range ops.size).countP fun i => !listed.getD i true

section
variable {P : Program} {E : World → World → Prop} {ops : Array Oper} {a : Act} {W : World} {Q : Exit → Act → World → Prop}

theorem todo_set {listed : Array Bool} {i : Nat} (hs : listed.size = ops.size) (hi : i < ops.size) (hl : listed.getD i true = false) : todo ops (listed.setIfInBounds i true) < todo ops listed := by
  unfold todo
  refine countP_lt _ _ _ ?_ ⟨i, List.mem_range.2 hi, by simp [hl], ?_⟩
  · intro x hx h
    by_cases hix : i = x
    · subst hix; simp [show i < listed.size by omega] at h
    · rw [getD_set_ne true hix] at h; exact h
  · simp [show i < listed.size by omega]

/-- the tail: each operation waits for all before it -/
theorem wpAny_tail {m n : Nat} (hR : RegOk ops m n) : ∀ (fuel t : Nat) (listed : Array Bool) (a : Act) (w : World), m ≤ t → ops.size - t ≤ fuel → listed.size = ops.size →
    (∀ i, i < ops.size → (listed.getD i false = true ↔ i < t)) → wpList P ops Q (ops.toList.drop t) a w → wpAny P .any ops Q fuel listed a w := by
  intro fuel
  induction fuel with
  | zero =>
    intro t listed a w hm hf hs hl h
    have ht : ops.toList.length ≤ t := by simp; omega
    rw [List.drop_eq_nil_of_le ht] at h
    refine ⟨?_, h⟩
    rw [List.eq_nil_iff_forall_not_mem]
    intro i hi
    rw [mem_ready] at hi
    obtain ⟨h0, o, ho, _⟩ := hi
    have hlt : i < ops.size := (Array.getElem?_eq_some_iff.1 ho).1
    have := (hl i hlt).2 (by omega)
    simp [show i < listed.size by omega] at h0 this
    simp [h0] at this
  | succ fuel ih =>
    intro t listed a w hm hf hs hl h
    refine ⟨?_, ?_⟩
    · intro hr
      by_cases ht : t < ops.size
      · exfalso
        have : t ∈ Region.ready .any ops listed := by
          rw [mem_ready]
          refine ⟨?_, ops[t], Array.getElem?_eq_getElem ht, fun e he hb => ?_⟩
          · have h1 := hl t ht
            simp [show t < listed.size by omega] at h1 ⊢
            exact h1
          · have h2 := hR.down t ops[t] (Array.getElem?_eq_getElem ht) e he hb
            exact (hl e.on (by omega)).2 h2
        rw [hr] at this; cases this
      · rw [List.drop_eq_nil_of_le (by simp; omega)] at h
        exact h
    · intro i hi
      rw [mem_ready] at hi
      obtain ⟨h0, o, ho, hall⟩ := hi
      have hlt : i < ops.size := (Array.getElem?_eq_some_iff.1 ho).1
      have hnot : ¬ i < t := fun hit => by
        have := (hl i hlt).2 hit
        simp [show i < listed.size by omega] at h0 this
        simp [h0] at this
      have hit : i = t := by
        rcases Nat.lt_or_ge t i with hti | hti
        · exfalso
          have he := hR.tail i o t (by omega) ho hti
          unfold hasEdge at he
          rw [Array.any_eq_true'] at he
          obtain ⟨e, hmem, hb⟩ := he
          simp only [Bool.and_eq_true, beq_iff_eq] at hb
          have := hall e hmem hb.1
          rw [hb.2] at this
          have := (hl t (by omega)).1 this
          omega
        · omega
      subst hit
      have hcons : ops.toList.drop i = o :: ops.toList.drop (i + 1) := by
        have hg : ops.toList[i]? = some o := by simpa using ho
        obtain ⟨hi', hge⟩ := List.getElem?_eq_some_iff.1 hg
        rw [List.drop_eq_getElem_cons hi', hge]
      rw [hcons] at h
      unfold wpOp
      rw [ho]
      simp only
      unfold wpList at h
      have hnext : ∀ a w, wpList P ops Q (ops.toList.drop (i + 1)) a w → wpAny P .any ops Q fuel (listed.setIfInBounds i true) a w := fun a w hh => by
        refine ih (i + 1) _ a w (by omega) (by omega) (by simp [hs]) (fun j hj => ?_) hh
        by_cases hij : i = j
        · subst hij; simp [show i < listed.size by omega]
        · rw [getD_set_ne false hij, hl j hj]; omega
      split
      · rename_i hw
        rw [if_pos hw] at h
        exact h.imp (Oper.wp_mono hnext) id
      · rename_i hw
        rw [if_neg hw] at h
        exact hnext _ _ h

/-- the invariant of the first part -/
structure Inv (E : World → World → Prop) (ops : Array Oper) (m : Nat) (a : Act) (W : World) (full : Kn) (done : Nat → Prop) (a' : Act) (w' : World) : Prop where
  outer : Outer a (full.map (·.1)) a'
  ext : E W w'
  facts : ∀ j d R, j < m → done j → full[j]? = some (d, R) → ∃ v, a'.tmps[d]? = some v ∧ R v w'

theorem Inv.put {m n : Nat} {full : Kn} {done done' : Nat → Prop} {a' : Act} {w' w'' : World} {i : Nat} {d : Tmp} {R : Pd} {v : Value} (hp : Pre E) (hR : RegOk ops m n)
    (hfull : ∀ i o, i < m → ops[i]? = some o → ∃ d R, full[i]? = some (d, R) ∧ o.dst = some d ∧ Stb E R) (hn : a.tmps.size = n)
    (h : Inv E ops m a W full done a' w') (hi : full[i]? = some (d, R)) (him : i < m) (hx : E w' w'') (hv : R v w'') (hdone : ∀ j, done' j → j = i ∨ done j) :
    Inv E ops m a W full done' (a'.put (some d) v) w'' := by
  have hoi : ∃ o, ops[i]? = some o := ⟨ops[i]'(by have := hR.le; omega), Array.getElem?_eq_getElem _⟩
  obtain ⟨o, ho⟩ := hoi
  obtain ⟨d', hd', hdn, hne⟩ := hR.dst i o him ho
  obtain ⟨d1, R1, h1, h2, h3⟩ := hfull i o him ho
  rw [hi] at h1
  obtain ⟨rfl, rfl⟩ := Prod.mk.inj (Option.some.inj h1)
  rw [hd'] at h2
  obtain rfl := Option.some.inj h2
  have hsz : d' < a'.tmps.size := by rw [h.outer.size, hn]; exact hdn
  refine ⟨⟨?_, ?_, ?_⟩, hp.trans h.ext hx, ?_⟩
  · simp [Act.put, h.outer.size]
  · simp [Act.put, h.outer.defers]
  · intro t ht
    have hne' : d' ≠ t := fun e => ht (by
      subst e
      exact List.mem_map.2 ⟨(d', R), List.mem_of_getElem? hi, rfl⟩)
    simp only [Act.put]
    rw [Array.getElem?_setIfInBounds_ne hne']
    exact h.outer.slot t ht
  · intro j e S hj hdj hfj
    by_cases hji : j = i
    · subst hji
      rw [hi] at hfj
      obtain ⟨rfl, rfl⟩ := Prod.mk.inj (Option.some.inj hfj)
      exact ⟨v, by simp [Act.put, hsz], hv⟩
    · obtain ⟨oj, hoj⟩ : ∃ o, ops[j]? = some o := ⟨ops[j]'(by have := hR.le; omega), Array.getElem?_eq_getElem _⟩
      obtain ⟨dj, Rj, hj1, hj2, hj3⟩ := hfull j oj hj hoj
      rw [hfj] at hj1
      obtain ⟨rfl, rfl⟩ := Prod.mk.inj (Option.some.inj hj1)
      have hde : d' ≠ e := fun he => hne j hj hji (by rw [hoj]; simp [hj2, he])
      obtain ⟨u, hu, hS⟩ := h.facts j e S hj ((hdone j hdj).resolve_left hji) hfj
      refine ⟨u, ?_, hj3 _ _ _ hx hS⟩
      simp only [Act.put]
      rw [Array.getElem?_setIfInBounds_ne hde]
      exact hu

theorem Inv.holds {m n : Nat} {full : Kn} {done : Nat → Prop} {a' : Act} {w' : World} {i : Nat} {o : Oper} (hR : RegOk ops m n)
    (hfull : ∀ i o, i < m → ops[i]? = some o → ∃ d R, full[i]? = some (d, R) ∧ o.dst = some d ∧ Stb E R)
    (h : Inv E ops m a W full done a' w') (him : i < m) (ho : ops[i]? = some o) (hdone : ∀ j, hasEdge o j = true → done j) :
    Kn.holds (full.take i) (o.looksAt ops) a' w' := by
  intro p hp ht
  obtain ⟨j, hj⟩ := List.getElem?_of_mem hp
  have hji : j < i := by
    rcases Nat.lt_or_ge j i with hlt | hge
    · exact hlt
    · rw [List.getElem?_take, if_neg (by omega)] at hj; cases hj
  rw [List.getElem?_take_of_lt hji] at hj
  obtain ⟨oj, hoj⟩ : ∃ o, ops[j]? = some o := ⟨ops[j]'(by have := hR.le; omega), Array.getElem?_eq_getElem _⟩
  obtain ⟨dj, Rj, hj1, hj2, hj3⟩ := hfull j oj (by omega) hoj
  rw [hj] at hj1
  obtain rfl := Option.some.inj hj1
  have he := hR.look i o j dj him ho hji (by rw [hoj]; simpa using hj2) ht
  exact h.facts j dj Rj (by omega) (hdone j he) hj

theorem wpAny_steps {m n : Nat} (hp : Pre E) (hR : RegOk ops m n) (hn : a.tmps.size = n) {full : Kn} (hlen : full.length = m)
    (hfull : ∀ i o, i < m → ops[i]? = some o → ∃ d R, full[i]? = some (d, R) ∧ o.dst = some d ∧ Stb E R)
    (howes : ∀ i o d R, i < m → ops[i]? = some o → full[i]? = some (d, R) → Owes P E ops a (full.map (·.1)) W (full.take i) o R)
    (hK : ∀ a' w', Outer a (full.map (·.1)) a' → E W w' → full.all a' w' → wpList P ops Q (ops.toList.drop m) a' w') :
    ∀ (fuel : Nat) (listed : Array Bool) (a' : Act) (w' : World), todo ops listed ≤ fuel → listed.size = ops.size →
      (∀ i, m ≤ i → i < ops.size → listed.getD i false = false) →
      Inv E ops m a W full (fun j => listed.getD j false = true) a' w' → wpAny P .any ops Q fuel listed a' w' := by
  intro fuel
  induction fuel with
  | zero =>
    intro listed a' w' hf hs ht hI
    by_cases hall : ∀ i, i < ops.size → listed.getD i false = true
    · have hm : m = ops.size := by
        rcases Nat.lt_or_ge m ops.size with hlt | hge
        · have h1 := ht m (Nat.le_refl _) hlt
          rw [hall m hlt] at h1; cases h1
        · have := hR.le; omega
      refine wpAny_tail hR 0 m listed a' w' (Nat.le_refl _) (by omega) hs (fun i hi => ⟨fun _ => by omega, fun _ => hall i hi⟩) ?_
      exact hK a' w' hI.outer hI.ext fun p hp' => by
        obtain ⟨j, hj⟩ := List.getElem?_of_mem hp'
        have hjm : j < m := by have := (List.getElem?_eq_some_iff.1 hj).1; omega
        exact hI.facts j p.1 p.2 hjm (hall j (by omega)) hj
    · exfalso
      apply hall
      intro i hi
      have h0 : todo ops listed = 0 := by omega
      unfold todo at h0
      rw [List.countP_eq_zero] at h0
      have := h0 i (List.mem_range.2 hi)
      simp [show i < listed.size by omega] at this ⊢
      exact this
  | succ fuel ih =>
    intro listed a' w' hf hs ht hI
    by_cases hall : ∀ i, i < m → listed.getD i false = true
    · -- the tail begins
      by_cases hz : ops.size - m ≤ fuel + 1
      · refine wpAny_tail hR (fuel + 1) m listed a' w' (Nat.le_refl _) hz hs (fun i hi => ⟨fun h => ?_, hall i⟩) ?_
        · rcases Nat.lt_or_ge i m with hlt | hge
          · exact hlt
          · rw [ht i hge hi] at h; cases h
        · exact hK a' w' hI.outer hI.ext fun p hp' => by
            obtain ⟨j, hj⟩ := List.getElem?_of_mem hp'
            have hjm : j < m := by have := (List.getElem?_eq_some_iff.1 hj).1; omega
            exact hI.facts j p.1 p.2 hjm (hall j hjm) hj
      · exfalso
        apply hz
        refine Nat.le_trans ?_ hf
        unfold todo
        have h1 : ((List.range ops.size).countP fun i => decide (m ≤ i)) ≤ (List.range ops.size).countP fun i => !listed.getD i true := by
          refine List.countP_mono_left fun i hi hmi => ?_
          have hi' := List.mem_range.1 hi
          have := ht i (by simpa using hmi) hi'
          simp [show i < listed.size by omega] at this ⊢
          exact this
        refine Nat.le_trans ?_ h1
        have h2 : ∀ k, k - m ≤ (List.range k).countP fun i => decide (m ≤ i) := by
          intro k
          induction k with
          | zero => simp
          | succ k ihk =>
            rw [List.range_succ, List.countP_append]
            by_cases hmk : m ≤ k
            · simp [hmk]; omega
            · omega
        exact h2 ops.size
    · refine ⟨?_, ?_⟩
      · intro hr
        exfalso
        -- the least that is not listed is ready
        have key : ∀ i, i < m → listed.getD i false = true := by
          intro i
          induction i using Nat.strongRecOn with
          | _ i ihi =>
            intro him
            cases hli : listed.getD i false with
            | true => rfl
            | false =>
              exfalso
              have hio : i < ops.size := by have := hR.le; omega
              have : i ∈ Region.ready .any ops listed := by
                rw [mem_ready]
                refine ⟨?_, ops[i], Array.getElem?_eq_getElem hio, fun e he hb => ?_⟩
                · simp [show i < listed.size by omega] at hli ⊢; exact hli
                · have := hR.down i ops[i] (Array.getElem?_eq_getElem hio) e he hb
                  exact ihi e.on this (by omega)
              rw [hr] at this; cases this
        exact hall key
      · intro i hi
        rw [mem_ready] at hi
        obtain ⟨h0, o, ho, hafter⟩ := hi
        have hlt : i < ops.size := (Array.getElem?_eq_some_iff.1 ho).1
        have him : i < m := by
          rcases Nat.lt_or_ge i m with hlt' | hge
          · exact hlt'
          · exfalso
            apply hall
            intro j hj
            have he := hR.tail i o j hge ho (by omega)
            unfold hasEdge at he
            rw [Array.any_eq_true'] at he
            obtain ⟨e, hmem, hb⟩ := he
            simp only [Bool.and_eq_true, beq_iff_eq] at hb
            have := hafter e hmem hb.1
            rw [hb.2] at this
            exact this
        obtain ⟨d, R, hfi, hdi, hst⟩ := hfull i o him ho
        have hdone : ∀ j, hasEdge o j = true → listed.getD j false = true := by
          intro j he
          unfold hasEdge at he
          rw [Array.any_eq_true'] at he
          obtain ⟨e, hmem, hb⟩ := he
          simp only [Bool.and_eq_true, beq_iff_eq] at hb
          have := hafter e hmem hb.1
          rw [hb.2] at this
          exact this
        have hh := hI.holds hR hfull him ho hdone
        have hrun := howes i o d R him ho hfi a' w' hI.outer hI.ext hh
        have hnext : ∀ v w'', E w' w'' → R v w'' → wpAny P .any ops Q fuel (listed.setIfInBounds i true) (a'.put o.dst v) w'' := by
          intro v w'' hx hv
          rw [hdi]
          refine ih _ _ _ (by have := todo_set (ops := ops) hs hlt (by simpa using h0); omega) (by simp [hs]) ?_ ?_
          · intro j hj hj'
            rw [getD_set_ne false (by omega)]
            exact ht j hj hj'
          · refine hI.put hp hR hfull hn hfi him hx hv ?_
            intro j hj
            by_cases hij : i = j
            · exact .inl hij.symm
            · rw [getD_set_ne false hij] at hj; exact .inr hj
        unfold wpOp
        rw [ho]
        simp only
        split
        · rename_i hw
          rw [if_pos hw] at hrun
          exact .inl (hrun.wp fun v w'' hvw => hnext v w'' hvw.1 hvw.2)
        · rename_i hw
          rw [if_neg hw] at hrun
          exact hnext undef w' (hp.refl _) hrun

theorem wpList_steps {m n : Nat} (hp : Pre E) (hR : RegOk ops m n) (hn : a.tmps.size = n) {full : Kn} (hlen : full.length = m)
    (hfull : ∀ i o, i < m → ops[i]? = some o → ∃ d R, full[i]? = some (d, R) ∧ o.dst = some d ∧ Stb E R)
    (howes : ∀ i o d R, i < m → ops[i]? = some o → full[i]? = some (d, R) → Owes P E ops a (full.map (·.1)) W (full.take i) o R)
    (hK : ∀ a' w', Outer a (full.map (·.1)) a' → E W w' → full.all a' w' → wpList P ops Q (ops.toList.drop m) a' w') :
    ∀ (k i : Nat) (a' : Act) (w' : World), i + k = m → Inv E ops m a W full (fun j => j < i) a' w' → wpList P ops Q (ops.toList.drop i) a' w' := by
  intro k
  induction k with
  | zero =>
    intro i a' w' hik hI
    have : i = m := by omega
    subst this
    exact hK a' w' hI.outer hI.ext fun p hp' => by
      obtain ⟨j, hj⟩ := List.getElem?_of_mem hp'
      have hjm : j < i := by have := (List.getElem?_eq_some_iff.1 hj).1; omega
      exact hI.facts j p.1 p.2 hjm hjm hj
  | succ k ih =>
    intro i a' w' hik hI
    have him : i < m := by omega
    have hlt : i < ops.size := by have := hR.le; omega
    obtain ⟨o, ho⟩ : ∃ o, ops[i]? = some o := ⟨ops[i], Array.getElem?_eq_getElem hlt⟩
    obtain ⟨d, R, hfi, hdi, hst⟩ := hfull i o him ho
    have hcons : ops.toList.drop i = o :: ops.toList.drop (i + 1) := by
      have hg : ops.toList[i]? = some o := by simpa using ho
      obtain ⟨hi', hge⟩ := List.getElem?_eq_some_iff.1 hg
      rw [List.drop_eq_getElem_cons hi', hge]
    have hh := hI.holds hR hfull him ho (fun j he => by
      unfold hasEdge at he
      rw [Array.any_eq_true'] at he
      obtain ⟨e, hmem, hb⟩ := he
      simp only [Bool.and_eq_true, beq_iff_eq] at hb
      have := hR.down i o ho e hmem hb.1
      omega)
    have hrun := howes i o d R him ho hfi a' w' hI.outer hI.ext hh
    have hnext : ∀ v w'', E w' w'' → R v w'' → wpList P ops Q (ops.toList.drop (i + 1)) (a'.put o.dst v) w'' := by
      intro v w'' hx hv
      rw [hdi]
      exact ih (i + 1) _ _ (by omega) (hI.put hp hR hfull hn hfi him hx hv fun j hj => by omega)
    rw [hcons]
    unfold wpList
    split
    · rename_i hw
      rw [if_pos hw] at hrun
      exact .inl (hrun.wp fun v w'' hvw => hnext v w'' hvw.1 hvw.2)
    · rename_i hw
      rw [if_neg hw] at hrun
      exact hnext undef w' (hp.refl _) hrun

/-- THE RULE: the first m operations of a region extend the world, in whatever order; the others follow in order. -/
theorem wp_steps {id : Nat} {draw : Bool} (hm : P.follows .mixedOrders = true) (m : Nat) {n : Nat} (hn : a.tmps.size = n) (hchk : regOk ops m n = true) (hp : Pre E)
    (h : Steps P E ops a (dstsOf (ops.toList.take m)) W
      (fun kn => ∀ a' w', Outer a (dstsOf (ops.toList.take m)) a' → E W w' → kn.all a' w' → wpList P ops Q (ops.toList.drop m) a' w') (ops.toList.take m) []) :
    (Code.region id ops draw).wp P Q a W := by
  have hR := regOk_spec hchk
  obtain ⟨full, hlen, _, hK, hall⟩ := Steps.list _ _ h
  have hlen' : full.length = m := by
    have := hR.le
    simp [hlen]; omega
  have hget : ∀ i o, i < m → ops[i]? = some o → (ops.toList.take m)[i]? = some o := fun i o hi ho => by
    rw [List.getElem?_take_of_lt hi]; simpa using ho
  have hds : dstsOf (ops.toList.take m) = full.map (·.1) := by
    apply List.ext_getElem?
    intro i
    have hsome : ∀ l : List Oper, ∀ f : Kn, l.length = f.length → (∀ (i : Nat) (o : Oper), l[i]? = some o → ∃ d R, f[i]? = some (d, R) ∧ o.dst = some d) → dstsOf l = f.map (·.1) := by
      intro l
      induction l with
      | nil => intro f hl _; cases f with | nil => rfl | cons => simp at hl
      | cons x l ih =>
        intro f hl hx
        cases f with
        | nil => simp at hl
        | cons y f =>
          obtain ⟨d, R, hd, hx'⟩ := hx 0 x rfl
          simp at hd; subst hd
          have := ih f (by simpa using hl) (fun i o ho => by simpa using hx (i + 1) o (by simpa using ho))
          simp [dstsOf, hx'] at this ⊢
          exact this
    rw [hsome _ full (by simp [hlen]) (fun i o ho => by
      obtain ⟨d, R, h1, h2, _, _⟩ := hall i o ho
      exact ⟨d, R, by simpa using h1, h2⟩)]
  rw [hds] at hK hall
  have hfull : ∀ i o, i < m → ops[i]? = some o → ∃ d R, full[i]? = some (d, R) ∧ o.dst = some d ∧ Stb E R := fun i o hi ho => by
    obtain ⟨d, R, h1, h2, h3, _⟩ := hall i o (hget i o hi ho)
    exact ⟨d, R, by simpa using h1, h2, h3⟩
  have howes : ∀ i o d R, i < m → ops[i]? = some o → full[i]? = some (d, R) → Owes P E ops a (full.map (·.1)) W (full.take i) o R := fun i o d R hi ho hf => by
    obtain ⟨d', R', h1, h2, h3, h4⟩ := hall i o (hget i o hi ho)
    simp only [List.length_nil, Nat.zero_add] at h1 h4
    rw [hf] at h1
    obtain ⟨rfl, rfl⟩ := Prod.mk.inj (Option.some.inj h1)
    exact h4
  cases draw with
  | false =>
    refine wp_region_list ?_
    have := wpList_steps (Q := Q) hp hR hn hlen' hfull howes hK m 0 a W (by omega) ⟨⟨rfl, rfl, fun _ _ => rfl⟩, hp.refl _, fun j d R _ hj => by omega⟩
    simpa using this
  | true =>
    refine wp_region_any hm ?_
    refine wpAny_steps hp hR hn hlen' hfull howes hK _ _ _ _ ?_ (by simp) ?_ ⟨⟨rfl, rfl, fun _ _ => rfl⟩, hp.drew _, ?_⟩
    · unfold todo
      exact Nat.le_trans (List.countP_le_length) (by simp)
    · intro i _ hi
      simp [hi]
    · intro j d R hj hd _
      have : j < ops.size := by have := hR.le; omega
      simp [this] at hd
end
end Go.Proofs.YteaggpgdfiodfaaGreatDoor
