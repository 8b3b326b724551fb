/-
  Regions with a ghost: the operations of a drawn region extend a world and a ghost beside it, in whatever order; the tail (all before it, by edges one after another) follows in order. Conditions: 'regOk2' of the operations.
-/
import Derived.Test.YteaggpgdfiodfaaGreatDoorReg
namespace Go.Proofs.YteaggpgdfiodfaaGreatDoor
set_option linter.all false
open Go.RowKit

abbrev Pd2 (G : Type) := Value → G × World → Prop
abbrev Kn2 (G : Type) := List (Tmp × Pd2 G)

/-! the order of a region -/
def edgeOns (o : Oper) : List Nat := (o.after.toList.filter fun e => Region.binds .any e).map (·.on)
theorem mem_edgeOns {o : Oper} {k : Nat} : k ∈ edgeOns o ↔ ∃ e ∈ o.after, Region.binds .any e = true ∧ e.on = k := by
  unfold edgeOns
  simp only [List.mem_map, List.mem_filter, Array.mem_toList_iff]
  constructor
  · rintro ⟨e, ⟨h1, h2⟩, h3⟩; exact ⟨e, h1, h2, h3⟩
  · rintro ⟨e, h1, h2, h3⟩; exact ⟨e, ⟨h1, h2⟩, h3⟩
def maskOf (M : List Nat) : List Nat → Nat
  | [] => 0
  | k :: r => 2 ^ k ||| M.getD k 0 ||| maskOf M r
theorem mem_maskOf {M : List Nat} {j : Nat} : ∀ l, (maskOf M l).testBit j = true → ∃ k ∈ l, k = j ∨ (M.getD k 0).testBit j = true := by
  intro l
  induction l with
  | nil => intro h; simp [maskOf] at h
  | cons k r ih =>
    intro h
    simp only [maskOf, Nat.testBit_or, Bool.or_eq_true, Nat.testBit_two_pow, decide_eq_true_eq] at h
    rcases h with (h | h) | h
    · exact ⟨k, List.mem_cons_self, .inl h⟩
    · exact ⟨k, List.mem_cons_self, .inr h⟩
    · obtain ⟨k', h1, h2⟩ := ih h
      exact ⟨k', List.mem_cons_of_mem _ h1, h2⟩
def masksL : List Oper → List Nat → List Nat
  | [], acc => acc
  | o :: rest, acc => masksL rest (acc ++ [maskOf acc (edgeOns o)])

/-- the least m of which the tail from m on waits for all before it -/
def tailFrom (M : List Nat) : Nat → Nat
  | 0 => 0
  | k + 1 => if (List.range k).all (fun j => (M.getD k 0).testBit j) then tailFrom M k else k + 1

def regOk2 (ops : Array Oper) (m n : Nat) : Bool :=
  let M := masksL ops.toList []
  decide (m ≤ ops.size) &&
  (List.range ops.size).all fun i =>
    match ops[i]? with
    | none => true
    | some o =>
      (edgeOns o).all (fun k => decide (k < i)) && (M.getD i 0 == maskOf M (edgeOns o)) &&
      (if i < m then
        (match o.dst with
         | none => false
         | some d => decide (d < n) && (List.range m).all fun j => j == i || (ops[j]?).bind (·.dst) != some d) &&
        (List.range i).all fun j => match (ops[j]?).bind (·.dst) with
          | none => true
          | some d => !(o.looksAt ops).contains d || (edgeOns o).contains j
       else (List.range i).all fun j => (M.getD i 0).testBit j)

structure RegOk2 (ops : Array Oper) (m n : Nat) : Prop where
  le : m ≤ ops.size
  down : ∀ i o, ops[i]? = some o → ∀ k ∈ edgeOns o, k < i
  dst : ∀ i o, i < m → ops[i]? = some o → ∃ d, o.dst = some d ∧ d < n ∧ ∀ j, j < m → j ≠ i → (ops[j]?).bind (·.dst) ≠ some d
  look : ∀ i o j d, i < m → ops[i]? = some o → j < i → (ops[j]?).bind (·.dst) = some d → d ∈ o.looksAt ops → j ∈ edgeOns o
  tail : ∀ i o j (D : Nat → Prop), m ≤ i → ops[i]? = some o → j < i → (∀ k o', ops[k]? = some o' → D k → ∀ x ∈ edgeOns o', D x) → (∀ x ∈ edgeOns o, D x) → D j

structure RegT (ops : Array Oper) (m : Nat) : Prop where
  le : m ≤ ops.size
  down : ∀ (i : Nat) (o : Oper), ops[i]? = some o → ∀ k ∈ edgeOns o, k < i
  tail : ∀ (i : Nat) (o : Oper) (j : Nat) (D : Nat → Prop), m ≤ i → ops[i]? = some o → j < i → (∀ (k : Nat) (o' : Oper), ops[k]? = some o' → D k → ∀ x ∈ edgeOns o', D x) → (∀ x ∈ edgeOns o, D x) → D j
theorem RegOk2.toT {ops : Array Oper} {m n : Nat} (h : RegOk2 ops m n) : RegT ops m := ⟨h.le, h.down, h.tail⟩

/-- as 'regOk2', of operations before m nothing but their edges -/
def regT (ops : Array Oper) (m : Nat) : Bool :=
  let M := masksL ops.toList []
  decide (m ≤ ops.size) &&
  (List.range ops.size).all fun i =>
    match ops[i]? with
    | none => true
    | some o => (edgeOns o).all (fun k => decide (k < i)) && (M.getD i 0 == maskOf M (edgeOns o)) && (if i < m then true else (List.range i).all fun j => (M.getD i 0).testBit j)
theorem regT_spec {ops : Array Oper} {m : Nat} (h : regT ops m = true) : RegT ops m ∧ ∀ (i : Nat) (o : Oper) (j : Nat) (D : Nat → Prop), ops[i]? = some o → ((masksL ops.toList []).getD i 0).testBit j = true → (∀ (k : Nat) (o' : Oper), ops[k]? = some o' → D k → ∀ x ∈ edgeOns o', D x) → (∀ x ∈ edgeOns o, D x) → D j := by
  unfold regT at h
  simp only [Bool.and_eq_true, decide_eq_true_eq, List.all_eq_true, List.mem_range] at h
  obtain ⟨h0, h⟩ := h
  have hh : ∀ i o, ops[i]? = some o → _ := fun i o ho => by
    have hi : i < ops.size := (Array.getElem?_eq_some_iff.1 ho).1
    have := h i hi
    rw [ho] at this
    simp only [Bool.and_eq_true, List.all_eq_true, decide_eq_true_eq, beq_iff_eq] at this
    exact this
  have hdown : ∀ (i : Nat) (o : Oper), ops[i]? = some o → ∀ k ∈ edgeOns o, k < i := fun i o ho => (hh i o ho).1.1
  generalize masksL ops.toList [] = M at hh ⊢
  have hbits : ∀ (i : Nat) (o : Oper) (j : Nat) (D : Nat → Prop), ops[i]? = some o → (M.getD i 0).testBit j = true → (∀ (k : Nat) (o' : Oper), ops[k]? = some o' → D k → ∀ x ∈ edgeOns o', D x) → (∀ x ∈ edgeOns o, D x) → D j := by
    intro i
    induction i using Nat.strongRecOn with
    | _ i ih =>
      intro o j D ho hj hD hx
      rw [(hh i o ho).1.2] at hj
      obtain ⟨k, hk, hkj⟩ := mem_maskOf _ hj
      rcases hkj with rfl | hkj
      · exact hx _ hk
      · have hki := hdown i o ho k hk
        have hi : i < ops.size := (Array.getElem?_eq_some_iff.1 ho).1
        have hko : ops[k]? = some ops[k] := Array.getElem?_eq_getElem (by omega)
        exact ih k hki ops[k] j D hko hkj hD (hD k _ hko (hx k hk))
  refine ⟨⟨h0, hdown, ?_⟩, hbits⟩
  intro i o j D hi ho hj hD hx
  have := (hh i o ho).2
  simp only [show ¬ i < m by omega, if_false, List.all_eq_true, List.mem_range] at this
  exact hbits i o j D ho (this j hj) hD hx

theorem regOk2_spec {ops : Array Oper} {m n : Nat} (h : regOk2 ops m n = true) : RegOk2 ops m n := by
  unfold regOk2 at h
  simp only [Bool.and_eq_true, decide_eq_true_eq, List.all_eq_true, List.mem_range] at h
  obtain ⟨h0, h⟩ := h
  have hh : ∀ i o, ops[i]? = some o → _ := fun i o ho => by
    have hi : i < ops.size := (Array.getElem?_eq_some_iff.1 ho).1
    have := h i hi
    rw [ho] at this
    simp only [Bool.and_eq_true, List.all_eq_true, decide_eq_true_eq, beq_iff_eq] at this
    exact this
  have hdown : ∀ i o, ops[i]? = some o → ∀ k ∈ edgeOns o, k < i := fun i o ho => (hh i o ho).1.1
  generalize hM : masksL ops.toList [] = M at hh
  have hbits : ∀ i o j (D : Nat → Prop), ops[i]? = some o → (M.getD i 0).testBit j = true → (∀ k o', ops[k]? = some o' → D k → ∀ x ∈ edgeOns o', D x) → (∀ x ∈ edgeOns o, D x) → D j := by
    intro i
    induction i using Nat.strongRecOn with
    | _ i ih =>
      intro o j D ho hj hD hx
      rw [(hh i o ho).1.2] at hj
      obtain ⟨k, hk, hkj⟩ := mem_maskOf _ hj
      rcases hkj with rfl | hkj
      · exact hx _ hk
      · have hki := hdown i o ho k hk
        have hi : i < ops.size := (Array.getElem?_eq_some_iff.1 ho).1
        have hko : ops[k]? = some ops[k] := Array.getElem?_eq_getElem (by omega)
        exact ih k hki ops[k] j D hko hkj hD (hD k _ hko (hx k hk))
  refine ⟨h0, hdown, ?_, ?_, ?_⟩
  · intro i o hi ho
    have := (hh i o ho).2
    simp only [hi, if_true, Bool.and_eq_true] at this
    obtain ⟨h1, _⟩ := this
    cases hd : o.dst with
    | none => simp [hd] at h1
    | some d =>
      simp only [hd, Bool.and_eq_true, decide_eq_true_eq, List.all_eq_true, List.mem_range, Bool.or_eq_true, beq_iff_eq, bne_iff_ne] at h1
      exact ⟨d, rfl, h1.1, fun j hj hne => (h1.2 j hj).resolve_left hne⟩
  · intro i o j d hi ho hj hd hl
    have := (hh i o ho).2
    simp only [hi, if_true, Bool.and_eq_true, List.all_eq_true, List.mem_range] at this
    have := this.2 j hj
    simp only [hd] at this
    simpa [hl] using this
  · intro i o j D hi ho hj hD hx
    have := (hh i o ho).2
    simp only [show ¬ i < m by omega, if_false, List.all_eq_true, List.mem_range] at this
    exact hbits i o j D ho (this j hj) hD hx

section
variable {G : Type}
def Kn2.holds (kn : Kn2 G) (ts : List Tmp) (a : Act) (w : G × World) : Prop := ∀ p ∈ kn, p.1 ∈ ts → ∃ v, a.tmps[p.1]? = some v ∧ p.2 v w
def Kn2.all (kn : Kn2 G) (a : Act) (w : G × World) : Prop := ∀ p ∈ kn, ∃ v, a.tmps[p.1]? = some v ∧ p.2 v w
structure Pre2 (E : G × World → G × World → Prop) : Prop where
  trans : ∀ {a b c}, E a b → E b c → E a c
  refl : ∀ a, E a a
  drew : ∀ a : G × World, E a (a.1, { a.2 with drawn := a.2.drawn + 1 })
def Stb2 (E : G × World → G × World → Prop) (R : Pd2 G) : Prop := ∀ v w w', E w w' → R v w → R v w'

/-- what operation i owes, when the operations before it have known facts kn -/
def Owes2 (P : Program) (E : G × World → G × World → Prop) (Fs : Nat → G → Prop) (ops : Array Oper) (a : Act) (ds : List Tmp) (W : G × World) (kn : Kn2 G) (i : Nat) (o : Oper) (R : Pd2 G) : Prop :=
  ∀ a' w', Outer a ds a' → E W w' → Fs i w'.1 → kn.holds (o.looksAt ops) a' w' →
    if Region.wanted o (yielded ops a'.tmps) then Runs P o a'.eval w'.2 (fun v w'' => ∃ γ, E w' (γ, w'') ∧ (∀ k, k ≠ i → Fs k w'.1 → Fs k γ) ∧ R v (γ, w'')) else R undef w'

variable {P : Program} {E : G × World → G × World → Prop} {Fs : Nat → G → Prop} {ops : Array Oper} {a : Act} {W : G × World} {Q : Exit → Act → World → Prop}

/-- the tail: each operation waits for all before it -/
theorem wpAny_tail2 {m : Nat} (hR : RegT ops m) : ∀ (fuel t : Nat) (listed : Array Bool) (a : Act) (w : World), m ≤ t → ops.size - t ≤ fuel → listed.size = ops.size →
    (∀ i, i < ops.size → (listed.getD i false = true ↔ i < t)) → wpList P ops Q (ops.toList.drop t) a w → wpAny P .any ops Q fuel listed a w := by
  intro fuel
  induction fuel with
  | zero =>
    intro t listed a w hm hf hs hl h
    have ht : ops.toList.length ≤ t := by simp; omega
    rw [List.drop_eq_nil_of_le ht] at h
    refine ⟨?_, h⟩
    rw [List.eq_nil_iff_forall_not_mem]
    intro i hi
    rw [mem_ready] at hi
    obtain ⟨h0, o, ho, _⟩ := hi
    have hlt : i < ops.size := (Array.getElem?_eq_some_iff.1 ho).1
    have := (hl i hlt).2 (by omega)
    simp [show i < listed.size by omega] at h0 this
    simp [h0] at this
  | succ fuel ih =>
    intro t listed a w hm hf hs hl h
    refine ⟨?_, ?_⟩
    · intro hr
      by_cases ht : t < ops.size
      · exfalso
        have : t ∈ Region.ready .any ops listed := by
          rw [mem_ready]
          refine ⟨?_, ops[t], Array.getElem?_eq_getElem ht, fun e he hb => ?_⟩
          · have h1 := hl t ht
            simp [show t < listed.size by omega] at h1 ⊢
            exact h1
          · have h2 := hR.down t ops[t] (Array.getElem?_eq_getElem ht) e.on (mem_edgeOns.2 ⟨e, he, hb, rfl⟩)
            exact (hl e.on (by omega)).2 h2
        rw [hr] at this; cases this
      · rw [List.drop_eq_nil_of_le (by simp; omega)] at h
        exact h
    · intro i hi
      rw [mem_ready] at hi
      obtain ⟨h0, o, ho, hall⟩ := hi
      have hlt : i < ops.size := (Array.getElem?_eq_some_iff.1 ho).1
      have hnot : ¬ i < t := fun hit => by
        have := (hl i hlt).2 hit
        simp [show i < listed.size by omega] at h0 this
        simp [h0] at this
      have hit : i = t := by
        rcases Nat.lt_or_ge t i with hti | hti
        · exfalso
          have hx : ∀ x ∈ edgeOns o, x < t := fun x hx => by
            have hxi := hR.down i o ho x hx
            obtain ⟨e, he, hb, rfl⟩ := mem_edgeOns.1 hx
            exact (hl e.on (by omega)).1 (hall e he hb)
          have := hR.tail i o t (fun j => j < t) (by omega) ho hti (fun k o' hk hkt x hx => Nat.lt_trans (hR.down k o' hk x hx) hkt) hx
          omega
        · omega
      subst hit
      have hcons : ops.toList.drop i = o :: ops.toList.drop (i + 1) := by
        have hg : ops.toList[i]? = some o := by simpa using ho
        obtain ⟨hi', hge⟩ := List.getElem?_eq_some_iff.1 hg
        rw [List.drop_eq_getElem_cons hi', hge]
      rw [hcons] at h
      unfold wpOp
      rw [ho]
      simp only
      unfold wpList at h
      have hnext : ∀ a w, wpList P ops Q (ops.toList.drop (i + 1)) a w → wpAny P .any ops Q fuel (listed.setIfInBounds i true) a w := fun a w hh => by
        refine ih (i + 1) _ a w (by omega) (by omega) (by simp [hs]) (fun j hj => ?_) hh
        by_cases hij : i = j
        · subst hij; simp [show i < listed.size by omega]
        · rw [getD_set_ne false hij, hl j hj]; omega
      split
      · rename_i hw
        rw [if_pos hw] at h
        exact h.imp (Oper.wp_mono hnext) id
      · rename_i hw
        rw [if_neg hw] at h
        exact hnext _ _ h

/-- the invariant of the first part -/
structure Inv2 (E : G × World → G × World → Prop) (Fs : Nat → G → Prop) (ops : Array Oper) (m : Nat) (a : Act) (W : G × World) (full : Kn2 G) (done : Nat → Prop) (a' : Act) (w' : G × World) : Prop where
  outer : Outer a (full.map (·.1)) a'
  ext : E W w'
  free : ∀ j, ¬ done j → Fs j w'.1
  facts : ∀ j d R, j < m → done j → full[j]? = some (d, R) → ∃ v, a'.tmps[d]? = some v ∧ R v w'

theorem Inv2.put {m n : Nat} {full : Kn2 G} {done done' : Nat → Prop} {a' : Act} {w' w'' : G × World} {i : Nat} {d : Tmp} {R : Pd2 G} {v : Value} (hp : Pre2 E) (hR : RegOk2 ops m n)
    (hfull : ∀ i o, i < m → ops[i]? = some o → ∃ d R, full[i]? = some (d, R) ∧ o.dst = some d ∧ Stb2 E R) (hn : a.tmps.size = n)
    (h : Inv2 E Fs ops m a W full done a' w') (hi : full[i]? = some (d, R)) (him : i < m) (hx : E w' w'') (hfr : ∀ k, k ≠ i → Fs k w'.1 → Fs k w''.1) (hv : R v w'') (hdone : ∀ j, done' j → j = i ∨ done j) (hnot : ∀ j, ¬ done' j → j ≠ i ∧ ¬ done j) :
    Inv2 E Fs ops m a W full done' (a'.put (some d) v) w'' := by
  have hoi : ∃ o, ops[i]? = some o := ⟨ops[i]'(by have := hR.le; omega), Array.getElem?_eq_getElem _⟩
  obtain ⟨o, ho⟩ := hoi
  obtain ⟨d', hd', hdn, hne⟩ := hR.dst i o him ho
  obtain ⟨d1, R1, h1, h2, h3⟩ := hfull i o him ho
  rw [hi] at h1
  obtain ⟨rfl, rfl⟩ := Prod.mk.inj (Option.some.inj h1)
  rw [hd'] at h2
  obtain rfl := Option.some.inj h2
  have hsz : d' < a'.tmps.size := by rw [h.outer.size, hn]; exact hdn
  refine ⟨⟨?_, ?_, ?_⟩, hp.trans h.ext hx, fun j hj => hfr j (hnot j hj).1 (h.free j (hnot j hj).2), ?_⟩
  · simp [Act.put, h.outer.size]
  · simp [Act.put, h.outer.defers]
  · intro t ht
    have hne' : d' ≠ t := fun e => ht (by
      subst e
      exact List.mem_map.2 ⟨(d', R), List.mem_of_getElem? hi, rfl⟩)
    simp only [Act.put]
    rw [Array.getElem?_setIfInBounds_ne hne']
    exact h.outer.slot t ht
  · intro j e S hj hdj hfj
    by_cases hji : j = i
    · subst hji
      rw [hi] at hfj
      obtain ⟨rfl, rfl⟩ := Prod.mk.inj (Option.some.inj hfj)
      exact ⟨v, by simp [Act.put, hsz], hv⟩
    · obtain ⟨oj, hoj⟩ : ∃ o, ops[j]? = some o := ⟨ops[j]'(by have := hR.le; omega), Array.getElem?_eq_getElem _⟩
      obtain ⟨dj, Rj, hj1, hj2, hj3⟩ := hfull j oj hj hoj
      rw [hfj] at hj1
      obtain ⟨rfl, rfl⟩ := Prod.mk.inj (Option.some.inj hj1)
      have hde : d' ≠ e := fun he => hne j hj hji (by rw [hoj]; simp [hj2, he])
      obtain ⟨u, hu, hS⟩ := h.facts j e S hj ((hdone j hdj).resolve_left hji) hfj
      refine ⟨u, ?_, hj3 _ _ _ hx hS⟩
      simp only [Act.put]
      rw [Array.getElem?_setIfInBounds_ne hde]
      exact hu

theorem Inv2.holds {m n : Nat} {full : Kn2 G} {done : Nat → Prop} {a' : Act} {w' : G × World} {i : Nat} {o : Oper} (hR : RegOk2 ops m n)
    (hfull : ∀ i o, i < m → ops[i]? = some o → ∃ d R, full[i]? = some (d, R) ∧ o.dst = some d ∧ Stb2 E R)
    (h : Inv2 E Fs ops m a W full done a' w') (him : i < m) (ho : ops[i]? = some o) (hdone : ∀ j ∈ edgeOns o, done j) :
    Kn2.holds (full.take i) (o.looksAt ops) a' w' := by
  intro p hp ht
  obtain ⟨j, hj⟩ := List.getElem?_of_mem hp
  have hji : j < i := by
    rcases Nat.lt_or_ge j i with hlt | hge
    · exact hlt
    · rw [List.getElem?_take, if_neg (by omega)] at hj; cases hj
  rw [List.getElem?_take_of_lt hji] at hj
  obtain ⟨oj, hoj⟩ : ∃ o, ops[j]? = some o := ⟨ops[j]'(by have := hR.le; omega), Array.getElem?_eq_getElem _⟩
  obtain ⟨dj, Rj, hj1, hj2, hj3⟩ := hfull j oj (by omega) hoj
  rw [hj] at hj1
  obtain rfl := Option.some.inj hj1
  have he := hR.look i o j dj him ho hji (by rw [hoj]; simpa using hj2) ht
  exact h.facts j dj Rj (by omega) (hdone j he) hj

theorem wpAny_steps2 {m n : Nat} (hp : Pre2 E) (hR : RegOk2 ops m n) (hn : a.tmps.size = n) {full : Kn2 G} (hlen : full.length = m)
    (hfull : ∀ i o, i < m → ops[i]? = some o → ∃ d R, full[i]? = some (d, R) ∧ o.dst = some d ∧ Stb2 E R)
    (howes : ∀ i o d R, i < m → ops[i]? = some o → full[i]? = some (d, R) → Owes2 P E Fs ops a (full.map (·.1)) W (full.take i) i o R)
    (hK : ∀ a' w', Outer a (full.map (·.1)) a' → E W w' → full.all a' w' → wpList P ops Q (ops.toList.drop m) a' w'.2) :
    ∀ (fuel : Nat) (listed : Array Bool) (a' : Act) (w' : G × World), todo ops listed ≤ fuel → listed.size = ops.size →
      (∀ i, m ≤ i → i < ops.size → listed.getD i false = false) →
      (∀ k o, ops[k]? = some o → listed.getD k false = true → ∀ x ∈ edgeOns o, listed.getD x false = true) →
      Inv2 E Fs ops m a W full (fun j => listed.getD j false = true) a' w' → wpAny P .any ops Q fuel listed a' w'.2 := by
  intro fuel
  induction fuel with
  | zero =>
    intro listed a' w' hf hs ht hcl hI
    by_cases hall : ∀ i, i < ops.size → listed.getD i false = true
    · have hm : m = ops.size := by
        rcases Nat.lt_or_ge m ops.size with hlt | hge
        · have h1 := ht m (Nat.le_refl _) hlt
          rw [hall m hlt] at h1; cases h1
        · have := hR.le; omega
      refine wpAny_tail2 hR.toT 0 m listed a' w'.2 (Nat.le_refl _) (by omega) hs (fun i hi => ⟨fun _ => by omega, fun _ => hall i hi⟩) ?_
      exact hK a' w' hI.outer hI.ext fun p hp' => by
        obtain ⟨j, hj⟩ := List.getElem?_of_mem hp'
        have hjm : j < m := by have := (List.getElem?_eq_some_iff.1 hj).1; omega
        exact hI.facts j p.1 p.2 hjm (hall j (by omega)) hj
    · exfalso
      apply hall
      intro i hi
      have h0 : todo ops listed = 0 := by omega
      unfold todo at h0
      rw [List.countP_eq_zero] at h0
      have := h0 i (List.mem_range.2 hi)
      simp [show i < listed.size by omega] at this ⊢
      exact this
  | succ fuel ih =>
    intro listed a' w' hf hs ht hcl hI
    by_cases hall : ∀ i, i < m → listed.getD i false = true
    · -- the tail begins
      by_cases hz : ops.size - m ≤ fuel + 1
      · refine wpAny_tail2 hR.toT (fuel + 1) m listed a' w'.2 (Nat.le_refl _) hz hs (fun i hi => ⟨fun h => ?_, hall i⟩) ?_
        · rcases Nat.lt_or_ge i m with hlt | hge
          · exact hlt
          · rw [ht i hge hi] at h; cases h
        · exact hK a' w' hI.outer hI.ext fun p hp' => by
            obtain ⟨j, hj⟩ := List.getElem?_of_mem hp'
            have hjm : j < m := by have := (List.getElem?_eq_some_iff.1 hj).1; omega
            exact hI.facts j p.1 p.2 hjm (hall j hjm) hj
      · exfalso
        apply hz
        refine Nat.le_trans ?_ hf
        unfold todo
        have h1 : ((List.range ops.size).countP fun i => decide (m ≤ i)) ≤ (List.range ops.size).countP fun i => !listed.getD i true := by
          refine List.countP_mono_left fun i hi hmi => ?_
          have hi' := List.mem_range.1 hi
          have := ht i (by simpa using hmi) hi'
          simp [show i < listed.size by omega] at this ⊢
          exact this
        refine Nat.le_trans ?_ h1
        have h2 : ∀ k, k - m ≤ (List.range k).countP fun i => decide (m ≤ i) := by
          intro k
          induction k with
          | zero => simp
          | succ k ihk =>
            rw [List.range_succ, List.countP_append]
            by_cases hmk : m ≤ k
            · simp [hmk]; omega
            · omega
        exact h2 ops.size
    · refine ⟨?_, ?_⟩
      · intro hr
        exfalso
        have key : ∀ i, i < m → listed.getD i false = true := by
          intro i
          induction i using Nat.strongRecOn with
          | _ i ihi =>
            intro him
            cases hli : listed.getD i false with
            | true => rfl
            | false =>
              exfalso
              have hio : i < ops.size := by have := hR.le; omega
              have : i ∈ Region.ready .any ops listed := by
                rw [mem_ready]
                refine ⟨?_, ops[i], Array.getElem?_eq_getElem hio, fun e he hb => ?_⟩
                · simp [show i < listed.size by omega] at hli ⊢; exact hli
                · have := hR.down i ops[i] (Array.getElem?_eq_getElem hio) e.on (mem_edgeOns.2 ⟨e, he, hb, rfl⟩)
                  exact ihi e.on this (by omega)
              rw [hr] at this; cases this
        exact hall key
      · intro i hi
        rw [mem_ready] at hi
        obtain ⟨h0, o, ho, hafter⟩ := hi
        have hlt : i < ops.size := (Array.getElem?_eq_some_iff.1 ho).1
        have hdone : ∀ j ∈ edgeOns o, listed.getD j false = true := by
          intro j he
          obtain ⟨e, hmem, hb, rfl⟩ := mem_edgeOns.1 he
          exact hafter e hmem hb
        have him : i < m := by
          rcases Nat.lt_or_ge i m with hlt' | hge
          · exact hlt'
          · exfalso
            apply hall
            intro j hj
            exact hR.tail i o j (fun j => listed.getD j false = true) hge ho (by omega) hcl hdone
        obtain ⟨d, R, hfi, hdi, hst⟩ := hfull i o him ho
        have hh := hI.holds hR hfull him ho hdone
        have hnd : ¬ listed.getD i false = true := by
          simp [show i < listed.size by omega] at h0 ⊢
          exact h0
        have hrun := howes i o d R him ho hfi a' w' hI.outer hI.ext (hI.free i hnd) hh
        have hnext : ∀ v (w'' : G × World), E w' w'' → (∀ k, k ≠ i → Fs k w'.1 → Fs k w''.1) → R v w'' → wpAny P .any ops Q fuel (listed.setIfInBounds i true) (a'.put o.dst v) w''.2 := by
          intro v w'' hx hfr hv
          rw [hdi]
          have hset : ∀ j, (listed.setIfInBounds i true).getD j false = true ↔ j = i ∨ listed.getD j false = true := by
            intro j
            by_cases hij : i = j
            · subst hij; simp [show i < listed.size by omega]
            · rw [getD_set_ne false hij]
              exact ⟨.inr, fun h => h.resolve_left (fun e => hij e.symm)⟩
          refine ih _ _ _ (by have := todo_set (ops := ops) hs hlt (by simpa using h0); omega) (by simp [hs]) ?_ ?_ ?_
          · intro j hj hj'
            rw [getD_set_ne false (by omega)]
            exact ht j hj hj'
          · intro k o' hk hl x hx'
            rw [hset] at hl ⊢
            rcases hl with rfl | hl
            · rw [ho] at hk; cases hk
              exact .inr (hdone x hx')
            · exact .inr (hcl k o' hk hl x hx')
          · refine hI.put hp hR hfull hn hfi him hx hfr hv ?_ ?_
            · intro j hj; exact (hset j).1 hj
            · intro j hj
              rw [hset] at hj
              exact ⟨fun e => hj (.inl e), fun e => hj (.inr e)⟩
        unfold wpOp
        rw [ho]
        simp only
        split
        · rename_i hw
          rw [if_pos hw] at hrun
          exact .inl (hrun.wp fun v w'' hvw => by
            obtain ⟨γ, h1, h2, h3⟩ := hvw
            exact hnext v (γ, w'') h1 h2 h3)
        · rename_i hw
          rw [if_neg hw] at hrun
          exact hnext undef w' (hp.refl _) (fun _ _ h => h) hrun

/-- THE RULE: the first m operations of a drawn region extend world and ghost, in whatever order; the others follow in order. -/
theorem wp_steps2 {id : Nat} (hm : P.follows .mixedOrders = true) {m n : Nat} (hn : a.tmps.size = n) (hR : RegOk2 ops m n) (hp : Pre2 E) {full : Kn2 G} (hlen : full.length = m)
    (hfull : ∀ i o, i < m → ops[i]? = some o → ∃ d R, full[i]? = some (d, R) ∧ o.dst = some d ∧ Stb2 E R)
    (howes : ∀ i o d R, i < m → ops[i]? = some o → full[i]? = some (d, R) → Owes2 P E Fs ops a (full.map (·.1)) W (full.take i) i o R)
    (hfree : ∀ i, Fs i W.1)
    (hK : ∀ a' w', Outer a (full.map (·.1)) a' → E W w' → full.all a' w' → wpList P ops Q (ops.toList.drop m) a' w'.2) :
    (Code.region id ops true).wp P Q a W.2 := by
  refine wp_region_any hm ?_
  refine wpAny_steps2 (w' := (W.1, { W.2 with drawn := W.2.drawn + 1 })) hp hR hn hlen hfull howes hK _ _ _ ?_ (by simp) ?_ ?_ ⟨⟨rfl, rfl, fun _ _ => rfl⟩, hp.drew _, fun j _ => hfree j, ?_⟩
  · unfold todo
    exact Nat.le_trans (List.countP_le_length) (by simp)
  · intro i _ hi
    simp [hi]
  · intro k o hk hl
    have : k < ops.size := (Array.getElem?_eq_some_iff.1 hk).1
    simp [this] at hl
  · intro j d R hj hd _
    have : j < ops.size := by have := hR.le; omega
    simp [this] at hd
end
end Go.Proofs.YteaggpgdfiodfaaGreatDoor
