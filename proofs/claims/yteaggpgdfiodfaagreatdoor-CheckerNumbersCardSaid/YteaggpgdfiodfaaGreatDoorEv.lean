/-
  An evaluator of the program's code over abstract values (definitions), and what an abstract value denotes. Nothing of the program but one type's number. The evaluator's heap beside the program's: what holds between them, and how it goes on. Conditions: each lemma's premises. What operations come to over abstract values, one kind after another. Conditions: each lemma's premises. What operations that build, write, cut and append come to over abstract values. Conditions: each lemma's premises. More operations over abstract values: new variables, stores, slices made, cut and appended to, functions made. Conditions: each lemma's premises.
-/
import Derived.Test.YteaggpgdfiodfaaGreatDoorGReg
import Derived.Test.YteaggpgdfiodfaaGreatDoorRat
import Derived.Laws.AppendOwn
namespace Go.Proofs.YteaggpgdfiodfaaGreatDoor
set_option linter.all false
open Go.RowKit

section

/-- one value that is named from outside -/
class Rho where
  v : Value
  one : v.oneCell' = true

/-- cells, or sequences of cells: 'int n k': an integer, less than 2^(32 k); 'den': the integer 0 or 1; 'lim': a slice of digits; 'sym': the value named from outside; 'sl'/'fp': memory that nobody writes any more; 'osl'/'ptr': into block b of the evaluator's heap -/
inductive AV where
  | nil
  | cons (a r : AV)
  | sc (v : Value)
  | int (n : Int) (k : Nat)
  | den
  | sym
  | lim (l : List Nat)
  | sl (es : AV) (n : Nat)
  | osl (gr : Bool) (b off n : Nat)
  | ptr (b off : Nat)
  | fp (es : AV)
  | fn (f : Nat) (caps : AV)
  | any

/-- values of slots -/
inductive SV where
  | one (a : AV)
  | agg (cs : AV)
  | tup (l : List (Bool × AV))
  | und

def AV.width : AV → Nat
  | .nil => 0
  | .cons a r => a.width + r.width
  | .int _ _ => 2
  | .den => 2
  | _ => 1
def AV.drop : AV → Nat → Option AV
  | x, 0 => some x
  | .cons a r, k + 1 => if a.width ≤ k + 1 then r.drop (k + 1 - a.width) else none
  | _, _ + 1 => none
def AV.take : AV → Nat → Option AV
  | _, 0 => some .nil
  | .cons a r, k + 1 => if a.width ≤ k + 1 then (r.take (k + 1 - a.width)).map (.cons a) else none
  | _, _ + 1 => none
def AV.app : AV → AV → AV
  | .nil, y => y
  | .cons a r, y => .cons a (r.app y)
  | x, y => .cons x y
/-- the cells from off on replaced by ps -/
def AV.put : AV → Nat → AV → Option AV
  | x, 0, ps => (x.drop ps.width).map ps.app
  | .cons a r, k + 1, ps => if a.width ≤ k + 1 then (r.put (k + 1 - a.width) ps).map (.cons a) else none
  | _, _ + 1, _ => none
def AV.ofVals : List Value → AV
  | [] => .nil
  | v :: r => .cons (.sc v) (.ofVals r)
def SV.cells : SV → Option AV
  | .one a => some (.cons a .nil)
  | .agg cs => some cs
  | _ => none
def allSc : AV → Option (List Value)
  | .nil => some []
  | .cons (.sc v) r => match allSc r with
    | some l => some (v :: l)
    | none => none
  | _ => none
def SV.exact : SV → Option Value
  | .one (.sc v) => some v
  | .agg cs => match allSc cs with
    | some l => some (.agg l.toArray)
    | none => none
  | _ => none
/-- an integer -/
def SV.toInt : SV → Option (Int × Nat)
  | .agg (.cons (.int n k) .nil) => some (n, k)
  | .agg (.cons (.sc (.bool false)) (.cons (.sc (.slice none 0 0)) .nil)) => some (0, 1)
  | _ => none

/-- the evaluator's heap: (block, its type and cells; 'none': given up) -/
structure AH where
  n : Nat
  l : List (Nat × Option (TypeId × AV))
def lk {α : Type} (b : Nat) : List (Nat × α) → Option α
  | [] => none
  | (k, x) :: r => cond (Nat.beq k b) (some x) (lk b r)
def AH.get (H : AH) (b : Nat) : Option (TypeId × AV) :=
  match lk b H.l with
  | some x => x
  | none => none
def AH.push (H : AH) (e : TypeId × AV) : AH := ⟨H.n + 1, (H.n, some e) :: H.l⟩
def setL {α : Type} (b : Nat) (e : α) : List (Nat × α) → List (Nat × α)
  | [] => []
  | (k, x) :: r => cond (Nat.beq k b) ((k, e) :: r) ((k, x) :: setL b e r)
def AH.set (H : AH) (b : Nat) (e : Option (TypeId × AV)) : AH := ⟨H.n, setL b e H.l⟩

abbrev AEnv := List (Nat × SV)
def putL {α : Type} (d : Nat) (s : α) (l : List (Nat × α)) : List (Nat × α) := (d, s) :: l

/-! what abstract values denote -/
section
variable [Rho]
/-- block g of type t has room for n cells -/
def Room (w : World) (g t n : Nat) : Prop := ∃ cs, Blk w g t cs ∧ n ≤ cs.size
inductive DV (γ : Nat → Option Nat) (N : Nat → Prop) (w : World) : AV → List Value → Prop
  | nil : DV γ N w .nil []
  | cons {a r xs ys} : DV γ N w a xs → DV γ N w r ys → DV γ N w (.cons a r) (xs ++ ys)
  | sc {v} : v.oneCell' = true → DV γ N w (.sc v) [v]
  | int {n k c} : IntC w c n → SzI k n → DV γ N w (.int n k) c
  | den {n c} : IntC w c n → n = 0 ∨ n = 1 → DV γ N w .den c
  | sym : DV γ N w .sym [Rho.v]
  | lim {l v} : Limbs w v l → DV γ N w (.lim l) [v]
  | sl {g t cs off es xs n cap} : Blk w g t cs → ¬ N g → DV γ N w es xs → xs <+: cs.toList.drop off → n ≤ cap → DV γ N w (.sl es n) [.slice (some ⟨g, off, none⟩) n cap]
  | osl {gr b off n g cap} : γ b = some g → (gr = true → off = 0 ∧ ∃ t size, tySize Tryz.prog t size = true ∧ Room w g t (cap * size)) → n ≤ cap → DV γ N w (.osl gr b off n) [.slice (some ⟨g, off, none⟩) n cap]
  | ptr {b off g} : γ b = some g → DV γ N w (.ptr b off) [.pointer (some ⟨g, off, none⟩)]
  | fp {g t cs off es xs} : Blk w g t cs → ¬ N g → DV γ N w es xs → xs <+: cs.toList.drop off → DV γ N w (.fp es) [.pointer (some ⟨g, off, none⟩)]
  | fn {f caps ys} : DV γ N w caps ys → DV γ N w (.fn f caps) [.func (.func f) #[] ys.toArray]
  | any {v} : v.oneCell' = true → DV γ N w .any [v]

def PV (γ : Nat → Option Nat) (N : Nat → Prop) (w : World) (p : Bool × AV) (v : Value) : Prop :=
  if p.1 then ∃ l, v = .agg l.toArray ∧ DV γ N w p.2 l else DV γ N w p.2 [v]
inductive PVs (γ : Nat → Option Nat) (N : Nat → Prop) (w : World) : List (Bool × AV) → List Value → Prop
  | nil : PVs γ N w [] []
  | cons {p v l vs} : PV γ N w p v → PVs γ N w l vs → PVs γ N w (p :: l) (v :: vs)
def VR (γ : Nat → Option Nat) (N : Nat → Prop) (w : World) : SV → Value → Prop
  | .one a, v => DV γ N w a [v]
  | .agg cs, v => ∃ l, v = .agg l.toArray ∧ DV γ N w cs l
  | .tup l, v => ∃ vs, v = .tuple vs.toArray ∧ PVs γ N w l vs
  | .und, _ => True

/-- a world in which what abstract values speak of is as before -/
structure Keep (N : Nat → Prop) (w w' : World) : Prop where
  small : ∀ (g : Nat) (cs : Array Value) (fr : Nat × Nat), w.heap[g]? = some (Obj.cells cs 231 fr) → w'.heap[g]? = some (Obj.cells cs 231 fr)
  calm : ∀ (g t : Nat) (cs : Array Value), ¬ N g → Blk w g t cs → Blk w' g t cs
  room : ∀ (g t : Nat) (cs : Array Value), Blk w g t cs → ∃ cs', Blk w' g t cs' ∧ cs'.size = cs.size
  size : w.heap.size ≤ w'.heap.size

theorem Limbs.keep {N : Nat → Prop} {w w' : World} {v : Value} {l : List Nat} (h : Limbs w v l) (hk : Keep N w w') : Limbs w' v l := by
  obtain ⟨A, cap, hv, hc, h⟩ := h
  exact ⟨A, cap, hv, hc, fun hl => by
    obtain ⟨g, off, cs, fr, h1, h2, h3⟩ := h hl
    exact ⟨g, off, cs, fr, h1, hk.small _ _ _ h2, h3⟩⟩
theorem IntC.keep {N : Nat → Prop} {w w' : World} {c : List Value} {n : Int} (h : IntC w c n) (hk : Keep N w w') : IntC w' c n := by
  obtain ⟨b, m, l, h1, h2, h3⟩ := h
  exact ⟨b, m, l, h1, h2.keep hk, h3⟩
theorem Room.keep {N : Nat → Prop} {w w' : World} {g t n : Nat} (h : Room w g t n) (hk : Keep N w w') : Room w' g t n := by
  obtain ⟨cs, h1, h2⟩ := h
  obtain ⟨cs', h3, h4⟩ := hk.room _ _ _ h1
  exact ⟨cs', h3, by omega⟩

theorem DV.keep {γ γ' : Nat → Option Nat} {N N' : Nat → Prop} {w w' : World} {a : AV} {l : List Value} (h : DV γ N w a l) (hk : Keep N w w')
    (hγ : ∀ b g, γ b = some g → γ' b = some g) (hN : ∀ g, N' g → N g ∨ w.heap.size ≤ g) : DV γ' N' w' a l := by
  have hn : ∀ {g t cs}, Blk w g t cs → ¬ N g → ¬ N' g := fun {g t cs} hB h0 h1 => by
    rcases hN g h1 with h2 | h2
    · exact h0 h2
    · exact absurd hB.lt (by omega)
  induction h with
  | nil => exact .nil
  | cons _ _ h1 h2 => exact .cons h1 h2
  | sc h => exact .sc h
  | int h h2 => exact .int (h.keep hk) h2
  | den h h2 => exact .den (h.keep hk) h2
  | sym => exact .sym
  | lim h => exact .lim (h.keep hk)
  | sl hB h0 _ hp hc ih => exact .sl (hk.calm _ _ _ h0 hB) (hn hB h0) ih hp hc
  | osl h1 h2 hc =>
    exact .osl (hγ _ _ h1) (fun hg => by
      obtain ⟨h3, t, size, h4, h5⟩ := h2 hg
      exact ⟨h3, t, size, h4, h5.keep hk⟩) hc
  | ptr h => exact .ptr (hγ _ _ h)
  | fp hB h0 _ hp ih => exact .fp (hk.calm _ _ _ h0 hB) (hn hB h0) ih hp
  | fn _ ih => exact .fn ih
  | any h => exact .any h
theorem PVs.keep {γ γ' : Nat → Option Nat} {N N' : Nat → Prop} {w w' : World} {l : List (Bool × AV)} {vs : List Value} (h : PVs γ N w l vs) (hk : Keep N w w')
    (hγ : ∀ b g, γ b = some g → γ' b = some g) (hN : ∀ g, N' g → N g ∨ w.heap.size ≤ g) : PVs γ' N' w' l vs := by
  induction h with
  | nil => exact .nil
  | cons h1 _ ih =>
    refine .cons ?_ ih
    unfold PV at h1 ⊢
    split at h1
    · rename_i hb
      obtain ⟨l, h2, h3⟩ := h1
      rw [if_pos hb]; exact ⟨l, h2, h3.keep hk hγ hN⟩
    · rename_i hb
      rw [if_neg hb]; exact h1.keep hk hγ hN
theorem VR.keep {γ γ' : Nat → Option Nat} {N N' : Nat → Prop} {w w' : World} {s : SV} {v : Value} (h : VR γ N w s v) (hk : Keep N w w')
    (hγ : ∀ b g, γ b = some g → γ' b = some g) (hN : ∀ g, N' g → N g ∨ w.heap.size ≤ g) : VR γ' N' w' s v := by
  cases s with
  | one a => exact DV.keep h hk hγ hN
  | agg cs => obtain ⟨l, h1, h2⟩ := h; exact ⟨l, h1, h2.keep hk hγ hN⟩
  | tup l => obtain ⟨vs, h1, h2⟩ := h; exact ⟨vs, h1, h2.keep hk hγ hN⟩
  | und => trivial

theorem DV.length {γ : Nat → Option Nat} {N : Nat → Prop} {w : World} {a : AV} {l : List Value} (h : DV γ N w a l) : l.length = a.width := by
  induction h with
  | cons _ _ h1 h2 => simp [AV.width, h1, h2]
  | int h _ => exact h.length
  | den h _ => exact h.length
  | _ => rfl
theorem DV.one {γ : Nat → Option Nat} {N : Nat → Prop} {w : World} {a : AV} {l : List Value} (h : DV γ N w a l) : oneCells l = true := by
  unfold oneCells
  induction h with
  | nil => rfl
  | cons _ _ h1 h2 => rw [List.all_append, h1, h2]; rfl
  | int h _ => exact h.one
  | den h _ => exact h.one
  | sym => simpa using Rho.one
  | lim h => obtain ⟨A, cap, rfl, _⟩ := h.form; rfl
  | sc h => simpa using h
  | any h => simpa using h
  | _ => rfl
theorem DV.app {γ : Nat → Option Nat} {N : Nat → Prop} {w : World} : ∀ {a b : AV} {l m : List Value}, DV γ N w a l → DV γ N w b m → DV γ N w (a.app b) (l ++ m) := by
  intro a b l m h hb
  induction h with
  | nil => exact hb
  | cons h1 _ _ ih => rw [List.append_assoc]; exact .cons h1 ih
  | sc h => exact .cons (.sc h) hb
  | int h h2 => exact .cons (.int h h2) hb
  | den h h2 => exact .cons (.den h h2) hb
  | sym => exact .cons .sym hb
  | lim h => exact .cons (.lim h) hb
  | sl h1 h2 h3 h4 h5 _ => exact .cons (.sl h1 h2 h3 h4 h5) hb
  | osl h1 h2 h3 => exact .cons (.osl h1 h2 h3) hb
  | ptr h => exact .cons (.ptr h) hb
  | fp h1 h2 h3 h4 _ => exact .cons (.fp h1 h2 h3 h4) hb
  | fn h _ => exact .cons (.fn h) hb
  | any h => exact .cons (.any h) hb
theorem DV.cons_inv {γ : Nat → Option Nat} {N : Nat → Prop} {w : World} {a r : AV} {l : List Value} (h : DV γ N w (.cons a r) l) : ∃ xs ys, l = xs ++ ys ∧ DV γ N w a xs ∧ DV γ N w r ys ∧ xs.length = a.width := by
  cases h with
  | cons h1 h2 => exact ⟨_, _, rfl, h1, h2, h1.length⟩
theorem DV.drop {γ : Nat → Option Nat} {N : Nat → Prop} {w : World} : ∀ {a a' : AV} {k : Nat} {l : List Value}, DV γ N w a l → a.drop k = some a' → DV γ N w a' (l.drop k) ∧ k ≤ l.length := by
  intro a
  induction a with
  | cons a r _ ih =>
    intro a' k l h hd
    cases k with
    | zero => simp only [AV.drop] at hd; cases hd; exact ⟨by simpa using h, Nat.zero_le _⟩
    | succ k =>
      simp only [AV.drop] at hd
      split at hd
      · rename_i hw
        obtain ⟨xs, ys, rfl, h1, h2, h3⟩ := h.cons_inv
        obtain ⟨h4, h5⟩ := ih h2 hd
        rw [List.drop_append, List.drop_eq_nil_of_le (by omega), List.nil_append, h3]
        exact ⟨h4, by rw [List.length_append]; omega⟩
      · cases hd
  | _ =>
    intro a' k l h hd
    cases k with
    | zero => simp only [AV.drop] at hd; cases hd; exact ⟨by simpa using h, Nat.zero_le _⟩
    | succ k => simp [AV.drop] at hd
theorem DV.take {γ : Nat → Option Nat} {N : Nat → Prop} {w : World} : ∀ {a a' : AV} {k : Nat} {l : List Value}, DV γ N w a l → a.take k = some a' → DV γ N w a' (l.take k) ∧ k ≤ l.length := by
  intro a
  induction a with
  | cons a r _ ih =>
    intro a' k l h hd
    cases k with
    | zero => simp only [AV.take] at hd; cases hd; exact ⟨by simpa using DV.nil, Nat.zero_le _⟩
    | succ k =>
      simp only [AV.take] at hd
      split at hd
      · rename_i hw
        obtain ⟨xs, ys, rfl, h1, h2, h3⟩ := h.cons_inv
        cases ht : r.take (k + 1 - a.width) with
        | none => rw [ht] at hd; cases hd
        | some r' =>
          rw [ht] at hd; cases hd
          obtain ⟨h4, h5⟩ := ih h2 ht
          rw [List.take_append, List.take_of_length_le (by omega), h3]
          exact ⟨.cons h1 h4, by rw [List.length_append]; omega⟩
      · cases hd
  | _ =>
    intro a' k l h hd
    cases k with
    | zero => simp only [AV.take] at hd; cases hd; exact ⟨by simpa using DV.nil, Nat.zero_le _⟩
    | succ k => simp [AV.take] at hd
theorem DV.put {γ : Nat → Option Nat} {N : Nat → Prop} {w : World} : ∀ {a a' p : AV} {k : Nat} {l m : List Value}, DV γ N w a l → DV γ N w p m → a.put k p = some a' → DV γ N w a' (l.take k ++ m ++ l.drop (k + m.length)) ∧ k + m.length ≤ l.length := by
  intro a
  have h0 : ∀ {a a' p : AV} {l m : List Value}, DV γ N w a l → DV γ N w p m → (a.drop p.width).map p.app = some a' → DV γ N w a' (l.take 0 ++ m ++ l.drop (0 + m.length)) ∧ 0 + m.length ≤ l.length := by
    intro a a' p l m h hp hd
    cases ht : a.drop p.width with
    | none => rw [ht] at hd; cases hd
    | some r =>
      rw [ht] at hd; cases hd
      obtain ⟨h1, h2⟩ := h.drop ht
      rw [← hp.length] at h1 h2
      simp only [List.take_zero, List.nil_append, Nat.zero_add]
      exact ⟨hp.app h1, h2⟩
  induction a with
  | cons a r _ ih =>
    intro a' p k l m h hp hd
    cases k with
    | zero => simp only [AV.put] at hd; exact h0 h hp hd
    | succ k =>
      simp only [AV.put] at hd
      split at hd
      · rename_i hw
        obtain ⟨xs, ys, rfl, h1, h2, h3⟩ := h.cons_inv
        cases ht : r.put (k + 1 - a.width) p with
        | none => rw [ht] at hd; cases hd
        | some r' =>
          rw [ht] at hd; cases hd
          obtain ⟨h4, h5⟩ := ih h2 hp ht
          refine ⟨?_, by rw [List.length_append]; omega⟩
          rw [List.take_append, List.take_of_length_le (by omega), h3, List.drop_append, List.drop_eq_nil_of_le (by omega), List.nil_append, h3]
          rw [show k + 1 + m.length - a.width = k + 1 - a.width + m.length by omega, List.append_assoc, List.append_assoc, ← List.append_assoc (ys.take _)]
          exact .cons h1 h4
      · cases hd
  | _ =>
    intro a' p k l m h hp hd
    cases k with
    | zero => simp only [AV.put] at hd; exact h0 h hp hd
    | succ k => simp [AV.put] at hd
theorem DV.ofVals {γ : Nat → Option Nat} {N : Nat → Prop} {w : World} : ∀ {l : List Value}, oneCells l = true → DV γ N w (.ofVals l) l := by
  intro l
  induction l with
  | nil => intro _; exact .nil
  | cons v r ih =>
    intro h
    unfold oneCells at h
    rw [List.all_cons, Bool.and_eq_true] at h
    exact DV.cons (xs := [v]) (.sc h.1) (ih h.2)
end
end

section
variable [Rho]

theorem lk_set_ne {α : Type} {b b' : Nat} {e : α} (hne : b' ≠ b) : ∀ l : List (Nat × α), lk b' (setL b e l) = lk b' l := by
  intro l
  induction l with
  | nil => rfl
  | cons p r ih =>
    obtain ⟨k, x⟩ := p
    simp only [setL, lk]
    cases hk : Nat.beq k b with
    | false => simp only [cond_false, lk, ih]
    | true =>
      have hkb := Nat.eq_of_beq_eq_true hk
      subst hkb
      simp only [cond_true, lk]
      cases hk2 : Nat.beq k b' with
      | true => exact absurd (Nat.eq_of_beq_eq_true hk2).symm hne
      | false => rfl
theorem lk_set_eq {α : Type} {b : Nat} {e x : α} : ∀ l : List (Nat × α), lk b l = some x → lk b (setL b e l) = some e := by
  intro l
  induction l with
  | nil => intro h; cases h
  | cons p r ih =>
    obtain ⟨k, y⟩ := p
    intro h
    simp only [lk] at h
    simp only [setL]
    cases hk : Nat.beq k b with
    | false => rw [hk] at h; simp only [cond_false, lk, hk]; exact ih h
    | true => simp only [cond_true, lk, hk]
theorem lk_put_ne {α : Type} {b b' : Nat} {e : α} (hne : b' ≠ b) (l : List (Nat × α)) : lk b' (putL b e l) = lk b' l := by
  have hb : Nat.beq b b' = false := by
    cases h : Nat.beq b b' with
    | false => rfl
    | true => exact absurd (Nat.eq_of_beq_eq_true h).symm hne
  simp only [putL, lk, hb, cond_false]
theorem beq_self (b : Nat) : Nat.beq b b = true := Nat.beq_refl b
theorem lk_put_eq {α : Type} {b : Nat} {e : α} (l : List (Nat × α)) : lk b (putL b e l) = some e := by
  simp only [putL, lk, beq_self, cond_true]

theorem AH.get_push_eq (H : AH) (e : TypeId × AV) : (H.push e).get H.n = some e := by
  unfold AH.get AH.push; simp only [lk, beq_self, cond_true]
theorem AH.get_push_ne (H : AH) (e : TypeId × AV) {b : Nat} (hb : b ≠ H.n) : (H.push e).get b = H.get b := by
  unfold AH.get AH.push
  simp only [lk]
  cases hk : Nat.beq H.n b with
  | false => rfl
  | true => exact absurd (Nat.eq_of_beq_eq_true hk).symm hb
theorem AH.get_set_ne (H : AH) {b b' : Nat} (e : Option (TypeId × AV)) (hb : b' ≠ b) : (H.set b e).get b' = H.get b' := by
  unfold AH.get AH.set; simp only [lk_set_ne hb]
theorem AH.get_set_eq (H : AH) {b : Nat} (e : Option (TypeId × AV)) {x : TypeId × AV} (h : H.get b = some x) : (H.set b e).get b = e := by
  unfold AH.get at h
  unfold AH.get AH.set
  cases hl : lk b H.l with
  | none => rw [hl] at h; cases h
  | some y => simp only [lk_set_eq _ hl]

/-- all blocks that are owned -/
def Nn (N0 : Nat → Prop) (γ : Nat → Option Nat) (g : Nat) : Prop := N0 g ∨ ∃ b, γ b = some g
structure St (γ : Nat → Option Nat) (N0 : Nat → Prop) (H : AH) (w : World) : Prop where
  lt0 : ∀ g, N0 g → g < w.heap.size
  lt : ∀ b g, γ b = some g → b < H.n
  ty : ∀ b g, γ b = some g → ∃ t cs, Blk w g t cs ∧ t ≠ 231
  live : ∀ b g t cs, γ b = some g → H.get b = some (t, cs) → ∃ l ex, Blk w g t (l ++ ex).toArray ∧ DV γ (Nn N0 γ) w cs l
  inj : ∀ b b' g, γ b = some g → γ b' = some g → H.get b ≠ none → H.get b' ≠ none → b = b'
theorem St.glt {γ : Nat → Option Nat} {N0 : Nat → Prop} {H : AH} {w : World} (h : St γ N0 H w) {b g : Nat} (hb : γ b = some g) : g < w.heap.size := by
  obtain ⟨t, cs, h1, _⟩ := h.ty b g hb; exact h1.lt
theorem St.nlt {γ : Nat → Option Nat} {N0 : Nat → Prop} {H : AH} {w : World} (h : St γ N0 H w) {g : Nat} (hg : Nn N0 γ g) : g < w.heap.size := by
  rcases hg with h1 | ⟨b, h1⟩
  · exact h.lt0 g h1
  · exact h.glt h1

/-- what may have changed: blocks of M, in their cells alone -/
structure Chg (M : Nat → Prop) (w w' : World) : Prop where
  os : w'.os = w.os
  tape : w'.tape = w.tape
  output : w'.output = w.output
  size : w.heap.size ≤ w'.heap.size
  block : ∀ g, g < w.heap.size → ¬ M g → w'.heap[g]? = w.heap[g]?
  kept : ∀ (g t : Nat) (cs : Array Value), M g → Blk w g t cs → ∃ cs', Blk w' g t cs' ∧ cs'.size = cs.size
theorem Chg.of_ext {M : Nat → Prop} {w w' : World} (h : Ext w w') : Chg M w w' :=
  ⟨h.os, h.tape, h.output, h.size, fun g hg _ => h.block g hg, fun _ _ cs _ hB => ⟨cs, hB.ext h, rfl⟩⟩
theorem Chg.ext {M : Nat → Prop} {w w' : World} (h : Chg M w w') (hM : ∀ g, ¬ M g) : Ext w w' := ⟨h.os, h.tape, h.output, h.size, fun g hg => h.block g hg (hM g)⟩

structure Step (f : Nat) (H : AH) (γ : Nat → Option Nat) (w : World) (H' : AH) (γ' : Nat → Option Nat) (w' : World) : Prop where
  n : H.n ≤ H'.n
  old : ∀ b, b < H.n → γ' b = γ b
  new : ∀ b g, H.n ≤ b → γ' b = some g → w.heap.size ≤ g ∨ ∃ b0, f ≤ b0 ∧ b0 < H.n ∧ γ b0 = some g
  get : ∀ b, b < f → H'.get b = H.get b
  chg : Chg (fun g => ∃ b, f ≤ b ∧ γ b = some g) w w'
theorem Step.of_ext {f : Nat} {H : AH} {γ : Nat → Option Nat} {w w' : World} (hγ : ∀ b g, γ b = some g → b < H.n) (h : Ext w w') : Step f H γ w H γ w' :=
  ⟨Nat.le_refl _, fun _ _ => rfl, fun b g hb hg => absurd (hγ b g hg) (by omega), fun _ _ => rfl, .of_ext h⟩
theorem Step.refl {f : Nat} {H : AH} {γ : Nat → Option Nat} {w : World} (hγ : ∀ b g, γ b = some g → b < H.n) : Step f H γ w H γ w := .of_ext hγ (Ext.refl w)
theorem Step.mono {f f' : Nat} {H H' : AH} {γ γ' : Nat → Option Nat} {w w' : World} (h : Step f' H γ w H' γ' w') (hf : f ≤ f') : Step f H γ w H' γ' w' := by
  refine ⟨h.n, h.old, fun b g hb hg => ?_, fun b hb => h.get b (by omega), ?_⟩
  · rcases h.new b g hb hg with h1 | ⟨b0, h1, h2⟩
    · exact .inl h1
    · exact .inr ⟨b0, by omega, h2⟩
  · refine ⟨h.chg.os, h.chg.tape, h.chg.output, h.chg.size, fun g hg hM => h.chg.block g hg (fun ⟨b, h1, h2⟩ => hM ⟨b, by omega, h2⟩), fun g t cs hM hB => ?_⟩
    by_cases hM' : ∃ b, f' ≤ b ∧ γ b = some g
    · exact h.chg.kept g t cs hM' hB
    · exact ⟨cs, (h.chg.block g hB.lt hM').trans hB, rfl⟩
theorem Step.trans {f : Nat} {H H1 H2 : AH} {γ γ1 γ2 : Nat → Option Nat} {w w1 w2 : World} (hγ : ∀ b g, γ b = some g → b < H.n) (h : Step f H γ w H1 γ1 w1) (k : Step f H1 γ1 w1 H2 γ2 w2) : Step f H γ w H2 γ2 w2 := by
  have hM : ∀ g, g < w.heap.size → (∃ b, f ≤ b ∧ γ1 b = some g) → ∃ b, f ≤ b ∧ γ b = some g := by
    rintro g hg ⟨b, hb, hb1⟩
    rcases Nat.lt_or_ge b H.n with h1 | h1
    · exact ⟨b, hb, (h.old b h1) ▸ hb1⟩
    · rcases h.new b g h1 hb1 with h2 | ⟨b0, h2, _, h3⟩
      · omega
      · exact ⟨b0, h2, h3⟩
  have hM' : ∀ g, (∃ b, f ≤ b ∧ γ b = some g) → ∃ b, f ≤ b ∧ γ1 b = some g := by
    rintro g ⟨b, hb, hg⟩
    exact ⟨b, hb, (h.old b (hγ b g hg)).trans hg⟩
  refine ⟨Nat.le_trans h.n k.n, fun b hb => (k.old b (Nat.lt_of_lt_of_le hb h.n)).trans (h.old b hb), ?_, fun b hb => (k.get b hb).trans (h.get b hb), ?_⟩
  · intro b g hb hg
    rcases Nat.lt_or_ge b H1.n with h1 | h1
    · rw [k.old b h1] at hg
      exact h.new b g hb hg
    · rcases k.new b g h1 hg with h2 | ⟨b0, h2, h3, h4⟩
      · exact .inl (Nat.le_trans h.chg.size h2)
      · rcases Nat.lt_or_ge b0 H.n with h5 | h5
        · exact .inr ⟨b0, h2, h5, (h.old b0 h5) ▸ h4⟩
        · exact h.new b0 g h5 h4
  · refine ⟨k.chg.os.trans h.chg.os, k.chg.tape.trans h.chg.tape, k.chg.output.trans h.chg.output, Nat.le_trans h.chg.size k.chg.size, ?_, ?_⟩
    · intro g hg hn
      rw [k.chg.block g (Nat.lt_of_lt_of_le hg h.chg.size) (fun hx => hn (hM g hg hx)), h.chg.block g hg hn]
    · intro g t cs hg hB
      obtain ⟨c1, h1, h2⟩ := h.chg.kept g t cs hg hB
      obtain ⟨c2, h3, h4⟩ := k.chg.kept g t c1 (hM' g hg) h1
      exact ⟨c2, h3, h4.trans h2⟩

theorem Step.keep {f : Nat} {N0 : Nat → Prop} {H H' : AH} {γ γ' : Nat → Option Nat} {w w' : World} (hS : St γ N0 H w) (h : Step f H γ w H' γ' w') : Keep (Nn N0 γ) w w' := by
  refine ⟨?_, ?_, ?_, h.chg.size⟩
  · intro g cs fr hg
    have hlt : g < w.heap.size := by
      rcases Nat.lt_or_ge g w.heap.size with h1 | h1
      · exact h1
      · rw [Array.getElem?_eq_none h1] at hg; cases hg
    rw [h.chg.block g hlt]; exact hg
    rintro ⟨b, _, hb⟩
    obtain ⟨t, ds, hB, ht⟩ := hS.ty b g hb
    unfold Blk at hB
    rw [hB] at hg
    injection hg with hg
    injection hg with _ h3
    exact ht h3
  · intro g t cs hn hB
    exact (h.chg.block g hB.lt (fun ⟨b, _, hb⟩ => hn (.inr ⟨b, hb⟩))).trans hB
  · intro g t cs hB
    by_cases hM : ∃ b, f ≤ b ∧ γ b = some g
    · exact h.chg.kept g t cs hM hB
    · exact ⟨cs, (h.chg.block g hB.lt hM).trans hB, rfl⟩
theorem Step.mono_n {f : Nat} {N0 : Nat → Prop} {H H' : AH} {γ γ' : Nat → Option Nat} {w w' : World} (hS : St γ N0 H w) (h : Step f H γ w H' γ' w') : ∀ g, Nn N0 γ' g → Nn N0 γ g ∨ w.heap.size ≤ g := by
  rintro g (h1 | ⟨b, h1⟩)
  · exact .inl (.inl h1)
  · rcases Nat.lt_or_ge b H.n with h2 | h2
    · exact .inl (.inr ⟨b, (h.old b h2) ▸ h1⟩)
    · rcases h.new b g h2 h1 with h3 | ⟨b0, _, _, h3⟩
      · exact .inr h3
      · exact .inl (.inr ⟨b0, h3⟩)
theorem Step.mono_γ {f : Nat} {N0 : Nat → Prop} {H H' : AH} {γ γ' : Nat → Option Nat} {w w' : World} (hS : St γ N0 H w) (h : Step f H γ w H' γ' w') : ∀ b g, γ b = some g → γ' b = some g :=
  fun b g hb => (h.old b (hS.lt b g hb)).trans hb
/-- what a value denoted, it denotes -/
theorem Step.vr {f : Nat} {N0 : Nat → Prop} {H H' : AH} {γ γ' : Nat → Option Nat} {w w' : World} (h : Step f H γ w H' γ' w') (hS : St γ N0 H w) {s : SV} {v : Value} (hv : VR γ (Nn N0 γ) w s v) : VR γ' (Nn N0 γ') w' s v :=
  hv.keep (h.keep hS) (h.mono_γ hS) (h.mono_n hS)
theorem Step.dv {f : Nat} {N0 : Nat → Prop} {H H' : AH} {γ γ' : Nat → Option Nat} {w w' : World} (h : Step f H γ w H' γ' w') (hS : St γ N0 H w) {a : AV} {l : List Value} (hv : DV γ (Nn N0 γ) w a l) : DV γ' (Nn N0 γ') w' a l :=
  hv.keep (h.keep hS) (h.mono_γ hS) (h.mono_n hS)

theorem St.ext {γ : Nat → Option Nat} {N0 : Nat → Prop} {H : AH} {w w' : World} (h : St γ N0 H w) (hx : Ext w w') : St γ N0 H w' := by
  have hs : Step H.n H γ w H γ w' := .of_ext h.lt hx
  refine ⟨fun g hg => Nat.lt_of_lt_of_le (h.lt0 g hg) hx.size, h.lt, ?_, ?_, h.inj⟩
  · intro b g hb
    obtain ⟨t, cs, h1, h2⟩ := h.ty b g hb
    exact ⟨t, cs, h1.ext hx, h2⟩
  · intro b g t cs hb hg
    obtain ⟨l, ex, h1, h2⟩ := h.live b g t cs hb hg
    exact ⟨l, ex, h1.ext hx, hs.dv h h2⟩

/-- one more block of our own -/
def extG (γ : Nat → Option Nat) (n g : Nat) : Nat → Option Nat := fun b => if b = n then some g else γ b
theorem St.new {γ : Nat → Option Nat} {N0 : Nat → Prop} {H : AH} {w w' : World} (h : St γ N0 H w) (hx : Ext w w') {g t : Nat} {l ex : List Value} {cs : AV} (hg : w.heap.size ≤ g) (hB : Blk w' g t (l ++ ex).toArray) (ht : t ≠ 231) (hd : DV γ (Nn N0 γ) w cs l) :
    St (extG γ H.n g) N0 (H.push (t, cs)) w' ∧ Step H.n H γ w (H.push (t, cs)) (extG γ H.n g) w' := by
  have hst : Step H.n H γ w (H.push (t, cs)) (extG γ H.n g) w' := by
    refine ⟨Nat.le_succ _, fun b hb => ?_, fun b g' hb hg' => ?_, fun b hb => H.get_push_ne _ (by omega), .of_ext hx⟩
    · unfold extG; rw [if_neg (by omega)]
    · unfold extG at hg'
      split at hg'
      · cases hg'; exact .inl hg
      · exact absurd (h.lt b g' hg') (by omega)
  refine ⟨⟨fun k hk => Nat.lt_of_lt_of_le (h.lt0 k hk) hx.size, ?_, ?_, ?_, ?_⟩, hst⟩
  · intro b k hb
    show b < H.n + 1
    unfold extG at hb
    split at hb
    · omega
    · have := h.lt b k hb; omega
  · intro b k hb
    unfold extG at hb
    split at hb
    · cases hb; exact ⟨t, _, hB, ht⟩
    · obtain ⟨t', c, h1, h2⟩ := h.ty b k hb
      exact ⟨t', c, h1.ext hx, h2⟩
  · intro b k t' c hb hk
    by_cases hbn : b = H.n
    · subst hbn
      rw [AH.get_push_eq] at hk
      cases hk
      unfold extG at hb
      rw [if_pos rfl] at hb
      cases hb
      exact ⟨l, ex, hB, hst.dv h hd⟩
    · rw [AH.get_push_ne _ _ hbn] at hk
      unfold extG at hb
      rw [if_neg hbn] at hb
      obtain ⟨l', ex', h1, h2⟩ := h.live b k t' c hb hk
      exact ⟨l', ex', h1.ext hx, hst.dv h h2⟩
  · intro b b' k hb hb' h1 h2
    unfold extG at hb hb'
    split at hb
    · rename_i e
      cases hb
      split at hb'
      · omega
      · have := h.glt hb'; omega
    · split at hb'
      · cases hb'
        have := h.glt hb; omega
      · rename_i n1 n2
        rw [AH.get_push_ne _ _ n1] at h1
        rw [AH.get_push_ne _ _ n2] at h2
        exact h.inj b b' k hb hb' h1 h2

/-- a write into a block of our own -/
theorem St.write {γ : Nat → Option Nat} {N0 : Nat → Prop} {H : AH} {w w' : World} (h : St γ N0 H w) {b g t f : Nat} {c cs : AV} {ol l ex : List Value} (hb : γ b = some g) (hg : H.get b = some (t, c)) (hf : f ≤ b) (hold : Blk w g t ol.toArray) (hu : Upd g w w')
    (hB : Blk w' g t (l ++ ex).toArray) (hlen : (l ++ ex).length = ol.length) (hd : DV γ (Nn N0 γ) w cs l) :
    St γ N0 (H.set b (some (t, cs))) w' ∧ Step f H γ w (H.set b (some (t, cs))) γ w' := by
  have hst : Step f H γ w (H.set b (some (t, cs))) γ w' := by
    refine ⟨Nat.le_refl _, fun _ _ => rfl, fun b' g' hb' hg' => absurd (h.lt b' g' hg') (by omega), fun b' hb' => H.get_set_ne _ (by omega), ?_⟩
    refine ⟨hu.os, hu.tape, hu.output, Nat.le_of_eq hu.size.symm, fun k _ hM => hu.block k (fun e => hM ⟨b, hf, e ▸ hb⟩), fun k t' ds _ hk => ?_⟩
    by_cases hkg : k = g
    · subst hkg
      obtain ⟨rfl, rfl⟩ := hk.uniq hold
      exact ⟨_, hB, by simpa using hlen⟩
    · exact ⟨ds, hk.upd hu hkg, rfl⟩
  refine ⟨⟨fun k hk => by rw [hu.size]; exact h.lt0 k hk, h.lt, ?_, ?_, ?_⟩, hst⟩
  · intro b' k hb'
    obtain ⟨t', c', h1, h2⟩ := h.ty b' k hb'
    by_cases hkg : k = g
    · subst hkg
      obtain ⟨rfl, _⟩ := h1.uniq hold
      exact ⟨_, _, hB, h2⟩
    · exact ⟨t', c', h1.upd hu hkg, h2⟩
  · intro b' k t' c' hb' hk
    by_cases hbb : b' = b
    · subst hbb
      rw [AH.get_set_eq _ _ hg] at hk
      cases hk
      rw [hb] at hb'; cases hb'
      exact ⟨l, ex, hB, hst.dv h hd⟩
    · rw [AH.get_set_ne _ _ hbb] at hk
      obtain ⟨l', ex', h1, h2⟩ := h.live b' k t' c' hb' hk
      have hkg : k ≠ g := fun e => hbb (h.inj b' b g (e ▸ hb') hb (by rw [hk]; simp) (by rw [hg]; simp))
      exact ⟨l', ex', h1.upd hu hkg, hst.dv h h2⟩
  · intro b1 b2 k h1 h2 h3 h4
    refine h.inj b1 b2 k h1 h2 ?_ ?_
    · by_cases e : b1 = b
      · subst e; rw [hg]; simp
      · rw [AH.get_set_ne _ _ e] at h3; exact h3
    · by_cases e : b2 = b
      · subst e; rw [hg]; simp
      · rw [AH.get_set_ne _ _ e] at h4; exact h4

/-- an append with room: the block gets a new number -/
theorem St.grow {γ : Nat → Option Nat} {N0 : Nat → Prop} {H : AH} {w w' : World} (h : St γ N0 H w) {b g t f : Nat} {c cs : AV} {ol l ex : List Value} (hb : γ b = some g) (hg : H.get b = some (t, c)) (hf : f ≤ b) (hold : Blk w g t ol.toArray) (hu : Upd g w w')
    (hB : Blk w' g t (l ++ ex).toArray) (hlen : (l ++ ex).length = ol.length) (hd : DV γ (Nn N0 γ) w cs l) :
    St (extG γ H.n g) N0 ((H.set b none).push (t, cs)) w' ∧ Step f H γ w ((H.set b none).push (t, cs)) (extG γ H.n g) w' := by
  have hbn := h.lt b g hb
  have hn : (H.set b none).n = H.n := rfl
  have hget : ∀ k, k ≠ H.n → k ≠ b → ((H.set b none).push (t, cs)).get k = H.get k := fun k h1 h2 => by
    rw [AH.get_push_ne _ _ (by rw [hn]; exact h1), AH.get_set_ne _ _ h2]
  have hst : Step f H γ w ((H.set b none).push (t, cs)) (extG γ H.n g) w' := by
    refine ⟨Nat.le_succ _, fun b' hb' => ?_, fun b' g' hb' hg' => ?_, fun b' hb' => hget b' (by omega) (by omega), ?_⟩
    · unfold extG; rw [if_neg (by omega)]
    · unfold extG at hg'
      split at hg'
      · cases hg'; exact .inr ⟨b, hf, hbn, hb⟩
      · exact absurd (h.lt b' g' hg') (by omega)
    refine ⟨hu.os, hu.tape, hu.output, Nat.le_of_eq hu.size.symm, fun k _ hM => hu.block k (fun e => hM ⟨b, hf, e ▸ hb⟩), fun k t' ds _ hk => ?_⟩
    by_cases hkg : k = g
    · subst hkg
      obtain ⟨rfl, rfl⟩ := hk.uniq hold
      exact ⟨_, hB, by simpa using hlen⟩
    · exact ⟨ds, hk.upd hu hkg, rfl⟩
  refine ⟨⟨fun k hk => by rw [hu.size]; exact h.lt0 k hk, ?_, ?_, ?_, ?_⟩, hst⟩
  · intro b' k hb'
    show b' < H.n + 1
    unfold extG at hb'
    split at hb'
    · omega
    · have := h.lt b' k hb'; omega
  · intro b' k hb'
    have hh : ∃ b'', γ b'' = some k := by
      unfold extG at hb'
      split at hb'
      · cases hb'; exact ⟨b, hb⟩
      · exact ⟨b', hb'⟩
    obtain ⟨b'', hb''⟩ := hh
    obtain ⟨t', c', h1, h2⟩ := h.ty b'' k hb''
    by_cases hkg : k = g
    · subst hkg
      obtain ⟨rfl, _⟩ := h1.uniq hold
      exact ⟨_, _, hB, h2⟩
    · exact ⟨t', c', h1.upd hu hkg, h2⟩
  · intro b' k t' c' hb' hk
    by_cases hbb : b' = H.n
    · subst hbb
      rw [show ((H.set b none).push (t, cs)).get H.n = some (t, cs) from AH.get_push_eq _ _] at hk
      cases hk
      unfold extG at hb'
      rw [if_pos rfl] at hb'
      cases hb'
      exact ⟨l, ex, hB, hst.dv h hd⟩
    · unfold extG at hb'
      rw [if_neg hbb] at hb'
      by_cases hbe : b' = b
      · subst hbe
        rw [AH.get_push_ne _ _ (by rw [hn]; exact hbb), AH.get_set_eq _ _ hg] at hk
        cases hk
      · rw [hget b' hbb hbe] at hk
        obtain ⟨l', ex', h1, h2⟩ := h.live b' k t' c' hb' hk
        have hkg : k ≠ g := fun e => hbe (h.inj b' b g (e ▸ hb') hb (by rw [hk]; simp) (by rw [hg]; simp))
        exact ⟨l', ex', h1.upd hu hkg, hst.dv h h2⟩
  · have hdead : ∀ x, x = b → ((H.set b none).push (t, cs)).get x = none := fun x e => by
      subst e
      rw [AH.get_push_ne _ _ (by rw [hn]; omega), AH.get_set_eq _ _ hg]
    intro b1 b2 k h1 h2 h3 h4
    have e1 : b1 ≠ b := fun e => h3 (hdead b1 e)
    have e2 : b2 ≠ b := fun e => h4 (hdead b2 e)
    unfold extG at h1 h2
    split at h1
    · rename_i e
      cases h1
      split at h2
      · omega
      · rename_i n2
        rw [hget b2 n2 e2] at h4
        exact absurd (h.inj b2 b g h2 hb h4 (by rw [hg]; simp)) e2
    · rename_i n1
      split at h2
      · cases h2
        rw [hget b1 n1 e1] at h3
        exact absurd (h.inj b1 b g h1 hb h3 (by rw [hg]; simp)) e1
      · rename_i n2
        rw [hget b1 n1 e1] at h3
        rw [hget b2 n2 e2] at h4
        exact h.inj b1 b2 k h1 h2 h3 h4
end

section
variable [Rho]

/-- an operation gives the abstract value s, and leads to the heap H' -/
def OpOk (P : Program) (f : Nat) (N0 : Nat → Prop) (H : AH) (γ : Nat → Option Nat) (w : World) (o : Oper) (ρ : Operand → Value) (s : SV) (H' : AH) : Prop :=
  Runs P o ρ w fun v w' => ∃ γ', St γ' N0 H' w' ∧ Step f H γ w H' γ' w' ∧ VR γ' (Nn N0 γ') w' s v

section
variable {P : Program} {f : Nat} {N0 : Nat → Prop} {H : AH} {γ : Nat → Option Nat} {w : World} {o : Oper} {ρ : Operand → Value}
theorem OpOk.pure (hS : St γ N0 H w) {v : Value} {s : SV} (hr : (execOp ρ o).run P w = .ok (.value v) w) (hv : VR γ (Nn N0 γ) w s v) : OpOk P f N0 H γ w o ρ s H :=
  Runs.of_run hr ⟨γ, hS, .refl hS.lt, hv⟩

/-- a closed answer -/
def pureOf (P : Program) : Sem Value → Option Value
  | .pure v => some v
  | .program k => pureOf P (k P)
  | .mark _ k => pureOf P k
  | _ => none
theorem pureOf_run {P : Program} {e : Sem Value} {v : Value} (h : pureOf P e = some v) (w : World) : e.run P w = .ok v w := by
  induction e with
  | pure a => simp only [pureOf] at h; cases h; rfl
  | program k ih => simp only [pureOf] at h; exact ih P h
  | mark m k ih => simp only [pureOf] at h; exact ih h
  | _ => simp only [pureOf] at h; cases h
def pureSV (P : Program) (e : Sem Value) : Option SV :=
  match pureOf P e with
  | some v => cond v.oneCell' (some (.one (.sc v))) none
  | none => none
theorem pureSV_run {e : Sem Value} {s : SV} (h : pureSV P e = some s) : ∃ v, (∀ w, e.run P w = .ok v w) ∧ ∀ γ N w, VR γ N w s v := by
  unfold pureSV at h
  cases hp : pureOf P e with
  | none => rw [hp] at h; cases h
  | some v =>
    rw [hp] at h
    simp only at h
    cases ho : v.oneCell' with
    | false => rw [ho] at h; cases h
    | true =>
      rw [ho] at h; cases h
      exact ⟨v, pureOf_run hp, fun γ N w => DV.sc ho⟩

theorem allSc_spec {N : Nat → Prop} : ∀ {cs : AV} {l l' : List Value}, allSc cs = some l → DV γ N w cs l' → l' = l := by
  intro cs
  induction cs with
  | nil => intro l l' h hd; cases h; cases hd; rfl
  | cons a r _ ih =>
    intro l l' h hd
    unfold allSc at h
    split at h
    · cases ‹AV.cons a r = AV.nil›
    · rename_i v r' he
      cases he
      split at h
      · rename_i l0 h0
        cases h
        obtain ⟨xs, ys, rfl, h1, h2, _⟩ := hd.cons_inv
        cases h1
        rw [ih h0 h2]; rfl
      · cases h
    · cases h
  | _ => intro l l' h; simp [allSc] at h
theorem exact_spec {s : SV} {u v : Value} {N : Nat → Prop} (h : s.exact = some u) (hv : VR γ N w s v) : v = u := by
  unfold SV.exact at h
  split at h
  · cases h; cases hv; rfl
  · split at h
    · rename_i l hl
      cases h
      obtain ⟨l', h1, h2⟩ := hv
      rw [h1, allSc_spec hl h2]
    · cases h
  · cases h

theorem binOp_ok (hS : St γ N0 H w) {op : BinOp} {T T' : TypeId} {x y : Operand} {s t r : SV} {u v : Value} {d : Option Tmp} {ty : TypeId} {pos : String} {after : Array Edge} {g : Option (Nat × Bool)}
    (hx : VR γ (Nn N0 γ) w s (ρ x)) (hy : VR γ (Nn N0 γ) w t (ρ y)) (hu : s.exact = some u) (hv : t.exact = some v) (h : pureSV P (do eqGuard op T x y u v; binOp op T u v) = some r) :
    OpOk P f N0 H γ w ⟨d, .binOp op T x y T', ty, pos, after, g⟩ ρ r H := by
  obtain ⟨z, h1, h2⟩ := pureSV_run h
  refine OpOk.pure hS (v := z) ?_ (h2 _ _ _)
  simp only [execOp]
  rw [exact_spec hu hx, exact_spec hv hy, Sem.run_bind, h1 w]
  rfl
theorem unOp_ok (hS : St γ N0 H w) {op : UnOp} {T : TypeId} {x : Operand} {s r : SV} {u : Value} {d : Option Tmp} {ty : TypeId} {pos : String} {after : Array Edge} {g : Option (Nat × Bool)}
    (hx : VR γ (Nn N0 γ) w s (ρ x)) (hu : s.exact = some u) (h : pureSV P (Op.unary op u) = some r) :
    OpOk P f N0 H γ w ⟨d, .unOp op T x, ty, pos, after, g⟩ ρ r H := by
  obtain ⟨z, h1, h2⟩ := pureSV_run h
  refine OpOk.pure hS (v := z) ?_ (h2 _ _ _)
  simp only [execOp]
  rw [exact_spec hu hx, Sem.run_bind, h1 w]
  rfl
theorem convert_ok (hS : St γ N0 H w) {T T' : TypeId} {x : Operand} {s r : SV} {u : Value} {d : Option Tmp} {ty : TypeId} {pos : String} {after : Array Edge} {g : Option (Nat × Bool)}
    (hx : VR γ (Nn N0 γ) w s (ρ x)) (hu : s.exact = some u) (h : pureSV P (convert T T' u) = some r) :
    OpOk P f N0 H γ w ⟨d, .convert T T' x, ty, pos, after, g⟩ ρ r H := by
  obtain ⟨z, h1, h2⟩ := pureSV_run h
  refine OpOk.pure hS (v := z) ?_ (h2 _ _ _)
  simp only [execOp]
  rw [exact_spec hu hx, Sem.run_bind, h1 w]
  rfl
theorem move_ok (hS : St γ N0 H w) {x : Operand} {s : SV} {d : Option Tmp} {ty : TypeId} {pos : String} {after : Array Edge} {g : Option (Nat × Bool)}
    (hx : VR γ (Nn N0 γ) w s (ρ x)) : OpOk P f N0 H γ w ⟨d, .move x, ty, pos, after, g⟩ ρ s H := OpOk.pure hS (by simp [execOp]) hx
theorem assign_ok (hS : St γ N0 H w) {x : Operand} {s : SV} {d : Option Tmp} {ty : TypeId} {pos : String} {after : Array Edge} {g : Option (Nat × Bool)}
    (hx : VR γ (Nn N0 γ) w s (ρ x)) : OpOk P f N0 H γ w ⟨d, .assign x, ty, pos, after, g⟩ ρ s H := OpOk.pure hS (by simp [execOp]) hx
theorem pick_ok (hS : St γ N0 H w) {c x y : Operand} {sc s : SV} {b : Bool} {d : Option Tmp} {ty : TypeId} {pos : String} {after : Array Edge} {g : Option (Nat × Bool)}
    (hc : VR γ (Nn N0 γ) w sc (ρ c)) (hb : sc.exact = some (.bool b)) (hx : b = true → VR γ (Nn N0 γ) w s (ρ x)) (hy : b = false → VR γ (Nn N0 γ) w s (ρ y)) : OpOk P f N0 H γ w ⟨d, .pick c x y, ty, pos, after, g⟩ ρ s H := by
  have e := exact_spec hb hc
  cases b with
  | true => exact OpOk.pure hS (v := ρ x) (by simp [execOp, e, asBool]) (hx rfl)
  | false => exact OpOk.pure hS (v := ρ y) (by simp [execOp, e, asBool]) (hy rfl)

/-! pointers -/
def deref (H : AH) : SV → Option AV
  | .one (.ptr b off) => match H.get b with
    | some (_, cs) => cs.drop off
    | none => none
  | .one (.fp es) => some es
  | _ => none
def ptrAdd (k : Nat) : SV → Option SV
  | .one (.ptr b off) => some (.one (.ptr b (off + k)))
  | .one (.fp es) => (es.drop k).map fun e => .one (.fp e)
  | _ => none
theorem cells_prefix {g t off : Nat} {cs : Array Value} {l : List Value} (hB : Blk w g t cs) (hp : l <+: cs.toList.drop off) : Cells w ⟨g, off, none⟩ l := by
  obtain ⟨r, hr⟩ := hp
  intro j v hj
  refine hB.cells off (l.length) j v ?_
  rw [← hr, List.take_left']
  · exact hj
  · rfl
theorem deref_spec (hS : St γ N0 H w) {p : SV} {v : Value} {es : AV} (hv : VR γ (Nn N0 γ) w p v) (h : deref H p = some es) :
    ∃ g off l, v = .pointer (some ⟨g, off, none⟩) ∧ DV γ (Nn N0 γ) w es l ∧ Cells w ⟨g, off, none⟩ l := by
  unfold deref at h
  split at h
  · rename_i b off
    split at h
    · rename_i t cs hg
      cases hv with
      | ptr hb =>
        rename_i g
        obtain ⟨l, ex, hB, hd⟩ := hS.live b g t cs hb hg
        obtain ⟨h1, h2⟩ := hd.drop h
        refine ⟨g, off, _, rfl, h1, cells_prefix hB ?_⟩
        simp only []
        rw [List.drop_append_of_le_length h2]
        exact List.prefix_append _ _
    · cases h
  · rename_i es'
    cases h
    cases hv with
    | fp hB hn hd hp => exact ⟨_, _, _, rfl, hd, cells_prefix hB hp⟩
  · cases h
theorem ptrAdd_spec {N : Nat → Prop} {k : Nat} {p q : SV} {v : Value} (hv : VR γ N w p v) (h : ptrAdd k p = some q) :
    ∃ g off, v = .pointer (some ⟨g, off, none⟩) ∧ VR γ N w q (.pointer (some ⟨g, off + k, none⟩)) := by
  unfold ptrAdd at h
  split at h
  · cases h
    cases hv with
    | ptr hb => exact ⟨_, _, rfl, DV.ptr hb⟩
  · rename_i es
    cases hd : es.drop k with
    | none => rw [hd] at h; cases h
    | some e =>
      rw [hd] at h; cases h
      cases hv with
      | fp hB hn hdv hp =>
        obtain ⟨h1, h2⟩ := hdv.drop hd
        refine ⟨_, _, rfl, DV.fp hB hn h1 ?_⟩
        obtain ⟨r, hr⟩ := hp
        rw [← List.drop_drop, ← hr, List.drop_append_of_le_length h2]
        exact List.prefix_append _ _
  · cases h

def loadAs (P : Program) (T : TypeId) (es : AV) : Option SV :=
  match P.underlying T, P.info? T with
  | some (.struct _), some i => (es.take i.size).map .agg
  | some (.array _ _), some i => (es.take i.size).map .agg
  | some _, some i => match es with
    | .cons a _ => if a.width = 1 then (if i.size = 1 then some (.one a) else none) else none
    | _ => none
  | _, _ => none
theorem loadAs_spec {N : Nat → Prop} {T : TypeId} {es : AV} {s : SV} {ad : Addr} {l : List Value} (h : loadAs P T es = some s) (hd : DV γ N w es l) (hc : Cells w ad l) :
    ∃ v, (loadVar T ad).run P w = .ok v w ∧ VR γ N w s v := by
  have hagg : ∀ i, P.info? T = some i → (∀ n, i.size = n → tyAgg P T n = true) → (es.take i.size).map SV.agg = some s → ∃ v, (loadVar T ad).run P w = .ok v w ∧ VR γ N w s v := fun i hi hT h => by
    cases ht : es.take i.size with
    | none => rw [ht] at h; cases h
    | some e =>
      rw [ht] at h; cases h
      obtain ⟨h1, h2⟩ := hd.take ht
      refine ⟨.agg (l.take i.size).toArray, run_load_agg (hT _ (by rw [List.length_take]; omega)) ?_, _, rfl, h1⟩
      intro j v hj
      refine hc j v ?_
      rw [List.getElem?_take] at hj
      split at hj
      · exact hj
      · cases hj
  unfold loadAs at h
  split at h
  · rename_i fs i hu hi
    exact hagg i hi (fun n hn => by unfold tyAgg; rw [hu, hi]; simp [hn]) h
  · rename_i e n i hu hi
    exact hagg i hi (fun n hn => by unfold tyAgg; rw [hu, hi]; simp [hn]) h
  · rename_i dsc i hns hna hu hi
    split at h
    · rename_i a r
      split at h
      · rename_i hw
        split at h
        · rename_i hsz
          cases h
          obtain ⟨xs, ys, rfl, h1, h2, h3⟩ := hd.cons_inv
          rw [hw] at h3
          obtain ⟨x, rfl⟩ := List.length_eq_one_iff.1 h3
          refine ⟨x, run_load_one ?_ ?_, h1⟩
          · unfold tyOne
            rw [hu, hi]
            cases dsc <;> first | (simpa using hsz) | skip
            · exact absurd rfl (hna _ _)
            · exact absurd rfl (hns _)
          · have := hc 0 x (by simp)
            simpa [Addr.add] using this
        · cases h
      · cases h
    · cases h
  · cases h

theorem load_ok (hS : St γ N0 H w) {T : TypeId} {x : Operand} {p s : SV} {es : AV} {d : Option Tmp} {ty : TypeId} {pos : String} {after : Array Edge} {g : Option (Nat × Bool)}
    (hx : VR γ (Nn N0 γ) w p (ρ x)) (hd : deref H p = some es) (hl : loadAs P T es = some s) : OpOk P f N0 H γ w ⟨d, .load T x, ty, pos, after, g⟩ ρ s H := by
  obtain ⟨b, off, l, e, h1, h2⟩ := deref_spec hS hx hd
  obtain ⟨v, h3, h4⟩ := loadAs_spec hl h1 h2
  exact OpOk.pure hS (v := v) (by simp [execOp, Instr.loadAt, Instr.sureAddr, e, h3]) h4

/-- where a field lies -/
def fieldOff (P : Program) (T : TypeId) (i : Nat) : Option Nat :=
  match P.underlying T with
  | some (.struct fs) => match fs[i]? with
    | some fl => match P.info? fl.type with
      | some fi => if fi.size = 0 then none else some fl.offset
      | none => none
    | none => none
  | _ => none
theorem fieldAddr_ok (hS : St γ N0 H w) {T : TypeId} {i k : Nat} {x : Operand} {p q : SV} {d : Option Tmp} {ty : TypeId} {pos : String} {after : Array Edge} {g : Option (Nat × Bool)}
    (hx : VR γ (Nn N0 γ) w p (ρ x)) (hk : fieldOff P T i = some k) (hq : ptrAdd k p = some q) : OpOk P f N0 H γ w ⟨d, .fieldAddr T x i, ty, pos, after, g⟩ ρ q H := by
  obtain ⟨b, off, e, h1⟩ := ptrAdd_spec hx hq
  refine OpOk.pure hS (v := .pointer (some ⟨b, off + k, none⟩)) ?_ h1
  unfold fieldOff at hk
  split at hk
  · rename_i fs hu
    split at hk
    · rename_i fl hf
      split at hk
      · rename_i fi hfi
        split at hk
        · cases hk
        · rename_i hsz
          cases hk
          simp only [execOp, e]
          simp [Instr.fieldAt, underlying, hu, hf, Instr.sureAddr, fieldPlace, sizeOf, typeInfo, hfi, hsz, addr_add]
      · cases hk
    · cases hk
  · cases hk

/-! slices -/
def slLen : SV → Option Nat
  | .one (.sl _ n) => some n
  | .one (.osl _ _ _ n) => some n
  | .one (.lim l) => some l.length
  | .one (.sc (.slice none 0 0)) => some 0
  | _ => none
theorem slLen_spec {N : Nat → Prop} {s : SV} {v : Value} {n : Nat} (hv : VR γ N w s v) (h : slLen s = some n) : ∃ A cap, v = .slice A n cap ∧ n ≤ cap := by
  unfold slLen at h
  split at h <;> cases h
  · cases hv with
    | sl _ _ _ _ hc => exact ⟨_, _, rfl, hc⟩
  · cases hv with
    | osl _ _ hc => exact ⟨_, _, rfl, hc⟩
  · cases hv with
    | lim hl =>
      obtain ⟨A, cap, e, hc⟩ := hl.form
      exact ⟨A, cap, e, hc⟩
  · cases hv; exact ⟨_, _, rfl, Nat.le_refl _⟩
/-- where element i of a slice or of an array lies -/
def elemPtr (P : Program) (T : TypeId) (i : Nat) (s : SV) : Option SV :=
  match P.underlying T with
  | some (.array len e) => match P.info? e with
    | some fi => if i < len then ptrAdd (i * fi.size) s else none
    | none => none
  | some (.slice e) => match P.info? e, s with
    | some fi, .one (.sl es n) => if i < n then (es.drop (i * fi.size)).map fun e => .one (.fp e) else none
    | some fi, .one (.osl _ b off n) => if i < n then some (.one (.ptr b (off + i * fi.size))) else none
    | _, _ => none
  | _ => none
def SV.idx : SV → Option Nat
  | .one (.sc (.int .i64 (.ofNat i))) => some i
  | _ => none
theorem idx_spec {N : Nat → Prop} {s : SV} {v : Value} {i : Nat} (hv : VR γ N w s v) (h : s.idx = some i) : v = .int .i64 (i : Int) := by
  unfold SV.idx at h
  split at h
  · cases h; cases hv; rfl
  · cases h
theorem indexAddr_ok (hS : St γ N0 H w) {T : TypeId} {i : Nat} {x y : Operand} {p q s : SV} {d : Option Tmp} {ty : TypeId} {pos : String} {after : Array Edge} {g : Option (Nat × Bool)}
    (hx : VR γ (Nn N0 γ) w p (ρ x)) (hy : VR γ (Nn N0 γ) w s (ρ y)) (hi : s.idx = some i) (hq : elemPtr P T i p = some q) : OpOk P f N0 H γ w ⟨d, .indexAddr T x y, ty, pos, after, g⟩ ρ q H := by
  have e2 := idx_spec hy hi
  unfold elemPtr at hq
  split at hq
  · rename_i len e hu
    split at hq
    · rename_i fi hfi
      split at hq
      · rename_i hlt
        obtain ⟨b, off, e1, h1⟩ := ptrAdd_spec hx hq
        refine OpOk.pure hS (v := .pointer (some ⟨b, off + i * fi.size, none⟩)) ?_ h1
        simp only [execOp, e1, e2]
        simp [Instr.indexAt, asIntOf, underlying, hu, Instr.sureAddr, sizeOf, typeInfo, hfi, hlt, addr_add]
      · cases hq
    · cases hq
  · rename_i e hu
    split at hq
    · rename_i fi es n hfi
      split at hq
      · rename_i hlt
        cases hdr : es.drop (i * fi.size) with
        | none => rw [hdr] at hq; cases hq
        | some er =>
          rw [hdr] at hq; cases hq
          generalize hv : ρ x = v at hx
          cases hx with
          | sl hB hn hdv hp hcap =>
            rename_i b t cs off xs cap
            obtain ⟨h1, h2⟩ := hdv.drop hdr
            refine OpOk.pure hS (v := .pointer (some ⟨b, off + i * fi.size, none⟩)) ?_ (DV.fp hB hn h1 ?_)
            · simp only [execOp, hv, e2]
              simp [Instr.indexAt, asIntOf, underlying, hu, sizeOf, typeInfo, hfi, hlt, addr_add]
            · obtain ⟨r, hr⟩ := hp
              rw [← List.drop_drop, ← hr, List.drop_append_of_le_length h2]
              exact List.prefix_append _ _
      · cases hq
    · rename_i fi gr b off n hfi
      split at hq
      · rename_i hlt
        cases hq
        generalize hv : ρ x = v at hx
        cases hx with
        | osl hb hr hcap =>
          rename_i g0 cap
          refine OpOk.pure hS (v := .pointer (some ⟨g0, off + i * fi.size, none⟩)) ?_ (DV.ptr hb)
          simp only [execOp, hv, e2]
          simp [Instr.indexAt, asIntOf, underlying, hu, sizeOf, typeInfo, hfi, hlt, addr_add]
      · cases hq
    · cases hq
  · cases hq

theorem nilCheck_ok (hS : St γ N0 H w) {x : Operand} {p : SV} {q : SV} {d : Option Tmp} {ty : TypeId} {pos : String} {after : Array Edge} {g : Option (Nat × Bool)}
    (hx : VR γ (Nn N0 γ) w p (ρ x)) (hq : ptrAdd 0 p = some q) : OpOk P f N0 H γ w ⟨d, .nilCheck x, ty, pos, after, g⟩ ρ p H := by
  obtain ⟨b, off, e, h1⟩ := ptrAdd_spec hx hq
  exact OpOk.pure hS (v := ρ x) (by simp [execOp, e]) hx

theorem PVs.get {N : Nat → Prop} {l : List (Bool × AV)} {vs : List Value} (h : PVs γ N w l vs) : ∀ {i : Nat} {p : Bool × AV}, l[i]? = some p → ∃ v, vs[i]? = some v ∧ PV γ N w p v := by
  induction h with
  | nil => intro i p hi; simp at hi
  | cons h1 _ ih =>
    intro i p hi
    cases i with
    | zero => simp at hi; subst hi; exact ⟨_, rfl, h1⟩
    | succ i => simp at hi; exact ih hi
def SV.comp (i : Nat) : SV → Option SV
  | .tup l => match l[i]? with
    | some (true, cs) => some (.agg cs)
    | some (false, a) => some (.one a)
    | none => none
  | _ => none
theorem extract_ok (hS : St γ N0 H w) {x : Operand} {i : Nat} {s r : SV} {d : Option Tmp} {ty : TypeId} {pos : String} {after : Array Edge} {g : Option (Nat × Bool)}
    (hx : VR γ (Nn N0 γ) w s (ρ x)) (hr : s.comp i = some r) : OpOk P f N0 H γ w ⟨d, .extract x i, ty, pos, after, g⟩ ρ r H := by
  unfold SV.comp at hr
  split at hr
  · rename_i l
    obtain ⟨vs, e, h1⟩ := hx
    split at hr
    · rename_i cs hl
      cases hr
      obtain ⟨v, h2, h3⟩ := h1.get hl
      exact OpOk.pure hS (v := v) (by simp [execOp, e, Instr.extract, h2]) h3
    · rename_i a hl
      cases hr
      obtain ⟨v, h2, h3⟩ := h1.get hl
      exact OpOk.pure hS (v := v) (by simp [execOp, e, Instr.extract, h2]) h3
    · cases hr
  · cases hr
end
end

section
variable [Rho]

section
variable {P : Program} {f : Nat} {N0 : Nat → Prop} {H : AH} {γ : Nat → Option Nat} {w : World} {o : Oper} {ρ : Operand → Value}

/-! cells written into an array -/
theorem fold_get (off : Nat) : ∀ (l : List Value) (k : Nat) (cs : Array Value) (i : Nat), off + k + l.length ≤ cs.size →
    (((l.zipIdx k).foldl (fun cs (p : Value × Nat) => cs.setIfInBounds (off + p.2) p.1) cs)[i]? = if off + k ≤ i ∧ i < off + k + l.length then l[i - (off + k)]? else cs[i]?) ∧
    ((l.zipIdx k).foldl (fun cs (p : Value × Nat) => cs.setIfInBounds (off + p.2) p.1) cs).size = cs.size := by
  intro l
  induction l with
  | nil =>
    intro k cs i _
    refine ⟨?_, rfl⟩
    rw [if_neg (by simp)]; rfl
  | cons v l ih =>
    intro k cs i h
    simp only [List.length_cons] at h
    obtain ⟨h1, h2⟩ := ih (k + 1) (cs.setIfInBounds (off + k) v) i (by simp; omega)
    simp only [List.zipIdx_cons, List.foldl_cons, List.length_cons]
    refine ⟨?_, by rw [h2]; simp⟩
    rw [h1]
    by_cases c1 : off + (k + 1) ≤ i ∧ i < off + (k + 1) + l.length
    · rw [if_pos c1, if_pos (by omega), show i - (off + k) = (i - (off + (k + 1))) + 1 by omega, List.getElem?_cons_succ]
    · rw [if_neg c1]
      by_cases c2 : i = off + k
      · subst c2
        rw [if_pos (by omega), Nat.sub_self, List.getElem?_cons_zero]
        simp [show off + k < cs.size by omega]
      · rw [if_neg (by omega), Array.getElem?_setIfInBounds_ne (by omega)]
theorem fold_put (off : Nat) (v : Array Value) (cs : Array Value) (h : off + v.size ≤ cs.size) :
    v.zipIdx.foldl (fun cs (p : Value × Nat) => cs.setIfInBounds (off + p.2) p.1) cs = putRow cs off v.toList := by
  have e : v.zipIdx.foldl (fun cs (p : Value × Nat) => cs.setIfInBounds (off + p.2) p.1) cs = (v.toList.zipIdx 0).foldl (fun cs (p : Value × Nat) => cs.setIfInBounds (off + p.2) p.1) cs := by
    rw [← Array.foldl_toList]
    simp
  rw [e]
  apply Array.ext_getElem?
  intro i
  rw [(fold_get off v.toList 0 cs i (by simpa using h)).1]
  unfold putRow
  simp only [Nat.add_zero, Array.length_toList, List.getElem?_toArray]
  have hl : (cs.toList.take off).length = off := by simp; omega
  by_cases c1 : i < off
  · rw [if_neg (by omega), List.append_assoc, List.getElem?_append_left (by omega), List.getElem?_take_of_lt c1]; simp
  · by_cases c2 : i < off + v.size
    · rw [if_pos ⟨by omega, c2⟩, List.append_assoc, List.getElem?_append_right (by omega), hl, List.getElem?_append_left (by simp; omega)]
    · rw [if_neg (by omega), List.getElem?_append_right (by simp; omega), List.getElem?_drop]
      simp only [List.length_append, hl, Array.length_toList]
      rw [show off + v.size + (i - (off + v.size)) = i by omega]; simp

/-- parts put into cells -/
def fillAs (place : Nat → Option (Nat × Nat)) (cs : AV) : List (Nat × SV) → Option AV
  | [] => some cs
  | (i, s) :: r => match place i, s.cells with
    | some (off, size), some ps => if ps.width = size then match cs.put off ps with
      | some cs' => fillAs place cs' r
      | none => none else none
    | _, _ => none
inductive Parts (γ : Nat → Option Nat) (N : Nat → Prop) (w : World) : List (Nat × SV) → List (Nat × Value) → Prop
  | nil : Parts γ N w [] []
  | cons {i s v l vs} : VR γ N w s v → Parts γ N w l vs → Parts γ N w ((i, s) :: l) ((i, v) :: vs)
theorem cells_spec {N : Nat → Prop} {s : SV} {v : Value} {cs : AV} (hv : VR γ N w s v) (h : s.cells = some cs) : DV γ N w cs v.cells.toList := by
  unfold SV.cells at h
  split at h
  · cases h
    rename_i a
    have h1 : DV γ N w a [v] := hv
    have ho := h1.one
    have e : v.cells = #[v] := by
      unfold oneCells at ho
      cases v <;> first | rfl | (simp [Value.oneCell'] at ho)
    rw [e]
    exact DV.cons (xs := [v]) h1 .nil
  · cases h
    obtain ⟨l, rfl, h1⟩ := hv
    simpa [Value.cells] using h1
  · cases h
theorem fill_spec {N : Nat → Prop} {place : Nat → Option (Nat × Nat)} : ∀ (l : List (Nat × SV)) (vs : List (Nat × Value)) (cs cs' : AV) (c : Array Value), Parts γ N w l vs → DV γ N w cs c.toList → fillAs place cs l = some cs' →
    ∃ c', Instr.fill place c vs = some c' ∧ DV γ N w cs' c'.toList ∧ c'.size = c.size := by
  intro l
  induction l with
  | nil => intro vs cs cs' c hp hd h; cases hp; simp only [fillAs] at h; cases h; exact ⟨c, rfl, hd, rfl⟩
  | cons p l ih =>
    obtain ⟨i, s⟩ := p
    intro vs cs cs' c hp hd h
    cases hp with
    | cons hv hr =>
      rename_i v vs
      simp only [fillAs] at h
      split at h
      · rename_i off size ps hpl hps
        split at h
        · rename_i hw
          split at h
          · rename_i cs1 hput
            have h1 := cells_spec hv hps
            obtain ⟨h2, h3⟩ := hd.put h1 hput
            have hsz : v.cells.size = size := by rw [← hw, ← h1.length]; simp
            have hfit : off + v.cells.size ≤ c.size := by simpa using h3
            have hfold := fold_put off v.cells c hfit
            obtain ⟨c', h4, h5, h6⟩ := ih vs cs1 cs' (putRow c off v.cells.toList) hr (by unfold putRow; simpa using h2) h
            refine ⟨c', ?_, h5, ?_⟩
            · unfold Instr.fill
              rw [hpl]
              simp only [hsz]
              rw [if_neg (by simp; omega)]
              rw [hfold]; exact h4
            · rw [h6]; unfold putRow; simp; omega
          · cases h
        · cases h
      · cases h

/-- the zero of a type, as cells -/
def zeroAs (P : Program) (T : TypeId) : Option (List Value) :=
  match P.info? T with
  | some i => match i.zero with
    | some z => cond (oneCells z.cells.toList) (some z.cells.toList) none
    | none => none
  | none => none
theorem zeroAs_spec {T : TypeId} {l : List Value} (h : zeroAs P T = some l) : ∃ z, tyZero P T z ∧ z.cells = l.toArray ∧ oneCells l = true ∧ (∀ w, (zeroValue T).run P w = .ok z w) := by
  unfold zeroAs at h
  split at h
  · rename_i i hi
    split at h
    · rename_i z hz
      cases ho : oneCells z.cells.toList with
      | false => rw [ho] at h; cases h
      | true =>
        rw [ho] at h; cases h
        exact ⟨z, by unfold tyZero; rw [hi]; simp [hz], by simp, ho, fun w => by simp [zeroValue, typeInfo, hi, hz]⟩
    · cases h
  · cases h

def placesOf (P : Program) (fs : Array Field) : List (Option (Nat × Nat)) := fs.toList.map fun fl => (P.info? fl.type).map fun fi => (fl.offset, fi.size)
def placeIn (l : List (Option (Nat × Nat))) (i : Nat) : Option (Nat × Nat) := match l[i]? with
  | some x => x
  | none => none
theorem run_places {fs : Array Field} (h : (placesOf P fs).all Option.isSome = true) :
    ∃ pl : Array (Nat × Nat), (∀ w, (fs.mapM fun fl => do pure (fl.offset, ← sizeOf fl.type) : Sem (Array (Nat × Nat))).run P w = .ok pl w) ∧ ∀ i, pl[i]? = placeIn (placesOf P fs) i := by
  obtain ⟨fl⟩ := fs
  have key : ∀ l : List Field, ((l.map fun fl => (P.info? fl.type).map fun fi => (fl.offset, fi.size)).all Option.isSome = true) →
      ∃ pl : List (Nat × Nat), (∀ w, (l.mapM fun fl => do pure (fl.offset, ← sizeOf fl.type) : Sem (List (Nat × Nat))).run P w = .ok pl w) ∧ ∀ i, pl[i]? = placeIn (l.map fun fl => (P.info? fl.type).map fun fi => (fl.offset, fi.size)) i := by
    intro l
    induction l with
    | nil => intro _; exact ⟨[], fun w => rfl, fun i => by simp [placeIn]⟩
    | cons x l ih =>
      intro h
      simp only [List.map_cons, List.all_cons, Bool.and_eq_true] at h
      obtain ⟨pl, h1, h2⟩ := ih h.2
      cases hx : P.info? x.type with
      | none => rw [hx] at h; simp at h
      | some fi =>
        refine ⟨(x.offset, fi.size) :: pl, fun w => ?_, fun i => ?_⟩
        · rw [List.mapM_cons]
          have hs : (sizeOf x.type).run P w = .ok fi.size w := by simp [sizeOf, typeInfo, hx]
          have e1 : ((do pure (x.offset, ← sizeOf x.type) : Sem (Nat × Nat))).run P w = .ok (x.offset, fi.size) w := by simp [hs]
          rw [Sem.run_bind, e1, Result.andThen_ok, Sem.run_bind, h1 w, Result.andThen_ok]
          rfl
        · cases i with
          | zero => simp [placeIn, hx]
          | succ i => simpa [placeIn, hx] using h2 i
  obtain ⟨pl, h1, h2⟩ := key fl (by simpa [placesOf] using h)
  refine ⟨pl.toArray, fun w => ?_, fun i => by simpa [placesOf] using h2 i⟩
  rw [Array.mapM_eq_mapM_toList, map_eq_pure_bind, Sem.run_bind, h1 w, Result.andThen_ok]
  rfl

def buildAs (P : Program) (T : TypeId) (parts : List (Nat × SV)) : Option SV :=
  match zeroAs P T, P.underlying T with
  | some z, some (.struct fs) => cond ((placesOf P fs).all Option.isSome) ((fillAs (placeIn (placesOf P fs)) (.ofVals z) parts).map .agg) none
  | some z, some (.array _ e) => match P.info? e with
    | some i => (fillAs (fun k => some (k * i.size, i.size)) (.ofVals z) parts).map .agg
    | none => none
  | _, _ => none
theorem build_ok (hS : St γ N0 H w) {T : TypeId} {parts : Array (Nat × Operand)} {l : List (Nat × SV)} {s : SV} {d : Option Tmp} {ty : TypeId} {pos : String} {after : Array Edge} {g : Option (Nat × Bool)}
    (hp : Parts γ (Nn N0 γ) w l (parts.toList.map fun p => (p.1, ρ p.2))) (h : buildAs P T l = some s) : OpOk P f N0 H γ w ⟨d, .build T parts, ty, pos, after, g⟩ ρ s H := by
  have hl : (parts.map fun (p : Nat × Operand) => (p.1, ρ p.2)).toList = parts.toList.map fun p => (p.1, ρ p.2) := by simp
  unfold buildAs at h
  split at h
  · rename_i z fs hz hu
    obtain ⟨zv, _, hzc, hz1, hzr⟩ := zeroAs_spec hz
    cases hall : (placesOf P fs).all Option.isSome with
    | false => rw [hall] at h; cases h
    | true =>
      rw [hall] at h
      simp only [cond_true] at h
      obtain ⟨pl, hpl, hpl2⟩ := run_places hall
      cases hf : fillAs (placeIn (placesOf P fs)) (.ofVals z) l with
      | none => rw [hf] at h; cases h
      | some cs =>
        rw [hf] at h; cases h
        obtain ⟨c', h1, h2, h3⟩ := fill_spec l _ _ _ zv.cells hp (by rw [hzc]; exact DV.ofVals hz1) hf
        refine OpOk.pure hS (v := .agg c') ?_ ⟨c'.toList, by simp, h2⟩
        have hfn : (fun i => pl[i]?) = placeIn (placesOf P fs) := funext hpl2
        simp only [execOp, Instr.build, Sem.run_bind, hzr, Result.andThen_ok, run_underlying hu, hpl, hl, hfn, h1]
        rfl
  · rename_i z n e hz hu
    obtain ⟨zv, _, hzc, hz1, hzr⟩ := zeroAs_spec hz
    split at h
    · rename_i i hi
      cases hf : fillAs (fun k => some (k * i.size, i.size)) (.ofVals z) l with
      | none => rw [hf] at h; cases h
      | some cs =>
        rw [hf] at h; cases h
        obtain ⟨c', h1, h2, h3⟩ := fill_spec l _ _ _ zv.cells hp (by rw [hzc]; exact DV.ofVals hz1) hf
        refine OpOk.pure hS (v := .agg c') ?_ ⟨c'.toList, by simp, h2⟩
        have hs : (sizeOf e).run P w = .ok i.size w := by simp [sizeOf, typeInfo, hi]
        simp only [execOp, Instr.build, Sem.run_bind, hzr, Result.andThen_ok, run_underlying hu, hs, hl, h1]
        rfl
    · cases h
  · cases h
end
end

section
variable [Rho]

section
variable {P : Program} {f : Nat} {N0 : Nat → Prop} {H : AH} {γ : Nat → Option Nat} {w : World} {o : Oper} {ρ : Operand → Value}

theorem alloc_ok (hS : St γ N0 H w) {T : TypeId} {z : List Value} {d : Option Tmp} {ty : TypeId} {pos : String} {after : Array Edge} {g : Option (Nat × Bool)}
    (hf : f ≤ H.n) (hz : zeroAs P T = some z) (hT : T ≠ 231) : OpOk P f N0 H γ w ⟨d, .alloc T, ty, pos, after, g⟩ ρ (.one (.ptr H.n 0)) (H.push (T, .ofVals z)) := by
  obtain ⟨zv, h1, h2, h3, _⟩ := zeroAs_spec hz
  refine (runs_alloc h1).mono ?_
  rintro v w' ⟨rfl, rfl⟩
  have hB := Blk.new w T zv.cells
  rw [h2] at hB ⊢
  obtain ⟨h4, h5⟩ := hS.new (l := z) (ex := []) (Ext.alloc w _) (Nat.le_refl _) (by rw [List.append_nil]; exact hB) hT (DV.ofVals h3)
  refine ⟨_, h4, h5.mono hf, DV.ptr ?_⟩
  simp [extG]
theorem box_ok (hS : St γ N0 H w) {T : TypeId} {x : Operand} {s : SV} {cs : AV} {d : Option Tmp} {ty : TypeId} {pos : String} {after : Array Edge} {g : Option (Nat × Bool)}
    (hf : f ≤ H.n) (hx : VR γ (Nn N0 γ) w s (ρ x)) (hc : s.cells = some cs) (hT : T ≠ 231) : OpOk P f N0 H γ w ⟨d, .box T x, ty, pos, after, g⟩ ρ (.one (.ptr H.n 0)) (H.push (T, cs)) := by
  refine runs_box.mono ?_
  rintro v w' ⟨rfl, rfl⟩
  have hB := Blk.new w T (ρ x).cells
  obtain ⟨h4, h5⟩ := hS.new (l := (ρ x).cells.toList) (ex := []) (Ext.alloc w _) (Nat.le_refl _) (by rw [List.append_nil]; exact hB) hT (cells_spec hx hc)
  refine ⟨_, h4, h5.mono hf, DV.ptr ?_⟩
  simp [extG]
theorem tySize_of {T : TypeId} {i : TypeInfo} {n : Nat} (hi : P.info? T = some i) (h : i.size = n) : tySize P T n = true := by
  unfold tySize; rw [hi]; simp [h]
theorem store_ok (hS : St γ N0 H w) {T t : TypeId} {x y : Operand} {s : SV} {b off : Nat} {cs cs' ps : AV} {i : TypeInfo} {d : Option Tmp} {ty : TypeId} {pos : String} {after : Array Edge} {g : Option (Nat × Bool)}
    (hx : VR γ (Nn N0 γ) w (.one (.ptr b off)) (ρ x)) (hy : VR γ (Nn N0 γ) w s (ρ y)) (hb : f ≤ b) (hg : H.get b = some (t, cs)) (hps : s.cells = some ps) (hi : P.info? T = some i) (hsz : i.size = ps.width) (hput : cs.put off ps = some cs') :
    OpOk P f N0 H γ w ⟨d, .store T x y, ty, pos, after, g⟩ ρ .und (H.set b (some (t, cs'))) := by
  generalize hv : ρ x = v at hx
  cases hx with
  | ptr hbg =>
    rename_i g0
    obtain ⟨l, ex, hB, hd⟩ := hS.live b g0 t cs hbg hg
    have h1 := cells_spec hy hps
    obtain ⟨h2, h3⟩ := hd.put h1 hput
    have hlen : (ρ y).cells.size = ps.width := by rw [← h1.length]; simp
    obtain ⟨w', hr, hu, hB'⟩ := run_storeVar (P := P) (T := T) (off := off) (v := ρ y) hB (tySize_of hi (hsz.trans hlen.symm)) h1.one (by simp at h3 ⊢; omega)
    have he : putRow (l ++ ex).toArray off (ρ y).cells.toList = (l.take off ++ (ρ y).cells.toList ++ l.drop (off + (ρ y).cells.toList.length) ++ ex).toArray := by
      unfold putRow
      congr 1
      simp only []
      rw [List.take_append_of_le_length (by omega), List.drop_append_of_le_length (by omega), List.append_assoc, List.append_assoc, List.append_assoc]
    rw [he] at hB'
    obtain ⟨h4, h5⟩ := hS.write (f := f) (ol := l ++ ex) (l := l.take off ++ (ρ y).cells.toList ++ l.drop (off + (ρ y).cells.toList.length)) (ex := ex) hbg hg hb hB hu hB' (by simp at h3 ⊢; omega) h2
    unfold OpOk Runs
    simp only [execOp, hv]
    simp only [Instr.storeAt, Instr.sureAddr]
    simp [hr]
    exact ⟨γ, h4, h5, trivial⟩

/-- zeros one after another -/
def zrep (z : List Value) (n : Nat) : List Value := (List.range n).map fun i => z.toArray[i % z.length]!
def elemInfo (P : Program) (T : TypeId) : Option (TypeId × TypeInfo) := match P.underlying T with
  | some (.slice e) => match P.info? e with
    | some i => some (e, i)
    | none => none
  | _ => none
theorem elemInfo_spec {T e : TypeId} {i : TypeInfo} (h : elemInfo P T = some (e, i)) : P.underlying T = some (.slice e) ∧ P.info? e = some i := by
  unfold elemInfo at h
  cases hu : P.underlying T with
  | none => rw [hu] at h; cases h
  | some dsc =>
    rw [hu] at h
    cases dsc with
    | slice e' =>
      simp only at h
      cases hi : P.info? e' with
      | none => rw [hi] at h; cases h
      | some i' => rw [hi] at h; cases h; exact ⟨rfl, hi⟩
    | _ => cases h

theorem buildSlice_ok (hS : St γ N0 H w) {T e : TypeId} {i : TypeInfo} {z : List Value} {cs : AV} {n : Nat} {parts : Array (Nat × Operand)} {l : List (Nat × SV)} {d : Option Tmp} {ty : TypeId} {pos : String} {after : Array Edge} {g : Option (Nat × Bool)}
    (hp : Parts γ (Nn N0 γ) w l (parts.toList.map fun p => (p.1, ρ p.2))) (hi : elemInfo P T = some (e, i)) (hz : zeroAs P e = some z) (h0 : 0 < n * i.size) (h1 : n * i.size ≤ 16777216) (ho : oneCells (zrep z (n * i.size)) = true)
    (hf : fillAs (fun k => some (k * i.size, i.size)) (.ofVals (zrep z (n * i.size))) l = some cs) : OpOk P f N0 H γ w ⟨d, .buildSlice T n parts, ty, pos, after, g⟩ ρ (.one (.sl cs n)) H := by
  have hl : (parts.map fun (p : Nat × Operand) => (p.1, ρ p.2)).toList = parts.toList.map fun p => (p.1, ρ p.2) := by simp
  obtain ⟨hu, hi⟩ := elemInfo_spec hi
  obtain ⟨zv, _, hzc, hz1, hzr⟩ := zeroAs_spec hz
  have hinit : (Array.range (n * i.size)).map (zv.cells[· % zv.cells.size]!) = (zrep z (n * i.size)).toArray := by
    unfold zrep
    rw [hzc]
    apply Array.ext'
    simp
  obtain ⟨c', h2, h3, h4⟩ := fill_spec l _ _ _ ((Array.range (n * i.size)).map (zv.cells[· % zv.cells.size]!)) hp (by rw [hinit]; exact DV.ofVals ho) hf
  have hs : (sizeOf e).run P w = .ok i.size w := by simp [sizeOf, typeInfo, hi]
  refine Runs.of_run (v := .slice (some ⟨w.heap.size, 0, none⟩) n n) (w' := w.alloc (.cells c' e)) ?_ ⟨γ, hS.ext (Ext.alloc _ _), .of_ext hS.lt (Ext.alloc _ _), ?_⟩
  · simp only [execOp, Instr.buildSlice, Sem.run_bind, run_underlying hu, hs, Result.andThen_ok]
    rw [if_neg (by omega), if_neg (by omega)]
    simp only [Sem.run_bind, Sem.run_pure, hzr, Result.andThen_ok, hl, h2]
    simp [newRow]
  · have hk : Keep (Nn N0 γ) w (w.alloc (.cells c' e)) := (Step.of_ext (f := H.n) hS.lt (Ext.alloc _ _)).keep hS
    exact DV.sl (Blk.new _ _ _) (fun hn => Nat.lt_irrefl _ (hS.nlt hn)) (h3.keep hk (fun _ _ h => h) (fun _ h => .inl h)) (by simp) (Nat.le_refl _)

theorem runs_makeSlice {P : Program} {w : World} {ρ : Operand → Value} {T e : TypeId} {i : TypeInfo} {z : List Value} {n : Nat} {x y : Operand} {d : Option Tmp} {ty : TypeId} {pos : String} {after : Array Edge} {g : Option (Nat × Bool)}
    (ex : ρ x = .int .i64 (n : Int)) (ey : ρ y = .int .i64 (n : Int)) (hi : elemInfo P T = some (e, i)) (hz : zeroAs P e = some z) (hn : n ≤ 65536) (hb : i.bytes ≤ 65536) :
    Runs P ⟨d, .makeSlice T x y, ty, pos, after, g⟩ ρ w (fun v w' => v = .slice (some ⟨w.heap.size, 0, none⟩) n n ∧ w' = w.alloc (.cells (zrep z (n * i.size)).toArray e)) := by
  obtain ⟨hu, hi⟩ := elemInfo_spec hi
  obtain ⟨zv, _, hzc, hz1, hzr⟩ := zeroAs_spec hz
  have hinit : (Array.range (n * i.size)).map (zv.cells[· % zv.cells.size]!) = (zrep z (n * i.size)).toArray := by
    unfold zrep
    rw [hzc]
    apply Array.ext'
    simp
  have hwrap : IntKind.i64.wrap (n : Int) = (n : Int) := by rw [IntKind.wrap_i64]; omega
  have hm0 : i.bytes * n ≤ 4294967296 := Nat.le_trans (Nat.mul_le_mul hb hn) (by decide)
  have hmul : (i.bytes : Int) * (n : Int) ≤ 4294967296 := by rw [← Int.natCast_mul]; exact Int.ofNat_le.2 hm0
  have hs : (sizeOf e).run P w = .ok i.size w := by simp [sizeOf, typeInfo, hi]
  have ht : (typeInfo e).run P w = .ok i w := by simp [typeInfo, hi]
  have hmark : (askRoom (n * i.bytes)).run P w = .ok () w := by
    unfold askRoom
    split <;> rfl
  have hrun : (execOp ρ ⟨d, .makeSlice T x y, ty, pos, after, g⟩).run P w = .ok (.value (.slice (some ⟨w.heap.size, 0, none⟩) n n)) (w.alloc (.cells (zrep z (n * i.size)).toArray e)) := by
    simp only [execOp, ex, ey, Instr.makeSlice, Sem.run_bind, run_underlying hu, Result.andThen_ok, asInt, asIntOf, Sem.run_pure, ht]
    rw [hwrap]
    have hfalse : (decide ((n : Int) < 0) || decide ((i.bytes : Int) * (n : Int) > 2 ^ 48)) = false := by
      simp; omega
    rw [hfalse]
    rw [if_neg (by simp)]
    simp only [Int.toNat_natCast, hmark, hs, Sem.run_bind, Result.andThen_ok]
    by_cases h0 : n * i.size = 0
    · rw [if_pos h0]
      have hr0 : Array.range 0 = #[] := rfl
      simp [newRow, h0, zrep, hr0]
    · rw [if_neg h0]
      simp only [Sem.run_bind, hzr, Result.andThen_ok, Sem.run_pure, hinit]
      simp [newRow]
  exact Runs.of_run hrun ⟨rfl, rfl⟩
theorem makeSlice_ok (hS : St γ N0 H w) {T e : TypeId} {i : TypeInfo} {z : List Value} {n : Nat} {x y : Operand} {s t : SV} {d : Option Tmp} {ty : TypeId} {pos : String} {after : Array Edge} {g : Option (Nat × Bool)}
    (hf : f ≤ H.n) (hx : VR γ (Nn N0 γ) w s (ρ x)) (hy : VR γ (Nn N0 γ) w t (ρ y)) (hsi : s.idx = some n) (hti : t.idx = some n) (hi : elemInfo P T = some (e, i)) (hz : zeroAs P e = some z) (hn : n ≤ 65536) (hb : i.bytes ≤ 65536) (hT : e ≠ 231) (ho : oneCells (zrep z (n * i.size)) = true) :
    OpOk P f N0 H γ w ⟨d, .makeSlice T x y, ty, pos, after, g⟩ ρ (.one (.osl false H.n 0 n)) (H.push (e, .ofVals (zrep z (n * i.size)))) := by
  have ex := idx_spec hx hsi
  have ey := idx_spec hy hti
  obtain ⟨h4, h5⟩ := hS.new (l := zrep z (n * i.size)) (ex := []) (Ext.alloc w (.cells (zrep z (n * i.size)).toArray e)) (Nat.le_refl _) (by rw [List.append_nil]; exact Blk.new _ _ _) hT (DV.ofVals ho)
  refine (runs_makeSlice ex ey hi hz hn hb).mono ?_
  rintro v w' ⟨rfl, rfl⟩
  refine ⟨_, h4, h5.mono hf, DV.osl (g := w.heap.size) ?_ (fun h => by cases h) (Nat.le_refl _)⟩
  simp [extG]

/-- captured values -/
inductive Caps (γ : Nat → Option Nat) (N : Nat → Prop) (w : World) : List SV → List Value → Prop
  | nil : Caps γ N w [] []
  | cons {s v l vs} : VR γ N w s v → Caps γ N w l vs → Caps γ N w (s :: l) (v :: vs)
def capsAs : List SV → Option AV
  | [] => some .nil
  | .one a :: r => match capsAs r with
    | some c => some (.cons a c)
    | none => none
  | _ => none
theorem caps_spec {N : Nat → Prop} : ∀ {l : List SV} {vs : List Value} {c : AV}, Caps γ N w l vs → capsAs l = some c → DV γ N w c vs := by
  intro l
  induction l with
  | nil => intro vs c h hc; cases h; cases hc; exact .nil
  | cons s l ih =>
    intro vs c h hc
    cases h with
    | cons h1 h2 =>
      rename_i v vs
      cases s with
      | one a =>
        simp only [capsAs] at hc
        split at hc
        · rename_i c' hc'
          cases hc
          exact DV.cons (xs := [v]) h1 (ih h2 hc')
        · cases hc
      | _ => cases hc
theorem makeFunc_ok (hS : St γ N0 H w) {f0 : Nat} {captured : Array Operand} {l : List SV} {c : AV} {d : Option Tmp} {ty : TypeId} {pos : String} {after : Array Edge} {g : Option (Nat × Bool)}
    (hl : Caps γ (Nn N0 γ) w l (captured.toList.map ρ)) (hc : capsAs l = some c) : OpOk P f N0 H γ w ⟨d, .makeFunc (.func f0) #[] captured, ty, pos, after, g⟩ ρ (.one (.fn f0 c)) H := by
  refine OpOk.pure hS (v := .func (.func f0) #[] (captured.map ρ)) (by simp [execOp, Instr.makeFunc]) ?_
  have := DV.fn (f := f0) (caps_spec hl hc)
  have e : (captured.toList.map ρ).toArray = captured.map ρ := by
    apply Array.ext'; simp
  rw [e] at this
  exact this
end
end
end Go.Proofs.YteaggpgdfiodfaaGreatDoor
