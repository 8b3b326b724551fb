/-
  Digits to the base 2^32 as lists: their value, sums, differences, products. Plain facts, no program. Conditions: none.
-/
namespace Go.Proofs.YteaggpgdfiodfaaGreatDoor
set_option linter.all false

/-- the base of the digits -/
def B32 : Nat := 4294967296
theorem B32_eq : B32 = 4294967296 := rfl
theorem B32_pos : 0 < B32 := by decide
/-- the value of digits, the lowest first -/
def dval : List Nat → Nat
  | [] => 0
  | d :: l => d + B32 * dval l
def digitsOk (l : List Nat) : Prop := ∀ d ∈ l, d < B32
/-- digits without a zero at the end -/
structure Norm (l : List Nat) : Prop where
  ok : digitsOk l
  last : l.getLast? ≠ some 0

theorem dval_append : ∀ (a b : List Nat), dval (a ++ b) = dval a + B32 ^ a.length * dval b
  | [], b => by simp [dval]
  | d :: a, b => by
    simp only [List.cons_append, dval, List.length_cons, dval_append a b, Nat.pow_succ, Nat.mul_add]
    rw [Nat.mul_comm (B32 ^ a.length) B32, Nat.mul_assoc, Nat.add_assoc]
theorem dval_snoc (a : List Nat) (x : Nat) : dval (a ++ [x]) = dval a + B32 ^ a.length * x := by
  rw [dval_append]; simp [dval]
theorem dval_zeros (n : Nat) : dval (List.replicate n 0) = 0 := by
  induction n with
  | zero => rfl
  | succ n ih => simp [List.replicate_succ, dval, ih]
theorem dval_take_succ (l : List Nat) (i : Nat) (h : i < l.length) : dval (l.take (i + 1)) = dval (l.take i) + B32 ^ i * l[i] := by
  rw [List.take_succ_eq_append_getElem h, dval_snoc]
  simp [Nat.min_eq_left (Nat.le_of_lt h)]
theorem dval_take_all (l : List Nat) (i : Nat) (h : l.length ≤ i) : dval (l.take i) = dval l := by rw [List.take_of_length_le h]
theorem dval_lt {l : List Nat} (h : digitsOk l) : dval l < B32 ^ l.length := by
  induction l with
  | nil => simp [dval]
  | cons d l ih =>
    have hd : d < B32 := h d (by simp)
    have hl := ih (fun x hx => h x (by simp [hx]))
    simp only [dval, List.length_cons, Nat.pow_succ]
    have : B32 * (dval l + 1) ≤ B32 * B32 ^ l.length := Nat.mul_le_mul_left _ hl
    rw [Nat.mul_comm (B32 ^ l.length)]
    rw [Nat.mul_add] at this
    omega
theorem digitsOk.append {a b : List Nat} (ha : digitsOk a) (hb : digitsOk b) : digitsOk (a ++ b) := by
  intro d hd
  rcases List.mem_append.1 hd with h | h
  · exact ha d h
  · exact hb d h
theorem digitsOk.snoc {a : List Nat} {x : Nat} (ha : digitsOk a) (hx : x < B32) : digitsOk (a ++ [x]) := ha.append (by intro d hd; simp at hd; omega)
theorem digitsOk.take {a : List Nat} (ha : digitsOk a) (k : Nat) : digitsOk (a.take k) := fun d hd => ha d (List.mem_of_mem_take hd)
theorem digitsOk.get {a : List Nat} (ha : digitsOk a) {i : Nat} (h : i < a.length) : a[i] < 4294967296 := ha _ (List.getElem_mem h)

/-- the digits without zeros at the end -/
def trimL (l : List Nat) : List Nat := (l.reverse.dropWhile (· == 0)).reverse
theorem trimL_snoc_zero (l : List Nat) : trimL (l ++ [0]) = trimL l := by simp [trimL]
theorem trimL_snoc {l : List Nat} {x : Nat} (h : x ≠ 0) : trimL (l ++ [x]) = l ++ [x] := by simp [trimL, h]
theorem list_snoc_of {l : List Nat} (h : l ≠ []) : ∃ a x, l = a ++ [x] := ⟨l.dropLast, l.getLast h, (List.dropLast_concat_getLast h).symm⟩
theorem trimL_val : ∀ (n : Nat) (l : List Nat), l.length = n → dval (trimL l) = dval l := by
  intro n
  induction n with
  | zero => intro l h; rw [List.eq_nil_of_length_eq_zero h]; rfl
  | succ n ih =>
    intro l h
    obtain ⟨a, x, rfl⟩ := list_snoc_of (l := l) (by rintro rfl; simp at h)
    by_cases hx : x = 0
    · subst hx; rw [trimL_snoc_zero, ih a (by simpa using h), dval_snoc]; simp
    · rw [trimL_snoc hx]
theorem dval_trimL (l : List Nat) : dval (trimL l) = dval l := trimL_val _ l rfl
theorem trimL_sub : ∀ (n : Nat) (l : List Nat), l.length = n → ∃ k, k ≤ l.length ∧ trimL l = l.take k := by
  intro n
  induction n with
  | zero => intro l h; rw [List.eq_nil_of_length_eq_zero h]; exact ⟨0, by simp, rfl⟩
  | succ n ih =>
    intro l h
    obtain ⟨a, x, rfl⟩ := list_snoc_of (l := l) (by rintro rfl; simp at h)
    by_cases hx : x = 0
    · subst hx
      obtain ⟨k, hk, he⟩ := ih a (by simpa using h)
      exact ⟨k, by simp; omega, by rw [trimL_snoc_zero, he, List.take_append_of_le_length hk]⟩
    · exact ⟨a.length + 1, by simp, by rw [trimL_snoc hx]; exact (List.take_of_length_le (by simp)).symm⟩
theorem trimL_last : ∀ (n : Nat) (l : List Nat), l.length = n → (trimL l).getLast? ≠ some 0 := by
  intro n
  induction n with
  | zero => intro l h; rw [List.eq_nil_of_length_eq_zero h]; simp [trimL]
  | succ n ih =>
    intro l h
    obtain ⟨a, x, rfl⟩ := list_snoc_of (l := l) (by rintro rfl; simp at h)
    by_cases hx : x = 0
    · subst hx; rw [trimL_snoc_zero]; exact ih a (by simpa using h)
    · rw [trimL_snoc hx]; simpa using hx
theorem trimL_norm {l : List Nat} (h : digitsOk l) : Norm (trimL l) := by
  refine ⟨?_, trimL_last _ l rfl⟩
  obtain ⟨k, _, he⟩ := trimL_sub _ l rfl
  rw [he]; exact h.take k
theorem trimL_length (l : List Nat) : (trimL l).length ≤ l.length := by
  obtain ⟨k, hk, he⟩ := trimL_sub _ l rfl
  rw [he]; simp; omega
theorem trimL_of_norm {l : List Nat} (h : l.getLast? ≠ some 0) : trimL l = l := by
  by_cases hl : l = []
  · subst hl; rfl
  · obtain ⟨a, x, rfl⟩ := list_snoc_of hl
    exact trimL_snoc (by simpa using h)

theorem norm_lower {l : List Nat} (h : Norm l) (hl : l ≠ []) : B32 ^ (l.length - 1) ≤ dval l := by
  obtain ⟨a, x, rfl⟩ := list_snoc_of hl
  have hx : x ≠ 0 := by simpa using h.last
  rw [dval_snoc]
  simp only [List.length_append, List.length_singleton, Nat.add_sub_cancel]
  have : B32 ^ a.length * 1 ≤ B32 ^ a.length * x := Nat.mul_le_mul_left _ (by omega)
  omega
theorem norm_zero {l : List Nat} (h : Norm l) : dval l = 0 ↔ l = [] := by
  constructor
  · intro h0
    rcases List.eq_nil_or_concat l with h1 | h1
    · exact h1
    · exfalso
      have hl : l ≠ [] := by rcases h1 with ⟨a, x, rfl⟩; simp
      have := norm_lower h hl
      have hp : 0 < B32 ^ (l.length - 1) := Nat.pow_pos B32_pos
      omega
  · rintro rfl; rfl
/-- a number with fewer digits is less -/
theorem norm_lt_of_length {a b : List Nat} (ha : digitsOk a) (hb : Norm b) (h : a.length < b.length) : dval a < dval b := by
  have h1 := dval_lt ha
  have h2 := norm_lower hb (by rintro rfl; simp at h)
  have h3 : B32 ^ a.length ≤ B32 ^ (b.length - 1) := Nat.pow_le_pow_right B32_pos (by omega)
  omega
theorem norm_length_le {l : List Nat} (h : Norm l) {k : Nat} (hk : dval l < B32 ^ k) : l.length ≤ k := by
  by_cases hl : l = []
  · subst hl; simp
  · have h1 := norm_lower h hl
    rcases Nat.lt_or_ge k l.length with h2 | h2
    · exfalso
      have : B32 ^ k ≤ B32 ^ (l.length - 1) := Nat.pow_le_pow_right B32_pos (by omega)
      omega
    · exact h2
theorem norm_unique : ∀ {a b : List Nat}, digitsOk a → digitsOk b → a.length = b.length → dval a = dval b → a = b
  | [], [], _, _, _, _ => rfl
  | [], _ :: _, _, _, h, _ => by simp at h
  | _ :: _, [], _, _, h, _ => by simp at h
  | x :: a, y :: b, ha, hb, hl, hv => by
    have hx : x < B32 := ha x (by simp)
    have hy : y < B32 := hb y (by simp)
    simp only [dval] at hv
    have h1 : x = y := by
      have e1 : (x + B32 * dval a) % B32 = x := by rw [Nat.add_mul_mod_self_left]; exact Nat.mod_eq_of_lt hx
      have e2 : (y + B32 * dval b) % B32 = y := by rw [Nat.add_mul_mod_self_left]; exact Nat.mod_eq_of_lt hy
      rw [← e1, ← e2, hv]
    subst h1
    have h2 : dval a = dval b := Nat.eq_of_mul_eq_mul_left B32_pos (by omega)
    rw [norm_unique (fun d hd => ha d (by simp [hd])) (fun d hd => hb d (by simp [hd])) (by simpa using hl) h2]
theorem Norm.eq {a b : List Nat} (ha : Norm a) (hb : Norm b) (h : dval a = dval b) : a = b := by
  have : a.length = b.length := by
    rcases Nat.lt_trichotomy a.length b.length with h1 | h1 | h1
    · have := norm_lt_of_length ha.ok hb h1; omega
    · exact h1
    · have := norm_lt_of_length hb.ok ha h1; omega
  exact norm_unique ha.ok hb.ok this h

/-! one step of a sum, of a difference, of a product by a digit -/
theorem pow_step (p s : Nat) : p * (s % B32) + p * B32 * (s / B32) = p * s := by
  rw [Nat.mul_assoc, ← Nat.mul_add]
  congr 1
  have := Nat.mod_add_div s B32
  omega

theorem plus_step {ds a b : List Nat} {i c s bi : Nat} (hl : ds.length = i) (hi : i < a.length) (hb : dval (b.take (i + 1)) = dval (b.take i) + B32 ^ i * bi)
    (h : dval ds + B32 ^ i * c = dval (a.take i) + dval (b.take i)) (hs : s = c + a[i] + bi) :
    dval (ds ++ [s % B32]) + B32 ^ (i + 1) * (s / B32) = dval (a.take (i + 1)) + dval (b.take (i + 1)) := by
  rw [dval_snoc, dval_take_succ a i hi, hb, hl, Nat.pow_succ]
  have h1 := pow_step (B32 ^ i) s
  have h2 : B32 ^ i * s = B32 ^ i * c + B32 ^ i * a[i] + B32 ^ i * bi := by rw [hs, Nat.mul_add, Nat.mul_add]
  omega

/-- a difference: n = a[i] - c - bi, as a digit n + B32 * c' with the borrow c' -/
theorem minus_step {ds a b : List Nat} {i c d c' bi : Nat} (hl : ds.length = i) (hi : i < a.length) (hb : dval (b.take (i + 1)) = dval (b.take i) + B32 ^ i * bi)
    (h : dval ds + dval (b.take i) = dval (a.take i) + B32 ^ i * c) (hs : d + bi + c = a[i] + B32 * c') :
    dval (ds ++ [d]) + dval (b.take (i + 1)) = dval (a.take (i + 1)) + B32 ^ (i + 1) * c' := by
  rw [dval_snoc, dval_take_succ a i hi, hb, hl, Nat.pow_succ]
  have h2 : B32 ^ i * d + B32 ^ i * bi + B32 ^ i * c = B32 ^ i * a[i] + B32 ^ i * B32 * c' := by
    rw [← Nat.mul_add, ← Nat.mul_add, hs, Nat.mul_add, Nat.mul_assoc]
  omega

theorem scale_step {ds m : List Nat} {i c s by_ plus : Nat} (hl : ds.length = i) (hi : i < m.length)
    (h : dval ds + B32 ^ i * c = by_ * dval (m.take i) + plus) (hs : s = c + m[i] * by_) :
    dval (ds ++ [s % B32]) + B32 ^ (i + 1) * (s / B32) = by_ * dval (m.take (i + 1)) + plus := by
  rw [dval_snoc, dval_take_succ m i hi, hl, Nat.pow_succ]
  have h1 := pow_step (B32 ^ i) s
  have h2 : B32 ^ i * s = B32 ^ i * c + by_ * (B32 ^ i * m[i]) := by
    rw [hs, Nat.mul_add, Nat.mul_left_comm by_, Nat.mul_comm by_]
  rw [Nat.mul_add]
  omega

theorem short_step {qs m : List Nat} {i rest r by_ : Nat} (hi : i < m.length) (h : dval (m.drop (i + 1)) = by_ * dval qs + rest) (hr : r = rest * B32 + m[i]) :
    dval (m.drop i) = by_ * dval ((r / by_) :: qs) + r % by_ := by
  rw [List.drop_eq_getElem_cons hi]
  simp only [dval]
  rw [h, Nat.mul_add B32, Nat.mul_add by_]
  have h1 := Nat.div_add_mod r by_
  have h2 : B32 * (by_ * dval qs) = by_ * (B32 * dval qs) := Nat.mul_left_comm _ _ _
  have h3 : B32 * rest = rest * B32 := Nat.mul_comm _ _
  omega

theorem dval_set : ∀ (l : List Nat) (j x : Nat) (h : j < l.length), dval (l.set j x) + B32 ^ j * l[j] = dval l + B32 ^ j * x
  | d :: l, 0, x, _ => by simp [dval]; omega
  | d :: l, j + 1, x, h => by
    have ih := dval_set l j x (by simpa using h)
    simp only [List.set_cons_succ, dval, List.getElem_cons_succ, Nat.pow_succ]
    have h1 : B32 * (dval (l.set j x) + B32 ^ j * l[j]'(by simpa using h)) = B32 * (dval l + B32 ^ j * x) := by rw [ih]
    rw [Nat.mul_add, Nat.mul_add] at h1
    rw [Nat.mul_comm (B32 ^ j) B32, Nat.mul_assoc, Nat.mul_assoc]
    omega

/-- comparing from the top -/
theorem order_top {a b : List Nat} {i : Nat} (ha : digitsOk a) (hl : a.length = b.length) (hi : i < a.length) (htop : a.drop (i + 1) = b.drop (i + 1)) (hlt : a[i] < b[i]'(by omega)) : dval a < dval b := by
  have ea : a = a.take (i + 1) ++ a.drop (i + 1) := (List.take_append_drop _ _).symm
  have eb : b = b.take (i + 1) ++ b.drop (i + 1) := (List.take_append_drop _ _).symm
  rw [ea, eb, dval_append, dval_append, htop]
  have e1 : (a.take (i + 1)).length = (b.take (i + 1)).length := by simp; omega
  rw [e1]
  rw [dval_take_succ a i hi, dval_take_succ b i (by omega)]
  have h1 := dval_lt (ha.take i)
  have h2 : (a.take i).length = i := by simp; omega
  rw [h2] at h1
  have h3 : B32 ^ i * (a[i] + 1) ≤ B32 ^ i * b[i]'(by omega) := Nat.mul_le_mul_left _ hlt
  rw [Nat.mul_add] at h3
  omega

/-- comparing numbers: -1, 0 or 1 -/
def cmpN (a b : Nat) : Int := if a < b then -1 else if b < a then 1 else 0
theorem cmpN_lt {a b : Nat} (h : a < b) : cmpN a b = -1 := by unfold cmpN; rw [if_pos h]
theorem cmpN_gt {a b : Nat} (h : b < a) : cmpN a b = 1 := by unfold cmpN; rw [if_neg (by omega), if_pos h]
theorem cmpN_eq {a b : Nat} (h : a = b) : cmpN a b = 0 := by unfold cmpN; rw [if_neg (by omega), if_neg (by omega)]
def cmpI (a b : Int) : Int := if a < b then -1 else if b < a then 1 else 0
theorem cmpI_lt {a b : Int} (h : a < b) : cmpI a b = -1 := by unfold cmpI; rw [if_pos h]
theorem cmpI_gt {a b : Int} (h : b < a) : cmpI a b = 1 := by unfold cmpI; rw [if_neg (by omega), if_pos h]
theorem cmpI_eq {a b : Int} (h : a = b) : cmpI a b = 0 := by unfold cmpI; rw [if_neg (by omega), if_neg (by omega)]
end Go.Proofs.YteaggpgdfiodfaaGreatDoor
