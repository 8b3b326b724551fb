/-
  rational.Read at texts of at most 20 bytes. Conditions: each lemma's premises.
-/
import Derived.Test.YteaggpgdfiodfaaGreatDoorPl
namespace Go.Proofs.YteaggpgdfiodfaaGreatDoor
set_option linter.all false
open Go.RowKit

theorem all_of_drop {α : Type} {p : α → Bool} : ∀ {l : List α}, l.dropWhile p = [] → ∀ b ∈ l, p b = true := by
  intro l
  induction l with
  | nil => intro _ b hb; cases hb
  | cons a r ih =>
    intro h b hb
    rw [List.dropWhile_cons] at h
    split at h
    · rename_i ha
      rcases List.mem_cons.1 hb with rfl | hb
      · exact ha
      · exact ih h b hb
    · cases h
theorem takeWhile_all {α : Type} {p : α → Bool} : ∀ {l : List α} {b : α}, b ∈ l.takeWhile p → p b = true := by
  intro l
  induction l with
  | nil => intro b h; cases h
  | cons a r ih =>
    intro b h
    rw [List.takeWhile_cons] at h
    split at h
    · rename_i ha
      rcases List.mem_cons.1 h with rfl | h
      · exact ha
      · exact ih h
    · cases h
theorem all_of_trim {l cs : List UInt8} (h : Lib.trimS l cs = []) : ∀ b ∈ l, cs.contains b = true := by
  intro b hb
  unfold Lib.trimS Lib.trimLeftS at h
  have h1 := all_of_drop h
  unfold Lib.trimRightS at h1
  have h2 : b ∈ l.reverse := List.mem_reverse.2 hb
  rw [← List.takeWhile_append_dropWhile (p := (cs.contains ·)) (l := l.reverse)] at h2
  rcases List.mem_append.1 h2 with h3 | h3
  · exact takeWhile_all h3
  · exact h1 b (List.mem_reverse.2 h3)
theorem isDigits_spec {l : List UInt8} (h : isDigits l = true) : l ≠ [] ∧ allDig l := by
  unfold isDigits at h
  simp only [Bool.and_eq_true, Bool.not_eq_true', List.isEmpty_iff, List.isEmpty_eq_false_iff] at h
  refine ⟨h.1, fun b hb => ?_⟩
  have h1 := all_of_trim h.2 b hb
  unfold digs10 at h1
  simp only [List.contains_cons, List.contains_nil, Bool.or_false, Bool.or_eq_true, beq_iff_eq] at h1
  rcases h1 with h | h | h | h | h | h | h | h | h | h <;> (subst h; decide)
theorem no_sign {l : List UInt8} (h : allDig l) : Lib.hasPrefix l [45] = false ∧ Lib.trimPrefix l [45] = l := by
  have h1 : Lib.hasPrefix l [45] = false := by
    unfold Lib.hasPrefix
    cases l with
    | nil => rfl
    | cons b r =>
      have h2 := h b List.mem_cons_self
      cases hb : List.isPrefixOf [45] (b :: r) with
      | false => rfl
      | true =>
        simp [List.isPrefixOf] at hb
        subst hb
        exact absurd h2.1 (by decide)
  exact ⟨h1, by unfold Lib.trimPrefix; rw [h1]; rfl⟩

/-- four cells of a block -/
structure Four (w : World) (g : Nat) (z0 z1 z2 z3 x0 x1 x2 x3 : Value) : Prop where
  c0 : w.cell? ⟨g, 0, none⟩ = some z0
  f0 : w.frozen? ⟨g, 0, none⟩ = false
  c1 : (w.setCell ⟨g, 0, none⟩ x0).cell? ⟨g, 1, none⟩ = some z1
  f1 : (w.setCell ⟨g, 0, none⟩ x0).frozen? ⟨g, 1, none⟩ = false
  c2 : ((w.setCell ⟨g, 0, none⟩ x0).setCell ⟨g, 1, none⟩ x1).cell? ⟨g, 2, none⟩ = some z2
  f2 : ((w.setCell ⟨g, 0, none⟩ x0).setCell ⟨g, 1, none⟩ x1).frozen? ⟨g, 2, none⟩ = false
  c3 : (((w.setCell ⟨g, 0, none⟩ x0).setCell ⟨g, 1, none⟩ x1).setCell ⟨g, 2, none⟩ x2).cell? ⟨g, 3, none⟩ = some z3
  f3 : (((w.setCell ⟨g, 0, none⟩ x0).setCell ⟨g, 1, none⟩ x1).setCell ⟨g, 2, none⟩ x2).frozen? ⟨g, 3, none⟩ = false
def set4 (w : World) (g : Nat) (x0 x1 x2 x3 : Value) : World := (((w.setCell ⟨g, 0, none⟩ x0).setCell ⟨g, 1, none⟩ x1).setCell ⟨g, 2, none⟩ x2).setCell ⟨g, 3, none⟩ x3
theorem Blk.four {w : World} {g T : Nat} {z0 z1 z2 z3 : Value} (h : Blk w g T #[z0, z1, z2, z3]) (x0 x1 x2 x3 : Value) : Four w g z0 z1 z2 z3 x0 x1 x2 x3 ∧ Blk (set4 w g x0 x1 x2 x3) g T #[x0, x1, x2, x3] := by
  have b1 : Blk (w.setCell ⟨g, 0, none⟩ x0) g T #[x0, z1, z2, z3] := by simpa using Blk.set (i := 0) (v := x0) h
  have b2 : Blk ((w.setCell ⟨g, 0, none⟩ x0).setCell ⟨g, 1, none⟩ x1) g T #[x0, x1, z2, z3] := by simpa using Blk.set (i := 1) (v := x1) b1
  have b3 : Blk (((w.setCell ⟨g, 0, none⟩ x0).setCell ⟨g, 1, none⟩ x1).setCell ⟨g, 2, none⟩ x2) g T #[x0, x1, x2, z3] := by simpa using Blk.set (i := 2) (v := x2) b2
  have b4 : Blk (set4 w g x0 x1 x2 x3) g T #[x0, x1, x2, x3] := by simpa [set4] using Blk.set (i := 3) (v := x3) b3
  have cell : ∀ {w : World} {cs : Array Value} (hb : Blk w g T cs) (i : Nat) (v : Value), cs.toList[i]? = some v → w.cell? ⟨g, i, none⟩ = some v := fun {w cs} hb i v hv => by
    have h3 := hb.cells 0 (i + 1)
    have := h3 i v (by rw [List.drop_zero, List.getElem?_take_of_lt (by omega)]; exact hv)
    simpa [addr_add] using this
  exact ⟨⟨cell h 0 z0 rfl, Blk.free h, cell b1 1 z1 rfl, Blk.free b1, cell b2 2 z2 rfl, Blk.free b2, cell b3 3 z3 rfl, Blk.free b3⟩, b4⟩
theorem set4_below {B : Nat} {a w : World} (h : Below B a w) {g : Nat} (hg : B ≤ g) (x0 x1 x2 x3 : Value) : Below B a (set4 w g x0 x1 x2 x3) :=
  Below.setCell (Below.setCell (Below.setCell (Below.setCell h hg _) hg _) hg _) hg _
theorem end_rat {fn : Func} {R : Ending → World → Prop} {x t g : Nat} (h : fn.results = #[.cell x 29, .tmp t]) {a : Act} {w : World} {l : List Value} {z : Value} (hl : l.length = 4) (hd : a.defers = []) (hx : a.tmps[x]? = some (.pointer (some ⟨g, 0, none⟩))) (ht : a.tmps[t]? = some z)
    (hB : Blk w g 29 l.toArray) (hR : R (.returned (.tuple #[.agg l.toArray, z])) w) : bodyPost Tryz.prog fn R .ret a w := by
  refine ⟨hd, _, results_ct h hx (run_load_agg (l := l) (by rw [hl]; exact ty_agg_rat4) ?_) ht, hR⟩
  have h3 := hB.cells 0 l.length
  simpa using h3
abbrev z4 : Array Value := #[.bool false, .slice none 0 0, .bool false, .slice none 0 0]
abbrev bs (l : List UInt8) : ByteArray := ⟨l.toArray⟩
theorem trim0 {B Z : List UInt8} (hz : Lib.trimB B 48 = Z) (hl : B.length ≤ 20) (w : World) : Calls Tryz.prog 57 #[.string (bs B), .string ⟨#[48]⟩] w (fun e w' => Ext w w' ∧ e = .returned (.string (bs Z))) := by
  subst hz
  refine (Tryz.strings_Trim_one (bs B) 48 (by decide) w (by rw [Lib.size_eq]; show B.length ≤ _; omega)).mono ?_
  rintro e w' ⟨rfl, h⟩
  refine ⟨?_, rfl⟩
  rcases h with rfl | rfl
  · exact Ext.refl _
  · exact Ext.drew _
theorem prefix_spec {T P : List UInt8} (h : Lib.trimPrefix T [45] = P) (w : World) : Calls Tryz.prog 56 #[.string (bs T), .string ⟨#[45]⟩] w (fun e w' => e = .returned (.string (bs P)) ∧ w' = w) := by
  subst h
  exact Tryz.strings_TrimPrefix (bs T) ⟨#[45]⟩ w
theorem digitsL (l : List UInt8) (hl : l.length ≤ 20) {p : Bool} (hp : isDigits l = p) (w : World) : Calls Tryz.prog 55 #[.string (bs l)] w (fun e w' => Ext w w' ∧ e = .returned (.bool p)) := by
  have := digits_spec w (bs l) (by rw [Lib.size_eq]; show l.length ≤ _; omega)
  rw [show isDigits (bs l).data.toList = p from hp] at this
  exact this
theorem trimPrefix_le (T : List UInt8) : (Lib.trimPrefix T [45]).length ≤ T.length := by
  unfold Lib.trimPrefix
  split
  · rw [List.length_drop]; omega
  · exact Nat.le_refl _
set_option maxRecDepth 100000 in
set_option maxHeartbeats 1600000 in
theorem read_syntaxA (w : World) (s : ByteArray) (hs : s.size ≤ 20) (T B P : List UInt8) (d : Bool) (hc : Lib.cut s.data.toList [47] = (T, B, d)) (hP : Lib.trimPrefix T [45] = P) (hlT : T.length ≤ 20) (hlP : P.length ≤ 20) (hlB : B.length ≤ 20)
    (hT : isDigits P = false) : Calls Tryz.prog 15 #[.string s, .int .i64 65536] w (fun e w' => Ext w w' ∧ e = .returned (.tuple #[.agg z4, .int .i64 14])) := by
  have c1 : (s.size : Int) ≤ 65536 := by omega
  have hB : Blk (w.alloc (Obj.cells z4 29)) w.heap.size 29 z4 := Blk.new _ _ _
  have hE : Ext w (w.alloc (Obj.cells z4 29)) := Ext.alloc _ _
  have hcut := cut_spec (w.alloc (Obj.cells z4 29)) s (by omega)
  rw [hc] at hcut
  have HDT := Lib.hid (fun w => digitsL P hlP hT w)
  clear hT
  have HB := Lib.hid hB
  have HE := Lib.hid hE
  have HC := Lib.hid hcut
  have HPR := Lib.hid (fun w => prefix_spec hP w)
  clear hB hE hcut hc hP
  go_enter Tryz.func15, Tryz.ntmps15
  go_wp2_with fail
  refine (HC.out).mono ?_
  rintro e w1 ⟨hx, rfl⟩
  replace HB := Lib.hid (HB.out.ext hx)
  replace HE := Lib.hid (Ext.trans HE.out hx)
  clear hx
  go_wp2_with fail
  refine (HPR.out _).mono ?_
  rintro e w2 ⟨rfl, rfl⟩
  go_wp2_with fail
  refine (HDT.out _).mono ?_
  rintro e w3 ⟨hx, rfl⟩
  replace HB := Lib.hid (HB.out.ext hx)
  replace HE := Lib.hid (Ext.trans HE.out hx)
  clear hx
  obtain ⟨⟨k0, k1, k2, k3, k4, k5, k6, k7⟩, k8⟩ := HB.out.four (.bool false) (.slice none 0 0) (.bool false) (.slice none 0 0)
  have K8 := Lib.hid k8
  clear k8
  go_wp2_with fail
  refine end_rat (x := 4) (t := 5) (g := w.heap.size) (l := [.bool false, .slice none 0 0, .bool false, .slice none 0 0]) (z := .int .i64 14) rfl rfl rfl rfl rfl ?_ ?_
  · exact K8.out
  · exact ⟨set4_below HE.out (Nat.le_refl _) _ _ _ _, rfl⟩
set_option maxRecDepth 100000 in
set_option maxHeartbeats 1600000 in
theorem read_syntaxB (w : World) (s : ByteArray) (hs : s.size ≤ 20) (T B P : List UInt8) (d : Bool) (hc : Lib.cut s.data.toList [47] = (T, B, d)) (hP : Lib.trimPrefix T [45] = P) (hlT : T.length ≤ 20) (hlP : P.length ≤ 20) (hlB : B.length ≤ 20)
    (hT : isDigits P = true) (hd : d = true) (hBd : isDigits B = false) : Calls Tryz.prog 15 #[.string s, .int .i64 65536] w (fun e w' => Ext w w' ∧ e = .returned (.tuple #[.agg z4, .int .i64 14])) := by
  subst hd
  have c1 : (s.size : Int) ≤ 65536 := by omega
  have hB : Blk (w.alloc (Obj.cells z4 29)) w.heap.size 29 z4 := Blk.new _ _ _
  have hE : Ext w (w.alloc (Obj.cells z4 29)) := Ext.alloc _ _
  have hcut := cut_spec (w.alloc (Obj.cells z4 29)) s (by omega)
  rw [hc] at hcut
  have HDT := Lib.hid (fun w => digitsL P hlP hT w)
  clear hT
  have HDB := Lib.hid (fun w => digitsL B hlB hBd w)
  clear hBd
  have HB := Lib.hid hB
  have HE := Lib.hid hE
  have HC := Lib.hid hcut
  have HPR := Lib.hid (fun w => prefix_spec hP w)
  clear hB hE hcut hc hP
  go_enter Tryz.func15, Tryz.ntmps15
  go_wp2_with fail
  refine (HC.out).mono ?_
  rintro e w1 ⟨hx, rfl⟩
  replace HB := Lib.hid (HB.out.ext hx)
  replace HE := Lib.hid (Ext.trans HE.out hx)
  clear hx
  go_wp2_with fail
  refine (HPR.out _).mono ?_
  rintro e w2 ⟨rfl, rfl⟩
  go_wp2_with fail
  refine (HDT.out _).mono ?_
  rintro e w3 ⟨hx, rfl⟩
  replace HB := Lib.hid (HB.out.ext hx)
  replace HE := Lib.hid (Ext.trans HE.out hx)
  clear hx
  go_wp2_with fail
  refine (HDB.out _).mono ?_
  rintro e w4 ⟨hx, rfl⟩
  replace HB := Lib.hid (HB.out.ext hx)
  replace HE := Lib.hid (Ext.trans HE.out hx)
  clear hx
  obtain ⟨⟨k0, k1, k2, k3, k4, k5, k6, k7⟩, k8⟩ := HB.out.four (.bool false) (.slice none 0 0) (.bool false) (.slice none 0 0)
  have K8 := Lib.hid k8
  clear k8
  go_wp2_with fail
  refine end_rat (x := 4) (t := 5) (g := w.heap.size) (l := [.bool false, .slice none 0 0, .bool false, .slice none 0 0]) (z := .int .i64 14) rfl rfl rfl rfl rfl ?_ ?_
  · exact K8.out
  · exact ⟨set4_below HE.out (Nat.le_refl _) _ _ _ _, rfl⟩
set_option maxRecDepth 100000 in
set_option maxHeartbeats 1600000 in
theorem read_zero (w : World) (s : ByteArray) (hs : s.size ≤ 20) (T B P : List UInt8) (d : Bool) (hc : Lib.cut s.data.toList [47] = (T, B, d)) (hP : Lib.trimPrefix T [45] = P) (hlT : T.length ≤ 20) (hlP : P.length ≤ 20) (hlB : B.length ≤ 20)
    (hT : isDigits P = true) (hd : d = true) (hBd : isDigits B = true) (hZ : Lib.trimB B 48 = []) : Calls Tryz.prog 15 #[.string s, .int .i64 65536] w (fun e w' => Ext w w' ∧ e = .returned (.tuple #[.agg z4, .int .i64 19])) := by
  subst hd
  have c1 : (s.size : Int) ≤ 65536 := by omega
  have hB : Blk (w.alloc (Obj.cells z4 29)) w.heap.size 29 z4 := Blk.new _ _ _
  have hE : Ext w (w.alloc (Obj.cells z4 29)) := Ext.alloc _ _
  have hcut := cut_spec (w.alloc (Obj.cells z4 29)) s (by omega)
  rw [hc] at hcut
  have HDT := Lib.hid (fun w => digitsL P hlP hT w)
  clear hT
  have HDB := Lib.hid (fun w => digitsL B hlB hBd w)
  clear hBd
  have HTR := Lib.hid (fun w => trim0 hZ hlB w)
  clear hZ
  have HB := Lib.hid hB
  have HE := Lib.hid hE
  have HC := Lib.hid hcut
  have HPR := Lib.hid (fun w => prefix_spec hP w)
  clear hB hE hcut hc hP
  go_enter Tryz.func15, Tryz.ntmps15
  go_wp2_with fail
  refine (HC.out).mono ?_
  rintro e w1 ⟨hx, rfl⟩
  replace HB := Lib.hid (HB.out.ext hx)
  replace HE := Lib.hid (Ext.trans HE.out hx)
  clear hx
  go_wp2_with fail
  refine (HPR.out _).mono ?_
  rintro e w2 ⟨rfl, rfl⟩
  go_wp2_with fail
  refine (HDT.out _).mono ?_
  rintro e w3 ⟨hx, rfl⟩
  replace HB := Lib.hid (HB.out.ext hx)
  replace HE := Lib.hid (Ext.trans HE.out hx)
  clear hx
  go_wp2_with fail
  refine (HDB.out _).mono ?_
  rintro e w4 ⟨hx, rfl⟩
  replace HB := Lib.hid (HB.out.ext hx)
  replace HE := Lib.hid (Ext.trans HE.out hx)
  clear hx
  go_wp2_with fail
  refine (HTR.out _).mono ?_
  rintro e w5 ⟨hx, rfl⟩
  replace HB := Lib.hid (HB.out.ext hx)
  replace HE := Lib.hid (Ext.trans HE.out hx)
  clear hx
  obtain ⟨⟨k0, k1, k2, k3, k4, k5, k6, k7⟩, k8⟩ := HB.out.four (.bool false) (.slice none 0 0) (.bool false) (.slice none 0 0)
  have K8 := Lib.hid k8
  clear k8
  go_wp2_with fail
  refine end_rat (x := 4) (t := 5) (g := w.heap.size) (l := [.bool false, .slice none 0 0, .bool false, .slice none 0 0]) (z := .int .i64 19) rfl rfl rfl rfl rfl ?_ ?_
  · exact K8.out
  · exact ⟨set4_below HE.out (Nat.le_refl _) _ _ _ _, rfl⟩
theorem parse_errT (T : List UInt8) (hl : T.length ≤ 20) (hd : isDigits (Lib.trimPrefix T [45]) = true) (h3 : pErr T = 3) (w : World) : Calls Tryz.prog 58 #[.string (bs T)] w (fun e w' => Ext w w' ∧ e = .returned (.tuple #[.agg #[.bool false, .slice none 0 0], .int .i64 3])) := by
  obtain ⟨h1, h2⟩ := isDigits_spec hd
  refine (parse_spec w (bs T) (by rw [Lib.size_eq]; show T.length ≤ _; omega) h1 h2).mono ?_
  rintro e w' ⟨hx, v, h4, h5 | h5⟩
  · have : pErr T = 0 := h5.1
    omega
  · obtain ⟨h6, rfl⟩ := h5
    have h7 : pErr (bs T).data.toList = 3 := h3
    rw [h7] at h4
    exact ⟨hx, h4⟩
theorem parse_okT (T : List UInt8) (hl : T.length ≤ 20) (hd : isDigits (Lib.trimPrefix T [45]) = true) (h3 : pErr T = 0) (w : World) : Calls Tryz.prog 58 #[.string (bs T)] w (fun e w' => Ext w w' ∧ ∃ b A n cap, e = .returned (.tuple #[.agg #[.bool b, .slice A n cap], .int .i64 0]) ∧ IntC w' [.bool b, .slice A n cap] (pVal T)) := by
  obtain ⟨h1, h2⟩ := isDigits_spec hd
  refine (parse_spec w (bs T) (by rw [Lib.size_eq]; show T.length ≤ _; omega) h1 h2).mono ?_
  rintro e w' ⟨hx, v, h4, h5 | h5⟩
  · have h7 : pErr (bs T).data.toList = 0 := h3
    rw [h7] at h4
    obtain ⟨c, rfl, h8⟩ := h5.2
    have h9 := h8
    obtain ⟨b, m, l, h10, h11, _⟩ := h9
    obtain ⟨A, cap, rfl, _⟩ := h11.form
    subst h10
    exact ⟨hx, b, A, _, cap, h4, h8⟩
  · have : pErr T = 3 := h5.1
    omega
theorem set4_size (w : World) (g : Nat) (x0 x1 x2 x3 : Value) : (set4 w g x0 x1 x2 x3).heap.size = w.heap.size := by simp [set4, World.setCell]
theorem set4_int {w : World} {g : Nat} {z0 z1 z2 z3 : Value} {c : List Value} {n : Int} (h : IntC w c n) (hB : Blk w g 29 #[z0, z1, z2, z3]) (x0 x1 x2 x3 : Value) : IntC (set4 w g x0 x1 x2 x3) c n := by
  have b1 : Blk (w.setCell ⟨g, 0, none⟩ x0) g 29 #[x0, z1, z2, z3] := by simpa using Blk.set (i := 0) (v := x0) hB
  have b2 : Blk ((w.setCell ⟨g, 0, none⟩ x0).setCell ⟨g, 1, none⟩ x1) g 29 #[x0, x1, z2, z3] := by simpa using Blk.set (i := 1) (v := x1) b1
  have b3 : Blk (((w.setCell ⟨g, 0, none⟩ x0).setCell ⟨g, 1, none⟩ x1).setCell ⟨g, 2, none⟩ x2) g 29 #[x0, x1, x2, z3] := by simpa using Blk.set (i := 2) (v := x2) b2
  exact (((h.upd (Upd.setCell w g 0 x0) hB (by decide)).upd (Upd.setCell _ g 1 x1) b1 (by decide)).upd (Upd.setCell _ g 2 x2) b2 (by decide)).upd (Upd.setCell _ g 3 x3) b3 (by decide)
set_option maxRecDepth 100000 in
set_option maxHeartbeats 1600000 in
theorem read_wholeErr (w : World) (s : ByteArray) (hs : s.size ≤ 20) (T B P : List UInt8) (d : Bool) (hc : Lib.cut s.data.toList [47] = (T, B, d)) (hP : Lib.trimPrefix T [45] = P) (hlT : T.length ≤ 20) (hlP : P.length ≤ 20) (hlB : B.length ≤ 20)
    (hT : isDigits P = true) (hd : d = false) (hE3 : pErr T = 3) : Calls Tryz.prog 15 #[.string s, .int .i64 65536] w (fun e w' => Ext w w' ∧ e = .returned (.tuple #[.agg z4, .int .i64 3])) := by
  subst hd
  have c1 : (s.size : Int) ≤ 65536 := by omega
  have hB : Blk (w.alloc (Obj.cells z4 29)) w.heap.size 29 z4 := Blk.new _ _ _
  have hE : Ext w (w.alloc (Obj.cells z4 29)) := Ext.alloc _ _
  have hcut := cut_spec (w.alloc (Obj.cells z4 29)) s (by omega)
  rw [hc] at hcut
  have HPA := Lib.hid (fun w => parse_errT T hlT (by rw [hP]; exact hT) hE3 w)
  have HDT := Lib.hid (fun w => digitsL P hlP hT w)
  clear hT
  clear hE3
  have HB := Lib.hid hB
  have HE := Lib.hid hE
  have HC := Lib.hid hcut
  have HPR := Lib.hid (fun w => prefix_spec hP w)
  clear hB hE hcut hc hP
  go_enter Tryz.func15, Tryz.ntmps15
  go_wp2_with fail
  refine (HC.out).mono ?_
  rintro e w1 ⟨hx, rfl⟩
  replace HB := Lib.hid (HB.out.ext hx)
  replace HE := Lib.hid (Ext.trans HE.out hx)
  clear hx
  go_wp2_with fail
  refine (HPR.out _).mono ?_
  rintro e w2 ⟨rfl, rfl⟩
  go_wp2_with fail
  refine (HDT.out _).mono ?_
  rintro e w3 ⟨hx, rfl⟩
  replace HB := Lib.hid (HB.out.ext hx)
  replace HE := Lib.hid (Ext.trans HE.out hx)
  clear hx
  go_wp2_with fail
  refine (HPA.out _).mono ?_
  rintro e w4 ⟨hx, rfl⟩
  replace HB := Lib.hid (HB.out.ext hx)
  replace HE := Lib.hid (Ext.trans HE.out hx)
  clear hx
  have hlt := HB.out.lt
  obtain ⟨⟨k0, k1, k2, k3, k4, k5, k6, k7⟩, k8⟩ := HB.out.four ((.bool false)) ((.slice none 0 0)) ((.bool false)) ((.slice none 0 0))
  have K8 := Lib.hid k8
  clear k8
  go_wp2_with fail
  refine end_rat (x := 4) (t := 5) (g := w.heap.size) (l := [.bool false, .slice none 0 0, .bool false, .slice none 0 0]) (z := .int .i64 3) rfl rfl rfl rfl rfl ?_ ?_
  · exact K8.out.ext (Ext.alloc _ _)
  · exact ⟨Below.alloc (set4_below HE.out (Nat.le_refl _) _ _ _ _) (by rw [set4_size]; exact HE.out.size) _, rfl⟩
set_option maxRecDepth 100000 in
set_option maxHeartbeats 1600000 in
theorem read_whole (w : World) (s : ByteArray) (hs : s.size ≤ 20) (T B P : List UInt8) (d : Bool) (hc : Lib.cut s.data.toList [47] = (T, B, d)) (hP : Lib.trimPrefix T [45] = P) (hlT : T.length ≤ 20) (hlP : P.length ≤ 20) (hlB : B.length ≤ 20)
    (hT : isDigits P = true) (hd : d = false) (hE3 : pErr T = 0) : Calls Tryz.prog 15 #[.string s, .int .i64 65536] w (fun e w' => Ext w w' ∧ ∃ c, e = .returned (.tuple #[.agg (c ++ [.bool false, .slice none 0 0]).toArray, .int .i64 0]) ∧ IntC w' c (pVal T)) := by
  subst hd
  have c1 : (s.size : Int) ≤ 65536 := by omega
  have hB : Blk (w.alloc (Obj.cells z4 29)) w.heap.size 29 z4 := Blk.new _ _ _
  have hE : Ext w (w.alloc (Obj.cells z4 29)) := Ext.alloc _ _
  have hcut := cut_spec (w.alloc (Obj.cells z4 29)) s (by omega)
  rw [hc] at hcut
  have HPA := Lib.hid (fun w => parse_okT T hlT (by rw [hP]; exact hT) hE3 w)
  have HDT := Lib.hid (fun w => digitsL P hlP hT w)
  clear hT
  clear hE3
  have HB := Lib.hid hB
  have HE := Lib.hid hE
  have HC := Lib.hid hcut
  have HPR := Lib.hid (fun w => prefix_spec hP w)
  clear hB hE hcut hc hP
  go_enter Tryz.func15, Tryz.ntmps15
  go_wp2_with fail
  refine (HC.out).mono ?_
  rintro e w1 ⟨hx, rfl⟩
  replace HB := Lib.hid (HB.out.ext hx)
  replace HE := Lib.hid (Ext.trans HE.out hx)
  clear hx
  go_wp2_with fail
  refine (HPR.out _).mono ?_
  rintro e w2 ⟨rfl, rfl⟩
  go_wp2_with fail
  refine (HDT.out _).mono ?_
  rintro e w3 ⟨hx, rfl⟩
  replace HB := Lib.hid (HB.out.ext hx)
  replace HE := Lib.hid (Ext.trans HE.out hx)
  clear hx
  go_wp2_with fail
  refine (HPA.out _).mono ?_
  rintro e w4 ⟨hx, b, A, n, cap, rfl, hv⟩
  replace HB := Lib.hid (HB.out.ext hx)
  replace HE := Lib.hid (Ext.trans HE.out hx)
  have HV := Lib.hid hv
  clear hx hv
  have hlt := HB.out.lt
  obtain ⟨⟨k0, k1, k2, k3, k4, k5, k6, k7⟩, k8⟩ := HB.out.four ((.bool b)) ((.slice A n cap)) ((.bool false)) ((.slice none 0 0))
  have K8 := Lib.hid k8
  clear k8
  go_wp2_with fail
  refine end_rat (x := 4) (t := 5) (g := w.heap.size) (l := [.bool b, .slice A n cap, .bool false, .slice none 0 0]) (z := .int .i64 0) rfl rfl rfl rfl rfl ?_ ?_
  · exact K8.out.ext (Ext.alloc _ _)
  · refine ⟨Below.alloc (set4_below HE.out (Nat.le_refl _) _ _ _ _) (by rw [set4_size]; exact HE.out.size) _, [.bool b, .slice A n cap], rfl, ?_⟩
    exact (set4_int HV.out HB.out _ _ _ _).ext (Ext.alloc _ _)
set_option maxRecDepth 100000 in
set_option maxHeartbeats 1600000 in
theorem read_fracErrT (w : World) (s : ByteArray) (hs : s.size ≤ 20) (T B P : List UInt8) (d : Bool) (hc : Lib.cut s.data.toList [47] = (T, B, d)) (hP : Lib.trimPrefix T [45] = P) (hlT : T.length ≤ 20) (hlP : P.length ≤ 20) (hlB : B.length ≤ 20)
    (Z : List UInt8) (hT : isDigits P = true) (hd : d = true) (hBd : isDigits B = true) (hZ : Lib.trimB B 48 = Z) (hZ0 : Z ≠ []) (hE3 : pErr T = 3) : Calls Tryz.prog 15 #[.string s, .int .i64 65536] w (fun e w' => Ext w w' ∧ e = .returned (.tuple #[.agg z4, .int .i64 3])) := by
  subst hd
  have c1 : (s.size : Int) ≤ 65536 := by omega
  have hB : Blk (w.alloc (Obj.cells z4 29)) w.heap.size 29 z4 := Blk.new _ _ _
  have hE : Ext w (w.alloc (Obj.cells z4 29)) := Ext.alloc _ _
  have hcut := cut_spec (w.alloc (Obj.cells z4 29)) s (by omega)
  rw [hc] at hcut
  have HPA := Lib.hid (fun w => parse_errT T hlT (by rw [hP]; exact hT) hE3 w)
  have HDT := Lib.hid (fun w => digitsL P hlP hT w)
  clear hT
  have HDB := Lib.hid (fun w => digitsL B hlB hBd w)
  clear hBd
  have HTR := Lib.hid (fun w => trim0 hZ hlB w)
  clear hZ
  have z1 : Z.isEmpty = false := by cases Z with | nil => exact absurd rfl hZ0 | cons => rfl
  have z2 : ¬ Z = [] := hZ0
  clear hZ0
  clear hE3
  have HB := Lib.hid hB
  have HE := Lib.hid hE
  have HC := Lib.hid hcut
  have HPR := Lib.hid (fun w => prefix_spec hP w)
  clear hB hE hcut hc hP
  go_enter Tryz.func15, Tryz.ntmps15
  go_wp2_with fail
  refine (HC.out).mono ?_
  rintro e w1 ⟨hx, rfl⟩
  replace HB := Lib.hid (HB.out.ext hx)
  replace HE := Lib.hid (Ext.trans HE.out hx)
  clear hx
  go_wp2_with fail
  refine (HPR.out _).mono ?_
  rintro e w2 ⟨rfl, rfl⟩
  go_wp2_with fail
  refine (HDT.out _).mono ?_
  rintro e w3 ⟨hx, rfl⟩
  replace HB := Lib.hid (HB.out.ext hx)
  replace HE := Lib.hid (Ext.trans HE.out hx)
  clear hx
  go_wp2_with fail
  refine (HDB.out _).mono ?_
  rintro e w4 ⟨hx, rfl⟩
  replace HB := Lib.hid (HB.out.ext hx)
  replace HE := Lib.hid (Ext.trans HE.out hx)
  clear hx
  go_wp2_with fail
  refine (HTR.out _).mono ?_
  rintro e w5 ⟨hx, rfl⟩
  replace HB := Lib.hid (HB.out.ext hx)
  replace HE := Lib.hid (Ext.trans HE.out hx)
  clear hx
  go_wp2_with fail
  refine (HPA.out _).mono ?_
  rintro e w6 ⟨hx, rfl⟩
  replace HB := Lib.hid (HB.out.ext hx)
  replace HE := Lib.hid (Ext.trans HE.out hx)
  clear hx
  have hlt := HB.out.lt
  obtain ⟨⟨k0, k1, k2, k3, k4, k5, k6, k7⟩, k8⟩ := HB.out.four ((.bool false)) ((.slice none 0 0)) ((.bool false)) ((.slice none 0 0))
  have K8 := Lib.hid k8
  clear k8
  go_wp2_with fail
  refine end_rat (x := 4) (t := 5) (g := w.heap.size) (l := [.bool false, .slice none 0 0, .bool false, .slice none 0 0]) (z := .int .i64 3) rfl rfl rfl rfl rfl ?_ ?_
  · exact K8.out.ext (Ext.alloc _ _)
  · exact ⟨Below.alloc (set4_below HE.out (Nat.le_refl _) _ _ _ _) (by rw [set4_size]; exact HE.out.size) _, rfl⟩
end Go.Proofs.YteaggpgdfiodfaaGreatDoor
