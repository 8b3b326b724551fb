/-
  The contracts of package rational: numbers as a numerator and a denominator. Conditions: magnitudes below 2^32 to the power k.
-/
import Derived.Test.YteaggpgdfiodfaaGreatDoorAdd
import Derived.Test.YteaggpgdfiodfaaGreatDoorOps2
namespace Go.Proofs.YteaggpgdfiodfaaGreatDoor
set_option linter.all false
open Go.RowKit

/-- the four cells of a rational n / d -/
structure RatC (w : World) (c : List Value) (n : Int) (d : Nat) : Prop where
  length : c.length = 4
  num : IntC w ((c.drop 0).take 2) n
  den : ∃ dd : Int, IntC w ((c.drop 2).take 2) dd ∧ ((dd = d ∧ 0 < d) ∨ (dd = 0 ∧ d = 1))
theorem RatC.ext {w w' : World} {c : List Value} {n : Int} {d : Nat} (h : RatC w c n d) (hx : Ext w w') : RatC w' c n d := by
  obtain ⟨h1, h2, dd, h3, h4⟩ := h
  exact ⟨h1, h2.ext hx, dd, h3.ext hx, h4⟩
theorem RatC.pos {w : World} {c : List Value} {n : Int} {d : Nat} (h : RatC w c n d) : 0 < d := by
  obtain ⟨_, _, dd, _, h4⟩ := h
  omega
/-- a rational as a value -/
def RatV (n : Int) (d : Nat) : Pd := fun v w => ∃ c, v = .agg c.toArray ∧ RatC w c n d
theorem RatV.stb (n : Int) (d : Nat) : Stb Ext (RatV n d) := fun _ _ _ hx ⟨c, h1, h2⟩ => ⟨c, h1, h2.ext hx⟩
theorem RatV.ext {n : Int} {d : Nat} {v : Value} {w w' : World} (h : RatV n d v w) (hx : Ext w w') : RatV n d v w' := RatV.stb n d _ _ _ hx h
theorem ty_agg_int' {c : List Value} (h : c.length = 2) : tyAgg Tryz.prog 27 c.length = true := by rw [h]; exact ty_agg_int
theorem ty_agg_rat4 : tyAgg Tryz.prog 29 4 = true := by kernel_rfl
theorem ty_size_rat : tySize Tryz.prog 29 4 = true := by kernel_rfl
theorem ty_rat_0 : tyField Tryz.prog 29 0 0 2 = true := by kernel_rfl
theorem ty_rat_1 : tyField Tryz.prog 29 1 2 2 = true := by kernel_rfl
theorem rat_zero : tyZero Tryz.prog 29 (.agg #[.bool false, .slice none 0 0, .bool false, .slice none 0 0]) := by unfold tyZero; kernel_rfl
theorem hb_one : hasBody Tryz.prog 60 = true := by kernel_rfl
theorem hb_isign : hasBody Tryz.prog 74 = true := by kernel_rfl
theorem hb_icompare : hasBody Tryz.prog 59 = true := by kernel_rfl

/-- an int that a call gives -/
def IsI (m : Int) : Pd := fun v _ => v = .int .i64 m
theorem IsI.stb (m : Int) : Stb Ext (IsI m) := fun _ _ _ _ h => h

theorem sgn_zero {n : Int} (h : n = 0) : sgn n = 0 := by subst h; rfl
theorem sgn_pos {n : Int} (h : 0 < n) : sgn n = 1 := by unfold sgn; rw [if_neg (by omega), if_pos h]
theorem sgn_neg {n : Int} (h : n < 0) : sgn n = -1 := by unfold sgn; rw [if_pos h]
theorem sval_eq (n : Int) : ∃ b m, n = sval b m := ⟨decide (n < 0), n.natAbs, by unfold sval; by_cases h : n < 0 <;> simp [h] <;> omega⟩

theorem two_digits {m : Nat} (h : m < 18446744073709551616) : dval [m % 4294967296, m / 4294967296] = m ∧ digitsOk [m % 4294967296, m / 4294967296] := by
  constructor
  · simp [dval, B32_eq]; omega
  · intro d hd
    simp at hd
    rw [B32_eq]
    omega

theorem two_cells (m : Nat) : digs [m % 4294967296, m / 4294967296] = #[.int .u32 ((m : Int) % 4294967296), .int .u32 ((m : Int) / 4294967296)] := by
  simp [digs, Int.natCast_emod, Int.natCast_ediv]

set_option maxHeartbeats 800000 in
theorem ifrom_spec (w : World) (n : Int) (h1 : -9223372036854775808 ≤ n) (h2 : n ≤ 9223372036854775807) :
    Calls Tryz.prog 76 #[.int .i64 n] w (Ret w (IntV n)) := by
  have hm : n.natAbs < 18446744073709551616 := by omega
  obtain ⟨hv, hok⟩ := two_digits hm
  have HV := Lib.hid hv
  have HOK := Lib.hid hok
  clear hv hok
  generalize hmm : n.natAbs = m at hm HV HOK
  by_cases hneg : n < 0
  · have e1 : IntKind.u64.wrap (-IntKind.u64.wrap n) = (m : Int) := by
      rw [IntKind.wrap_u64, IntKind.wrap_u64]; omega
    have e2 : (m : Int) / 4294967296 % 4294967296 = (m : Int) / 4294967296 := by omega
    have NM : Hid (n = -(m : Int)) := by show _ = _; omega
    clear hmm
    go_enter Tryz.func76, Tryz.ntmps76
    go_wp2_with fail
    clear e1 e2
    have hb := Blk.new (w.alloc (.cells #[.bool false, .slice none 0 0] 27)) 231 (digs [m % 4294967296, m / 4294967296])
    have hL := Limbs.of_blk hb 2 (by simp)
    rw [two_cells, List.length_cons, List.length_cons, List.length_nil, Nat.zero_add, World.size_alloc] at hL
    have hL2 : (2 : Nat) ≤ 1099511627776 := by omega
    have hL3 : [m % 4294967296, m / 4294967296].length = 2 := rfl
    rw [← hL3] at hL2
    clear hL3
    generalize [m % 4294967296, m / 4294967296] = dl at *
    refine (signed_spec _ true _ dl hL HOK.out hL2).mono ?_
    rintro e w1 ⟨v, rfl, hx1, hv⟩
    rw [HV.out] at hv
    obtain ⟨bb, Ar, capr, lr, rfl, hm2, hn, hbn, hvr⟩ := hv.form
    have hb2 : Blk w1 w.heap.size 27 #[.bool false, .slice none 0 0] := ((Blk.new _ _ _).ext (Ext.alloc _ _)).ext hx1
    have hE : Ext w w1 := ((Ext.alloc _ _).trans (Ext.alloc _ _)).trans hx1
    have HM := Lib.hid hm2
    have HN := Lib.hid hn
    have HBN := Lib.hid hbn
    have HVR := Lib.hid hvr
    have f0 := hb2.free (i := 0)
    have f1 := hb2.free (i := 1)
    have d0 := hb2.cell 0
    have d1 := hb2.cell 1
    have HB := Lib.hid hb2
    have HE := Lib.hid hE
    simp only [List.getElem?_toArray, List.getElem?_cons_zero, List.getElem?_cons_succ] at d0 d1
    clear hL hL2 hb hv hm2 hn hbn hvr hb2 hE hx1
    go_wp2_with fail
    have u1 := Upd.setCell w1 w.heap.size 0 (.bool bb)
    have k1 := (HB.out).set (i := 0) (v := .bool bb)
    have u2 := Upd.setCell (w1.setCell ⟨w.heap.size, 0, none⟩ (.bool bb)) w.heap.size 1 (.slice Ar lr.length capr)
    have k2 := k1.set (i := 1) (v := .slice Ar lr.length capr)
    refine ⟨rfl, _, results_cell rfl rfl (run_load_agg (l := [.bool bb, .slice Ar lr.length capr]) ty_agg_int (k2.cells 0 2)), _, rfl, u2.below (u1.below HE.out (by omega)) (by omega), IntV.mk ((HM.out.upd u1 HB.out (by decide)).upd u2 k1 (by decide)) HN.out HBN.out ?_⟩
    have h9 := HVR.out
    rw [← h9]
    rw [NM.out]; rfl
  · have hnm : n = (m : Int) := by omega
    subst hnm
    clear hmm
    go_enter Tryz.func76, Tryz.ntmps76
    go_wp2_with fail
    have hb := Blk.new (w.alloc (.cells #[.bool false, .slice none 0 0] 27)) 231 (digs [m % 4294967296, m / 4294967296])
    have hL := Limbs.of_blk hb 2 (by simp)
    rw [two_cells, List.length_cons, List.length_cons, List.length_nil, Nat.zero_add, World.size_alloc] at hL
    have hL2 : (2 : Nat) ≤ 1099511627776 := by omega
    have hL3 : [m % 4294967296, m / 4294967296].length = 2 := rfl
    rw [← hL3] at hL2
    clear hL3
    generalize [m % 4294967296, m / 4294967296] = dl at *
    refine (signed_spec _ false _ dl hL HOK.out hL2).mono ?_
    rintro e w1 ⟨v, rfl, hx1, hv⟩
    rw [HV.out] at hv
    obtain ⟨bb, Ar, capr, lr, rfl, hm2, hn, hbn, hvr⟩ := hv.form
    have hb2 : Blk w1 w.heap.size 27 #[.bool false, .slice none 0 0] := ((Blk.new _ _ _).ext (Ext.alloc _ _)).ext hx1
    have hE : Ext w w1 := ((Ext.alloc _ _).trans (Ext.alloc _ _)).trans hx1
    have HM := Lib.hid hm2
    have HN := Lib.hid hn
    have HBN := Lib.hid hbn
    have HVR := Lib.hid hvr
    have f0 := hb2.free (i := 0)
    have f1 := hb2.free (i := 1)
    have d0 := hb2.cell 0
    have d1 := hb2.cell 1
    have HB := Lib.hid hb2
    have HE := Lib.hid hE
    simp only [List.getElem?_toArray, List.getElem?_cons_zero, List.getElem?_cons_succ] at d0 d1
    clear hL hL2 hb hv hm2 hn hbn hvr hb2 hE hx1
    go_wp2_with fail
    have u1 := Upd.setCell w1 w.heap.size 0 (.bool bb)
    have k1 := (HB.out).set (i := 0) (v := .bool bb)
    have u2 := Upd.setCell (w1.setCell ⟨w.heap.size, 0, none⟩ (.bool bb)) w.heap.size 1 (.slice Ar lr.length capr)
    have k2 := k1.set (i := 1) (v := .slice Ar lr.length capr)
    refine ⟨rfl, _, results_cell rfl rfl (run_load_agg (l := [.bool bb, .slice Ar lr.length capr]) ty_agg_int (k2.cells 0 2)), _, rfl, u2.below (u1.below HE.out (by omega)) (by omega), IntV.mk ((HM.out.upd u1 HB.out (by decide)).upd u2 k1 (by decide)) HN.out HBN.out ?_⟩
    have h9 := HVR.out
    rw [← h9]
    rfl


theorem IntC.one {w : World} {c : List Value} {n : Int} (h : IntC w c n) : oneCells c = true := by
  obtain ⟨b, m, l, rfl, hl, _⟩ := h
  obtain ⟨A, cap, rfl, _⟩ := hl.form
  rfl
theorem RatC.all {w : World} {c : List Value} {n : Int} {d : Nat} (h : RatC w c n d) : (c.drop 0).take 4 = c := by
  rw [List.drop_zero, List.take_of_length_le (by rw [h.length]; exact Nat.le_refl _)]
theorem RatC.parts {w : World} {c : List Value} {n : Int} {d : Nat} (h : RatC w c n d) : c = (c.drop 0).take 2 ++ (c.drop 2).take 2 := by
  have h1 : (c.drop 2).take 2 = c.drop 2 := List.take_of_length_le (by rw [List.length_drop, h.length]; exact Nat.le_refl _)
  rw [h1, List.drop_zero, List.take_append_drop]
theorem RatC.one {w : World} {c : List Value} {n : Int} {d : Nat} (h : RatC w c n d) : oneCells c = true := by
  obtain ⟨dd, h2, _⟩ := h.den
  rw [h.parts]
  unfold oneCells
  rw [List.all_append, Bool.and_eq_true]
  exact ⟨h.num.one, h2.one⟩
theorem RatC.mk' {w : World} {cn cd : List Value} {n dd : Int} {d : Nat} (h1 : IntC w cn n) (h2 : IntC w cd dd) (h3 : (dd = d ∧ 0 < d) ∨ (dd = 0 ∧ d = 1)) : RatC w (cn ++ cd) n d := by
  have l1 := h1.length
  have l2 := h2.length
  refine ⟨by rw [List.length_append, l1, l2], ?_, dd, ?_, h3⟩
  · rw [List.drop_zero, List.take_append_of_le_length (by omega), List.take_of_length_le (by omega)]; exact h1
  · rw [List.drop_append, List.drop_eq_nil_of_le (by omega), List.nil_append, l1, Nat.sub_self, List.drop_zero, List.take_of_length_le (by omega)]; exact h2
theorem IntC.upd {w w' : World} {c : List Value} {n : Int} {g t : Nat} {cs : Array Value} (h : IntC w c n) (hu : Upd g w w') (hB : Blk w g t cs) (ht : t ≠ 231) : IntC w' c n := by
  obtain ⟨b, m, l, h1, h2, h3⟩ := h
  exact ⟨b, m, l, h1, h2.upd hu hB ht, h3⟩
theorem RatC.upd {w w' : World} {c : List Value} {n : Int} {d : Nat} {g t : Nat} {cs : Array Value} (h : RatC w c n d) (hu : Upd g w w') (hB : Blk w g t cs) (ht : t ≠ 231) : RatC w' c n d := by
  obtain ⟨h1, h2, dd, h3, h4⟩ := h
  exact ⟨h1, h2.upd hu hB ht, dd, h3.upd hu hB ht, h4⟩
/-- the zero integer, written as nothing -/
theorem IntC.zero (w : World) : IntC w [.bool false, .slice none 0 0] 0 :=
  ⟨false, _, [], rfl, ⟨none, 0, rfl, Nat.le_refl _, fun h => by simp at h⟩, ⟨fun d hd => by simp at hd, by simp⟩, by simp, by simp [dval]⟩

/-- a struct stored into the result's variable, and the end -/
theorem tail_ret {P : Program} {fn : Func} {R : Ending → World → Prop} {Q : Exit → Act → World → Prop} {ops : Array Oper} {a : Act} {w : World} {slot s T g : Nat} {cs : Array Value} {l : List Value} {ty : TypeId} {pos : String} {after : Array Edge}
    (hQ : ∀ a w, bodyPost P fn R .ret a w → Q .normal a w) (hres : fn.results = #[.cell slot T]) (hd : a.defers = []) (hp : a.tmps[slot]? = some (.pointer (some ⟨g, 0, none⟩))) (hs : a.tmps[s]? = some (.agg l.toArray))
    (hB : Blk w g T cs) (hlen : l.length = cs.size) (hT : tyAgg P T l.length = true) (hsz : tySize P T l.length = true) (h1 : oneCells l = true)
    (hpost : ∀ w', Upd g w w' → R (.returned (.agg l.toArray)) w') : wpList P ops Q [⟨none, .store T (.tmp slot) (.tmp s), ty, pos, after, none⟩] a w := by
  refine list_store (rest := []) (eval_tmp hp) (eval_tmp hs) hB (by simpa [Value.cells] using hsz) (by simpa [Value.cells] using h1) (by simp [Value.cells]; omega) (fun w2 hu hb2 => ?_)
  refine wpList_nil (hQ _ _ ⟨hd, _, results_cell hres hp (run_load_agg hT ?_), hpost w2 hu⟩)
  rw [putRow_full _ _ (by simp [Value.cells]; omega)] at hb2
  have h3 := hb2.cells 0 l.length
  simpa [Value.cells] using h3
/-- the end behind a region -/
theorem q_ret {P : Program} {fn : Func} {R : Ending → World → Prop} : ∀ a w, bodyPost P fn R .ret a w → Exit.then (Code.wp P Code.ret (bodyPost P fn R)) (bodyPost P fn R) .normal a w := fun _ _ h => wp_ret h

theorem list_const {P : Program} {ops : Array Oper} {Q : Exit → Act → World → Prop} {rest : List Oper} {a : Act} {w : World} {n : Nat} {env : List (Nat × Value)} {d : Nat} {v : Value} {ty : TypeId} {pos : String} {after : Array Edge}
    (hF : Fr n env a) (hd : d < n) (hk : ∀ a', Fr n ((d, v) :: env) a' → wpList P ops Q rest a' w) : wpList P ops Q (⟨some d, .assign (.const v), ty, pos, after, none⟩ :: rest) a w := by
  have h1 := hk _ (hF.put hd v)
  clear hk
  generalize hr : wpList P ops Q rest = r at h1
  have hrun : Runs P ⟨some d, .assign (.const v), ty, pos, after, none⟩ a.eval w (fun u w1 => u = v ∧ w1 = w) := Runs.of_run (v := v) (w' := w) rfl ⟨rfl, rfl⟩
  refine list_step rfl hrun ?_
  intro u w1 hu
  rw [hu.1, hu.2, hr]; exact h1

section
variable {ops : Array Oper} {a : Act} {ds : List Tmp} {W : World} {K : Kn → Prop} {kn : Kn} {rest : List Oper}
variable {d : Tmp} {ty : TypeId} {pos : String} {after : Array Edge} {g : Nat} {T : Nat} {c : List Value} {n : Int} {dn : Nat} {x : Operand}
theorem load_num (hB : Blk W g T c.toArray) (hc : RatC W c n dn) (hx : Opd kn a ds (Oper.looksAt ops ⟨some d, .load 27 x, ty, pos, after, none⟩) x (fun u _ => u = .pointer (some ⟨g, 0 + 0, none⟩)))
    (h : Steps Tryz.prog Ext ops a ds W K rest (kn ++ [(d, IntV n)])) : Steps Tryz.prog Ext ops a ds W K (⟨some d, .load 27 x, ty, pos, after, none⟩ :: rest) kn :=
  Steps.loadR Ext.pre (IntV.stb n) (l := (c.drop 0).take 2) (by rw [hc.num.length]; exact ty_agg_int) hx (fun w' hx' => ⟨(hB.ext hx').cells 0 2, _, rfl, hc.num.ext hx'⟩) h
theorem load_den {dd : Int} (hB : Blk W g T c.toArray) (hc : IntC W ((c.drop 2).take 2) dd) (hx : Opd kn a ds (Oper.looksAt ops ⟨some d, .load 27 x, ty, pos, after, none⟩) x (fun u _ => u = .pointer (some ⟨g, 0 + 2, none⟩)))
    (h : Steps Tryz.prog Ext ops a ds W K rest (kn ++ [(d, IntV dd)])) : Steps Tryz.prog Ext ops a ds W K (⟨some d, .load 27 x, ty, pos, after, none⟩ :: rest) kn :=
  Steps.loadR Ext.pre (IntV.stb dd) (l := (c.drop 2).take 2) (by rw [hc.length]; exact ty_agg_int) hx (fun w' hx' => ⟨(hB.ext hx').cells 2 2, _, rfl, hc.ext hx'⟩) h
theorem load_int (hB : Blk W g T c.toArray) (hc : IntC W c n) (hx : Opd kn a ds (Oper.looksAt ops ⟨some d, .load 27 x, ty, pos, after, none⟩) x (fun u _ => u = .pointer (some ⟨g, 0, none⟩)))
    (h : Steps Tryz.prog Ext ops a ds W K rest (kn ++ [(d, IntV n)])) : Steps Tryz.prog Ext ops a ds W K (⟨some d, .load 27 x, ty, pos, after, none⟩ :: rest) kn := by
  have e : (c.drop 0).take 2 = c := by rw [List.drop_zero, List.take_of_length_le (by rw [hc.length]; exact Nat.le_refl _)]
  exact Steps.loadR Ext.pre (IntV.stb n) (l := (c.drop 0).take 2) (by rw [e, hc.length]; exact ty_agg_int) hx (fun w' hx' => ⟨(hB.ext hx').cells 0 2, _, rfl, by rw [e]; exact hc.ext hx'⟩) h
theorem load_rat (hB : Blk W g T c.toArray) (hc : RatC W c n dn) (hx : Opd kn a ds (Oper.looksAt ops ⟨some d, .load 29 x, ty, pos, after, none⟩) x (fun u _ => u = .pointer (some ⟨g, 0, none⟩)))
    (h : Steps Tryz.prog Ext ops a ds W K rest (kn ++ [(d, RatV n dn)])) : Steps Tryz.prog Ext ops a ds W K (⟨some d, .load 29 x, ty, pos, after, none⟩ :: rest) kn :=
  Steps.loadR Ext.pre (RatV.stb n dn) (l := (c.drop 0).take 4) (by rw [hc.all, hc.length]; exact ty_agg_rat4) hx (fun w' hx' => ⟨(hB.ext hx').cells 0 4, _, rfl, by rw [hc.all]; exact hc.ext hx'⟩) h
end

theorem kn_done {kn : Kn} {a : Act} {w : World} (h : kn.all a w) (i : Nat) {t : Tmp} {R : Pd} (hi : kn[i]? = some (t, R)) : ∃ v, a.tmps[t]? = some v ∧ R v w := h.get i hi

/-- a known int returned -/
theorem int_ret {fn : Func} {w0 w : World} {m : Int} {n : Nat} {env : List (Nat × Value)} {a a' : Act} {ds : List Tmp} {t : Nat} (hF : Fr n env a) (ho : Outer a ds a') (hres : fn.results = #[.tmp t]) (ht : a'.tmps[t]? = some (.int .i64 m)) (hx : Ext w0 w) :
    bodyPost Tryz.prog fn (Ret w0 (IsI m)) .ret a' w :=
  ⟨ho.defers.trans hF.defers, _, results_tmp1 hres ht, _, rfl, hx, rfl⟩

theorem one_spec (w : World) : Calls Tryz.prog 60 #[] w (Ret w (IntV 1)) := by
  refine enter 2 Tryz.func60 rfl rfl (by simp) (fun a0 hF => ?_)
  refine wp_seq (wp_region_list ?_)
  refine list_alloc int_zero hF (by decide) ?_
  intro a1 w1 g0 hF X L0 B0
  refine wpList_nil ?_
  show Code.wp _ _ _ _ _
  refine wp_seq (wp_steps follows 1 hF.size (by kernel_rfl) Ext.pre ?_)
  refine Steps.call1 (by kernel_rfl) (IntV.stb 1) Opd.const (fun w' u hx hu => by subst hu; exact ifrom_spec w' 1 (by omega) (by omega)) ?_
  intro a' w' ho hx hk
  obtain ⟨v, hv, c, rfl, hc⟩ := hk.get 0 rfl
  have hl := hc.length
  refine tail_ret q_ret rfl (ho.defers.trans hF.defers) ((ho.slot 0 (by decide)).trans (hF.slot 0 _ rfl)) hv (B0.ext hx) hl (by rw [hl]; exact ty_agg_int) (by rw [hl]; exact ty_size_int) hc.one ?_
  intro w2 hu
  exact ⟨_, rfl, hu.below (X.trans hx) L0, c, rfl, hc.upd hu (B0.ext hx) (by decide)⟩

theorem rsign_spec (w : World) (v : Value) (n : Int) (d : Nat) (h : RatV n d v w) : Calls Tryz.prog 28 #[v] w (Ret w (IsI (sgn n))) := by
  obtain ⟨c, rfl, hc⟩ := h
  refine enter 6 Tryz.func28 rfl rfl (by simp) (fun a0 hF => ?_)
  refine wp_seq (wp_region_list ?_)
  refine list_box hF (by decide) (hF.eval rfl) ?_
  intro a1 w1 g1 hF X L1 B1
  refine list_const hF (by decide) (fun a2 hF => ?_)
  refine wpList_nil ?_
  show Code.wp _ _ _ _ _
  refine wp_seq (wp_steps follows 4 hF.size (by kernel_rfl) Ext.pre ?_)
  refine Steps.field_addr Ext.pre ty_rat_0 (Opd.out rfl (hF.slot 1 _ rfl)) ?_
  refine load_num B1 (hc.ext X) (Opd.kn rfl rfl) ?_
  refine Steps.call1 hb_isign (IsI.stb (sgn n)) (Opd.kn rfl rfl) (fun w' u hx hu => (sign_spec w' u n hu).mono fun e w'' ⟨h1, h2⟩ => ⟨_, h2, h1, rfl⟩) ?_
  refine Steps.assignR Ext.pre (IsI.stb (sgn n)) (Opd.kn rfl rfl) ?_
  intro a' w' ho hx hk
  obtain ⟨v, hv, rfl⟩ := hk.get 3 rfl
  exact wpList_nil (wp_ret (int_ret hF ho rfl hv (X.trans hx)))
end Go.Proofs.YteaggpgdfiodfaaGreatDoor
