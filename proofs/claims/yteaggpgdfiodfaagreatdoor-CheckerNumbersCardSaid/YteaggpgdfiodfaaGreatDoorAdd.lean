/-
  The contract of integer.Add. Conditions: magnitudes below 2^32 to the power k, k below 2^39.
-/
import Derived.Test.YteaggpgdfiodfaaGreatDoorDiv
namespace Go.Proofs.YteaggpgdfiodfaaGreatDoor
set_option linter.all false
open Go.RowKit

theorem follows : Tryz.prog.follows .mixedOrders = true := by kernel_rfl
theorem ty_one_bool : tyOne Tryz.prog 4 = true := by kernel_rfl
theorem ty_one_u32s : tyOne Tryz.prog 25 = true := by kernel_rfl
theorem ty_size_int : tySize Tryz.prog 27 2 = true := by kernel_rfl
theorem ty_int_0 : tyField Tryz.prog 27 0 0 1 = true := by kernel_rfl
theorem ty_int_1 : tyField Tryz.prog 27 1 1 1 = true := by kernel_rfl
theorem hb_plus : hasBody Tryz.prog 155 = true := by kernel_rfl
theorem hb_minus : hasBody Tryz.prog 156 = true := by kernel_rfl
theorem hb_signed : hasBody Tryz.prog 113 = true := by kernel_rfl

/-- digits of which something is known -/
def LimbsV (n m : Nat) : Pd := fun v w => ∃ l, Limbs w v l ∧ digitsOk l ∧ l.length ≤ m ∧ dval l = n
theorem LimbsV.stb (n m : Nat) : Stb Ext (LimbsV n m) := fun _ _ _ hx ⟨l, h1, h2⟩ => ⟨l, h1.ext hx, h2⟩

theorem sval_add_same (b : Bool) (m n : Nat) : sval b (m + n) = sval b m + sval b n := by
  unfold sval; cases b <;> simp; omega

set_option maxHeartbeats 800000 in
theorem iadd_same (w : World) (b : Bool) (A A' : Option Addr) (cap cap' : Nat) (l l' : List Nat) (hm : Limbs w (.slice A l.length cap) l) (hm' : Limbs w (.slice A' l'.length cap') l') (hn : Norm l) (hn' : Norm l') (h1 : l.length ≤ 549755813888) (h2 : l'.length ≤ 549755813888) :
    Calls Tryz.prog 124 #[.agg #[.bool b, .slice A l.length cap], .agg #[.bool b, .slice A' l'.length cap']] w (Ret w (IntV (sval b (dval l + dval l')))) := by
  have HM := Lib.hid hm
  have HM' := Lib.hid hm'
  have HN := Lib.hid hn
  have HN' := Lib.hid hn'
  have hbb : (b == b) = true := by cases b <;> rfl
  clear hm hm' hn hn'
  go_enter Tryz.func124, Tryz.ntmps124
  go_wp2_with fail
  obtain ⟨w3, hw3⟩ : ∃ w3 : World, w3 = ((w.alloc (.cells #[.bool b, .slice A l.length cap] 27)).alloc (.cells #[.bool b, .slice A' l'.length cap'] 27)).alloc (.cells #[.bool false, .slice none 0 0] 27) := ⟨_, rfl⟩
  have hx3 : Ext w w3 := by subst hw3; exact ((Ext.alloc _ _).trans (Ext.alloc _ _)).trans (Ext.alloc _ _)
  have hb0 : Blk w3 w.heap.size 27 #[.bool b, .slice A l.length cap] := by subst hw3; exact ((Blk.new _ _ _).ext (Ext.alloc _ _)).ext (Ext.alloc _ _)
  have hb1 : Blk w3 (w.heap.size + 1) 27 #[.bool b, .slice A' l'.length cap'] := by
    subst hw3
    have := Blk.new (w.alloc (.cells #[.bool b, .slice A l.length cap] 27)) 27 #[.bool b, .slice A' l'.length cap']
    simp only [World.size_alloc] at this
    exact this.ext (Ext.alloc _ _)
  have hb2 : Blk w3 (w.heap.size + 1 + 1) 27 #[.bool false, .slice none 0 0] := by
    subst hw3
    have := Blk.new ((w.alloc (.cells #[.bool b, .slice A l.length cap] 27)).alloc (.cells #[.bool b, .slice A' l'.length cap'] 27)) 27 #[.bool false, .slice none 0 0]
    simp only [World.size_alloc] at this
    exact this
  rw [← hw3]
  have HX3 := Lib.hid hx3
  have HB0 := Lib.hid hb0
  have HB1 := Lib.hid hb1
  have HB2 := Lib.hid hb2
  clear hw3 hx3 hb0 hb1 hb2
  · skip
    refine wp_steps follows 8 rfl (by kernel_rfl) Ext.pre ?_
    refine Steps.field_addr Ext.pre ty_int_0 (Opd.out rfl rfl) ?_
    refine Steps.load_one Ext.pre ty_one_bool (Opd.kn rfl rfl) (fun w' hx => by rw [(HB0.out.ext hx).cell]; rfl) ?_
    refine Steps.field_addr Ext.pre ty_int_1 (Opd.out rfl rfl) ?_
    refine Steps.load_one Ext.pre ty_one_u32s (Opd.kn rfl rfl) (fun w' hx => by rw [(HB0.out.ext hx).cell]; rfl) ?_
    refine Steps.field_addr Ext.pre ty_int_1 (Opd.out rfl rfl) ?_
    refine Steps.load_one Ext.pre ty_one_u32s (Opd.kn rfl rfl) (fun w' hx => by rw [(HB1.out.ext hx).cell]; rfl) ?_
    refine Steps.call2 hb_plus (LimbsV.stb (dval l + dval l') 549755813889) (Opd.kn rfl rfl) (Opd.kn rfl rfl) (fun w' u v hx hu hv => ?_) ?_
    · subst hu hv
      refine (plus_spec w' _ _ l l' (HM.out.ext (HX3.out.trans hx)) (HM'.out.ext (HX3.out.trans hx)) HN.out.ok HN'.out.ok (by omega) (by omega)).mono ?_
      rintro e w'' ⟨h3, v, r, rfl, h4, h5, h6, h7⟩
      exact ⟨v, rfl, h3, r, h4, h5, by omega, h7⟩
    refine Steps.call2 hb_signed (IntV.stb (sval b (dval l + dval l'))) (Opd.kn rfl rfl) (Opd.kn rfl rfl) (fun w' u v hx hu hv => ?_) ?_
    · subst hu
      obtain ⟨r, hr1, hr2, hr3, hr4⟩ := hv
      have := signed_spec w' b v r hr1 hr2 (by omega)
      rw [hr4] at this
      exact this
    intro a' w' ho hx hk
    obtain ⟨v, hv, hr⟩ := hk.get 7 rfl
    have hp4 : a'.tmps[4]? = some (.pointer (some ⟨w.heap.size + 1 + 1, 0, none⟩)) := (ho.slot 4 (by decide)).trans rfl
    obtain ⟨bb, Ar, capr, lr, rfl, hm, hn, hbn, hvr⟩ := hr.form
    have HVR := Lib.hid hvr
    clear hvr
    have hB := HB2.out.ext hx
    refine list_store (rest := []) (eval_tmp hp4) (eval_tmp hv) hB ty_size_int rfl (by simp [Value.cells]) (fun w2 hu hb2 => ?_)
    rw [putRow_full _ _ (by simp [Value.cells])] at hb2
    refine wpList_nil ?_
    show Exit.then _ _ .normal a' w2
    simp only [Exit.then]
    go_step
    go_wp2_with fail
    refine ⟨ho.defers, _, results_cell rfl hp4 (run_load_agg (l := [.bool bb, .slice Ar lr.length capr]) ty_agg_int (hb2.cells 0 2)), _, rfl, ?_, IntV.mk (hm.upd hu hB (by decide)) hn hbn HVR.out⟩
    exact hu.below (Ext.trans HX3.out hx) (by omega)

set_option maxHeartbeats 800000 in
theorem iadd_diff_ge (w : World) (b : Bool) (A A' : Option Addr) (cap cap' : Nat) (l l' : List Nat) (hm : Limbs w (.slice A l.length cap) l) (hm' : Limbs w (.slice A' l'.length cap') l') (hn : Norm l) (hn' : Norm l') (h1 : l.length ≤ 549755813888) (h2 : l'.length ≤ 549755813888) (hge : dval l' ≤ dval l) :
    Calls Tryz.prog 124 #[.agg #[.bool b, .slice A l.length cap], .agg #[.bool (!b), .slice A' l'.length cap']] w (Ret w (IntV (sval b (dval l - dval l')))) := by
  have HM := Lib.hid hm
  have HM' := Lib.hid hm'
  have HN := Lib.hid hn
  have HN' := Lib.hid hn'
  have hle : l'.length ≤ l.length := by
    rcases Nat.lt_or_ge l.length l'.length with h | h
    · have := norm_lt_of_length hn.ok hn' h; omega
    · exact h
  have HLE := Lib.hid hle
  have hc : 0 ≤ cmpN (dval l) (dval l') := by unfold cmpN; rw [if_neg (by omega)]; split <;> omega
  have HC := Lib.hid hc
  have HGE := Lib.hid hge
  have hbb : (b == !b) = false := by cases b <;> rfl
  clear hle hc hge
  clear hm hm' hn hn'
  go_enter Tryz.func124, Tryz.ntmps124
  go_wp2_with fail
  obtain ⟨w3, hw3⟩ : ∃ w3 : World, w3 = ((w.alloc (.cells #[.bool b, .slice A l.length cap] 27)).alloc (.cells #[.bool (!b), .slice A' l'.length cap'] 27)).alloc (.cells #[.bool false, .slice none 0 0] 27) := ⟨_, rfl⟩
  have hx3 : Ext w w3 := by subst hw3; exact ((Ext.alloc _ _).trans (Ext.alloc _ _)).trans (Ext.alloc _ _)
  have hb0 : Blk w3 w.heap.size 27 #[.bool b, .slice A l.length cap] := by subst hw3; exact ((Blk.new _ _ _).ext (Ext.alloc _ _)).ext (Ext.alloc _ _)
  have hb1 : Blk w3 (w.heap.size + 1) 27 #[.bool (!b), .slice A' l'.length cap'] := by
    subst hw3
    have := Blk.new (w.alloc (.cells #[.bool b, .slice A l.length cap] 27)) 27 #[.bool (!b), .slice A' l'.length cap']
    simp only [World.size_alloc] at this
    exact this.ext (Ext.alloc _ _)
  have hb2 : Blk w3 (w.heap.size + 1 + 1) 27 #[.bool false, .slice none 0 0] := by
    subst hw3
    have := Blk.new ((w.alloc (.cells #[.bool b, .slice A l.length cap] 27)).alloc (.cells #[.bool (!b), .slice A' l'.length cap'] 27)) 27 #[.bool false, .slice none 0 0]
    simp only [World.size_alloc] at this
    exact this
  rw [← hw3]
  have HX3 := Lib.hid hx3
  have HB0 := Lib.hid hb0
  have HB1 := Lib.hid hb1
  have HB2 := Lib.hid hb2
  clear hw3 hx3 hb0 hb1 hb2
  refine (order_spec _ _ _ l l' (HM.out.ext HX3.out) (HM'.out.ext HX3.out) HN.out HN'.out (by omega) (by omega)).mono ?_
  rintro e w1 ⟨hx1, rfl⟩
  have hc := HC.out
  generalize cmpN (dval l) (dval l') = cc at hc
  have HX1 := Lib.hid hx1
  have hb0' := HB0.out.ext hx1
  have hb1' := HB1.out.ext hx1
  have hb2' := HB2.out.ext hx1
  have hE : Ext w w1 := HX3.out.trans hx1
  have HC0 := Lib.hid hb0'
  have HC1 := Lib.hid hb1'
  have HC2 := Lib.hid hb2'
  have HE := Lib.hid hE
  clear hb0' hb1' hb2' hE hx1
  go_wp2_with fail
  · skip
    refine wp_steps follows 8 rfl (by kernel_rfl) Ext.pre ?_
    refine Steps.field_addr Ext.pre ty_int_0 (Opd.out rfl rfl) ?_
    refine Steps.load_one Ext.pre ty_one_bool (Opd.kn rfl rfl) (fun w' hx => by rw [(HC0.out.ext hx).cell]; rfl) ?_
    refine Steps.field_addr Ext.pre ty_int_1 (Opd.out rfl rfl) ?_
    refine Steps.load_one Ext.pre ty_one_u32s (Opd.kn rfl rfl) (fun w' hx => by rw [(HC0.out.ext hx).cell]; rfl) ?_
    refine Steps.field_addr Ext.pre ty_int_1 (Opd.out rfl rfl) ?_
    refine Steps.load_one Ext.pre ty_one_u32s (Opd.kn rfl rfl) (fun w' hx => by rw [(HC1.out.ext hx).cell]; rfl) ?_
    refine Steps.call2 hb_minus (LimbsV.stb (dval l - dval l') 549755813889) (Opd.kn rfl rfl) (Opd.kn rfl rfl) (fun w' u v hx hu hv => ?_) ?_
    · subst hu hv
      refine (minus_spec w' _ _ l l' (HM.out.ext ((HX3.out.trans HX1.out).trans hx)) (HM'.out.ext ((HX3.out.trans HX1.out).trans hx)) HN.out.ok HN'.out.ok (by omega) HLE.out HGE.out).mono ?_
      rintro e w'' ⟨h3, v, r, rfl, h4, h5, h6, h7⟩
      exact ⟨v, rfl, h3, r, h4, h5, by omega, h7⟩
    refine Steps.call2 hb_signed (IntV.stb (sval b (dval l - dval l'))) (Opd.kn rfl rfl) (Opd.kn rfl rfl) (fun w' u v hx hu hv => ?_) ?_
    · subst hu
      obtain ⟨r, hr1, hr2, hr3, hr4⟩ := hv
      have := signed_spec w' b v r hr1 hr2 (by omega)
      rw [hr4] at this
      exact this
    intro a' w' ho hx hk
    obtain ⟨v, hv, hr⟩ := hk.get 7 rfl
    have hp4 : a'.tmps[4]? = some (.pointer (some ⟨w.heap.size + 1 + 1, 0, none⟩)) := (ho.slot 4 (by decide)).trans rfl
    obtain ⟨bb, Ar, capr, lr, rfl, hm, hn, hbn, hvr⟩ := hr.form
    have HVR := Lib.hid hvr
    clear hvr
    have hB := HC2.out.ext hx
    refine list_store (rest := []) (eval_tmp hp4) (eval_tmp hv) hB ty_size_int rfl (by simp [Value.cells]) (fun w2 hu hb2 => ?_)
    rw [putRow_full _ _ (by simp [Value.cells])] at hb2
    refine wpList_nil ?_
    show Exit.then _ _ .normal a' w2
    simp only [Exit.then]
    go_step
    go_wp2_with fail
    refine ⟨ho.defers, _, results_cell rfl hp4 (run_load_agg (l := [.bool bb, .slice Ar lr.length capr]) ty_agg_int (hb2.cells 0 2)), _, rfl, ?_, IntV.mk (hm.upd hu hB (by decide)) hn hbn HVR.out⟩
    exact hu.below (Ext.trans HE.out hx) (by omega)

set_option maxHeartbeats 800000 in
theorem iadd_diff_lt (w : World) (b : Bool) (A A' : Option Addr) (cap cap' : Nat) (l l' : List Nat) (hm : Limbs w (.slice A l.length cap) l) (hm' : Limbs w (.slice A' l'.length cap') l') (hn : Norm l) (hn' : Norm l') (h1 : l.length ≤ 549755813888) (h2 : l'.length ≤ 549755813888) (hlt : dval l < dval l') :
    Calls Tryz.prog 124 #[.agg #[.bool b, .slice A l.length cap], .agg #[.bool (!b), .slice A' l'.length cap']] w (Ret w (IntV (sval (!b) (dval l' - dval l)))) := by
  have HM := Lib.hid hm
  have HM' := Lib.hid hm'
  have HN := Lib.hid hn
  have HN' := Lib.hid hn'
  have hle : l.length ≤ l'.length := by
    rcases Nat.lt_or_ge l'.length l.length with h | h
    · have := norm_lt_of_length hn'.ok hn h; omega
    · exact h
  have HLE := Lib.hid hle
  have hc : cmpN (dval l) (dval l') = -1 := cmpN_lt hlt
  have HC := Lib.hid hc
  have HGE := Lib.hid hlt
  have hbb : (b == !b) = false := by cases b <;> rfl
  clear hle hc hlt
  clear hm hm' hn hn'
  go_enter Tryz.func124, Tryz.ntmps124
  go_wp2_with fail
  obtain ⟨w3, hw3⟩ : ∃ w3 : World, w3 = ((w.alloc (.cells #[.bool b, .slice A l.length cap] 27)).alloc (.cells #[.bool (!b), .slice A' l'.length cap'] 27)).alloc (.cells #[.bool false, .slice none 0 0] 27) := ⟨_, rfl⟩
  have hx3 : Ext w w3 := by subst hw3; exact ((Ext.alloc _ _).trans (Ext.alloc _ _)).trans (Ext.alloc _ _)
  have hb0 : Blk w3 w.heap.size 27 #[.bool b, .slice A l.length cap] := by subst hw3; exact ((Blk.new _ _ _).ext (Ext.alloc _ _)).ext (Ext.alloc _ _)
  have hb1 : Blk w3 (w.heap.size + 1) 27 #[.bool (!b), .slice A' l'.length cap'] := by
    subst hw3
    have := Blk.new (w.alloc (.cells #[.bool b, .slice A l.length cap] 27)) 27 #[.bool (!b), .slice A' l'.length cap']
    simp only [World.size_alloc] at this
    exact this.ext (Ext.alloc _ _)
  have hb2 : Blk w3 (w.heap.size + 1 + 1) 27 #[.bool false, .slice none 0 0] := by
    subst hw3
    have := Blk.new ((w.alloc (.cells #[.bool b, .slice A l.length cap] 27)).alloc (.cells #[.bool (!b), .slice A' l'.length cap'] 27)) 27 #[.bool false, .slice none 0 0]
    simp only [World.size_alloc] at this
    exact this
  rw [← hw3]
  have HX3 := Lib.hid hx3
  have HB0 := Lib.hid hb0
  have HB1 := Lib.hid hb1
  have HB2 := Lib.hid hb2
  clear hw3 hx3 hb0 hb1 hb2
  refine (order_spec _ _ _ l l' (HM.out.ext HX3.out) (HM'.out.ext HX3.out) HN.out HN'.out (by omega) (by omega)).mono ?_
  rintro e w1 ⟨hx1, rfl⟩
  rw [HC.out]
  have HX1 := Lib.hid hx1
  have hb0' := HB0.out.ext hx1
  have hb1' := HB1.out.ext hx1
  have hb2' := HB2.out.ext hx1
  have hE : Ext w w1 := HX3.out.trans hx1
  have HC0 := Lib.hid hb0'
  have HC1 := Lib.hid hb1'
  have HC2 := Lib.hid hb2'
  have HE := Lib.hid hE
  clear hb0' hb1' hb2' hE hx1
  go_wp2_with fail
  · skip
    refine wp_steps follows 8 rfl (by kernel_rfl) Ext.pre ?_
    refine Steps.field_addr Ext.pre ty_int_0 (Opd.out rfl rfl) ?_
    refine Steps.load_one Ext.pre ty_one_bool (Opd.kn rfl rfl) (fun w' hx => by rw [(HC1.out.ext hx).cell]; rfl) ?_
    refine Steps.field_addr Ext.pre ty_int_1 (Opd.out rfl rfl) ?_
    refine Steps.load_one Ext.pre ty_one_u32s (Opd.kn rfl rfl) (fun w' hx => by rw [(HC1.out.ext hx).cell]; rfl) ?_
    refine Steps.field_addr Ext.pre ty_int_1 (Opd.out rfl rfl) ?_
    refine Steps.load_one Ext.pre ty_one_u32s (Opd.kn rfl rfl) (fun w' hx => by rw [(HC0.out.ext hx).cell]; rfl) ?_
    refine Steps.call2 hb_minus (LimbsV.stb (dval l' - dval l) 549755813889) (Opd.kn rfl rfl) (Opd.kn rfl rfl) (fun w' u v hx hu hv => ?_) ?_
    · subst hu hv
      refine (minus_spec w' _ _ l' l (HM'.out.ext ((HX3.out.trans HX1.out).trans hx)) (HM.out.ext ((HX3.out.trans HX1.out).trans hx)) HN'.out.ok HN.out.ok (by omega) HLE.out (Nat.le_of_lt HGE.out)).mono ?_
      rintro e w'' ⟨h3, v, r, rfl, h4, h5, h6, h7⟩
      exact ⟨v, rfl, h3, r, h4, h5, by omega, h7⟩
    refine Steps.call2 hb_signed (IntV.stb (sval (!b) (dval l' - dval l))) (Opd.kn rfl rfl) (Opd.kn rfl rfl) (fun w' u v hx hu hv => ?_) ?_
    · subst hu
      obtain ⟨r, hr1, hr2, hr3, hr4⟩ := hv
      have := signed_spec w' (!b) v r hr1 hr2 (by omega)
      rw [hr4] at this
      exact this
    intro a' w' ho hx hk
    obtain ⟨v, hv, hr⟩ := hk.get 7 rfl
    have hp4 : a'.tmps[4]? = some (.pointer (some ⟨w.heap.size + 1 + 1, 0, none⟩)) := (ho.slot 4 (by decide)).trans rfl
    obtain ⟨bb, Ar, capr, lr, rfl, hm, hn, hbn, hvr⟩ := hr.form
    have HVR := Lib.hid hvr
    clear hvr
    have hB := HC2.out.ext hx
    refine list_store (rest := []) (eval_tmp hp4) (eval_tmp hv) hB ty_size_int rfl (by simp [Value.cells]) (fun w2 hu hb2 => ?_)
    rw [putRow_full _ _ (by simp [Value.cells])] at hb2
    refine wpList_nil ?_
    show Exit.then _ _ .normal a' w2
    simp only [Exit.then]
    go_step
    go_wp2_with fail
    refine ⟨ho.defers, _, results_cell rfl hp4 (run_load_agg (l := [.bool bb, .slice Ar lr.length capr]) ty_agg_int (hb2.cells 0 2)), _, rfl, ?_, IntV.mk (hm.upd hu hB (by decide)) hn hbn HVR.out⟩
    exact hu.below (Ext.trans HE.out hx) (by omega)

theorem iadd_spec (w : World) (va vb : Value) (x y : Int) (k : Nat) (ha : IntV x va w) (hb : IntV y vb w) (hx : SzI k x) (hy : SzI k y) (hk : k ≤ 549755813888) :
    Calls Tryz.prog 124 #[va, vb] w (Ret w (IntV (x + y))) := by
  obtain ⟨b, A, cap, l, rfl, hm, hn, hbn, hv⟩ := ha.form
  obtain ⟨b', A', cap', l', rfl, hm', hn', hbn', hv'⟩ := hb.form
  have h1 := hx.length hn hv
  have h2 := hy.length hn' hv'
  have e1 : x = sval b (dval l) := hv
  have e2 : y = sval b' (dval l') := hv'
  by_cases hbb : b = b'
  · subst hbb
    have h3 := iadd_same w b A A' cap cap' l l' hm hm' hn hn' (by omega) (by omega)
    rw [sval_add_same, ← e1, ← e2] at h3
    exact h3
  · have hb2 : b' = !b := by cases b <;> cases b' <;> simp at hbb ⊢
    subst hb2
    rcases Nat.lt_or_ge (dval l) (dval l') with h | h
    · have h3 := iadd_diff_lt w b A A' cap cap' l l' hm hm' hn hn' (by omega) (by omega) h
      have e3 : sval (!b) (dval l' - dval l) = x + y := by
        rw [e1, e2]; unfold sval; cases b <;> simp <;> omega
      rw [e3] at h3
      exact h3
    · have h3 := iadd_diff_ge w b A A' cap cap' l l' hm hm' hn hn' (by omega) (by omega) h
      have e3 : sval b (dval l - dval l') = x + y := by
        rw [e1, e2]; unfold sval; cases b <;> simp <;> omega
      rw [e3] at h3
      exact h3
end Go.Proofs.YteaggpgdfiodfaaGreatDoor
