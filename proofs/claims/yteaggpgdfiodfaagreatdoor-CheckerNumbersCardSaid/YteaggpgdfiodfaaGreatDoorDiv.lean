/-
  The contracts of integer.divide and integer.Gcd where one of the numbers has a single digit. Conditions: lengths below 2^39; one of the magnitudes below 2^32.
-/
import Derived.Test.YteaggpgdfiodfaaGreatDoorMul
import Derived.RegionTactic
import Derived.Deep.LoopGhost
namespace Go.Proofs.YteaggpgdfiodfaaGreatDoor
set_option linter.all false
open Go.RowKit

theorem Norm.one {b : List Nat} (h : Norm b) (hl : b.length = 1) : ∃ d, b = [d] ∧ 0 < d ∧ d < 4294967296 := by
  match b, hl with
  | [d], _ =>
    have h1 := h.last
    have h2 := h.ok d (by simp)
    exact ⟨d, rfl, by simp at h1; omega, h2⟩

set_option maxHeartbeats 800000 in
theorem divide_small (w : World) (va vb : Value) (a b : List Nat) (ha : Limbs w va a) (hb : Limbs w vb b) (na : Norm a) (nb : Norm b) (la : a.length ≤ 549755813888) (lb : b.length ≤ 549755813888) (hs : b.length = 1 ∨ dval a < dval b) :
    Calls Tryz.prog 115 #[va, vb] w (fun e w' => Ext w w' ∧ ∃ vq vr q r, e = .returned (.tuple #[vq, vr]) ∧ Limbs w' vq q ∧ Limbs w' vr r ∧ Norm q ∧ Norm r ∧ q.length ≤ a.length ∧ r.length ≤ a.length ∧ dval q = dval a / dval b ∧ dval r = dval a % dval b) := by
  by_cases hlt : dval a < dval b
  · have e1 := cmpN_lt hlt
    have E1 := Lib.hid e1
    have HLT := Lib.hid hlt
    have HA := Lib.hid ha
    have HB := Lib.hid hb
    have NA := Lib.hid na
    have NB := Lib.hid nb
    clear e1 hlt ha hb na nb hs
    go_enter Tryz.func115, Tryz.ntmps115
    go_wp2_with fail
    refine (order_spec _ va vb a b HA.out HB.out NA.out NB.out (by omega) (by omega)).mono ?_
    rintro e w1 ⟨hx1, rfl⟩
    rw [E1.out]
    have HX1 := Lib.hid hx1
    clear hx1
    go_wp2_with fail
    go_ret2
    refine ⟨HX1.out, _, va, [], a, rfl, ⟨none, 0, rfl, Nat.le_refl _, fun h => by simp at h⟩, HA.out.ext HX1.out, ⟨fun d hd => by simp at hd, by simp⟩, NA.out, by simp, Nat.le_refl _, ?_, ?_⟩
    · rw [Nat.div_eq_of_lt HLT.out]; rfl
    · rw [Nat.mod_eq_of_lt HLT.out]
  · obtain ⟨d, rfl, hd0, hd⟩ := nb.one (hs.resolve_right hlt)
    have hdv : dval [d] = d := by simp [dval]
    have hge : 0 ≤ cmpN (dval a) (dval [d]) := by unfold cmpN; rw [if_neg hlt]; split <;> omega
    obtain ⟨B, cb, rfl, hcb⟩ := hb.form
    have hB := hb.cell.2.2 (by simp)
    obtain ⟨g, off, rfl, hg, h3⟩ := hB
    have hc : w.cell? ⟨g, off, none⟩ = some (.int .u32 (d : Int)) := h3 0 d rfl
    have HC := Lib.hid hc
    have HGE := Lib.hid hge
    have HA := Lib.hid ha
    have HB := Lib.hid hb
    have NA := Lib.hid na
    have NB := Lib.hid nb
    have HDV := Lib.hid hdv
    have HLT := Lib.hid hlt
    clear hlt ha hb na nb hs hc hge h3 hdv
    go_enter Tryz.func115, Tryz.ntmps115
    go_wp2_with fail
    refine (order_spec _ va _ a [d] HA.out HB.out NA.out NB.out (by omega) (by simp)).mono ?_
    rintro e w1 ⟨hx1, rfl⟩
    have hge2 := HGE.out
    generalize cmpN (dval a) (dval [d]) = cc at hge2
    have hc1 : w1.cell? ⟨g, off, none⟩ = some (.int .u32 (d : Int)) := (Below.cell hx1 (p := ⟨g, off, none⟩) hg).trans HC.out
    have HX1 := Lib.hid hx1
    clear hx1
    go_wp2_with fail
    refine (short_spec _ va a d (HA.out.ext HX1.out) NA.out.ok (by omega) hd hd0).mono ?_
    rintro e w2 ⟨hx2, vq, q, rfl, hq, nq, lq, eq⟩
    have HX2 := Lib.hid hx2
    have HQ := Lib.hid hq
    have NQ := Lib.hid nq
    have EQ := Lib.hid eq
    clear hx2 hq nq eq
    have hr : dval a % d < 4294967296 := Nat.lt_trans (Nat.mod_lt _ hd0) hd
    generalize hrr : dval a % d = r at hr
    have HR := Lib.hid hrr
    clear hrr
    go_wp2_with fail
    have hb3 := Blk.new w2 231 (digs [r])
    refine (trim_spec _ _ _ (Limbs.of_blk hb3 1 (by simp)) (by simp)).mono ?_
    rintro e w3 ⟨rfl, vr, rfl, hr3⟩
    have HR3 := Lib.hid hr3
    clear hr3 hb3
    go_wp2_with fail
    go_ret2
    have hok : digitsOk [r] := by intro x hx; simp at hx; subst hx; exact hr
    refine ⟨(HX1.out.trans HX2.out).trans (Ext.alloc _ _), _, _, q, _, rfl, HQ.out.ext (Ext.alloc _ _), HR3.out, NQ.out, trimL_norm hok, lq, ?_, by rw [HDV.out]; exact EQ.out, by rw [dval_trimL, HDV.out, HR.out]; simp [dval]⟩
    refine Nat.le_trans (trimL_length _) ?_
    by_cases h0 : a = []
    · subst h0
      exact absurd (by simp [dval]; omega) HLT.out
    · have := List.length_pos_iff.2 h0
      simp; omega

set_option maxHeartbeats 800000 in
theorem gcd_small (w : World) (va vb : Value) (x y : Int) (k : Nat) (ha : IntV x va w) (hb : IntV y vb w) (hx : SzI k x) (hy : SzI k y) (hk : k ≤ 549755813888) (hs : SzI 1 x ∨ SzI 1 y) :
    Calls Tryz.prog 61 #[va, vb] w (Ret w (IntV (Nat.gcd x.natAbs y.natAbs : Nat))) := by
  obtain ⟨b, A, cap, l, rfl, hm, hn, hbn, hv⟩ := ha.form
  obtain ⟨b', A', cap', l', rfl, hm', hn', hbn', hv'⟩ := hb.form
  have h1 := hx.length hn hv
  have h2 := hy.length hn' hv'
  have h3 : l.length ≤ 1 ∨ l'.length ≤ 1 := hs.imp (fun h => h.length hn hv) (fun h => h.length hn' hv')
  have e1 : x.natAbs = dval l := by subst hv; cases b <;> simp
  have e2 : y.natAbs = dval l' := by subst hv'; cases b' <;> simp
  rw [e1, e2]
  have HM := Lib.hid hm
  have HM' := Lib.hid hm'
  have HN := Lib.hid hn
  have HN' := Lib.hid hn'
  clear ha hb hx hy hs hm hn hbn hv hm' hn' hbn' hv' e1 e2
  go_enter Tryz.func61, Tryz.ntmps61
  go_wp2_with fail
  go_region
  go_wp2_with fail
  obtain ⟨w3, hw3⟩ : ∃ w3 : World, w3 = (((w.alloc (.cells #[.bool b, .slice A l.length cap] 27)).alloc (.cells #[.bool b', .slice A' l'.length cap'] 27)).alloc (.cells #[.bool false, .slice none 0 0] 27)).drew := ⟨_, rfl⟩
  have hx3 : Ext w w3 := by subst hw3; exact (((Ext.alloc _ _).trans (Ext.alloc _ _)).trans (Ext.alloc _ _)).trans (Ext.drew _)
  have hb2 : Blk w3 (w.heap.size + 1 + 1) 27 #[.bool false, .slice none 0 0] := by
    subst hw3
    have := Blk.new ((w.alloc (.cells #[.bool b, .slice A l.length cap] 27)).alloc (.cells #[.bool b', .slice A' l'.length cap'] 27)) 27 #[.bool false, .slice none 0 0]
    simp only [World.size_alloc] at this
    exact this.drew
  rw [← hw3]
  have HX3 := Lib.hid hx3
  have HB2 := Lib.hid hb2
  clear hw3 hx3 hb2
  go_loopg [5, 6] (dval l') (fun kq v5 v6 wr => ∃ p q : List Nat, dval q = kq ∧ Limbs wr v5 p ∧ Limbs wr v6 q ∧ Norm p ∧ Norm q ∧ p.length ≤ 549755813888 ∧ q.length ≤ 549755813888 ∧ (p.length ≤ 1 ∨ q.length ≤ 1) ∧ Nat.gcd (dval p) (dval q) = Nat.gcd (dval l) (dval l') ∧ Ext w3 wr)
  case atStart => exact ⟨l, l', rfl, HM.out.ext HX3.out, HM'.out.ext HX3.out, HN.out, HN'.out, by omega, by omega, h3, rfl, Ext.refl _⟩
  case round =>
    obtain ⟨p, q, rfl, hp, hq, np, nq, lp, lq, hs, hg, hx⟩ := hrel
    obtain ⟨Ap, cp, rfl, _⟩ := hp.form
    obtain ⟨Aq, cq, rfl, _⟩ := hq.form
    have P := Lib.hid hp
    have Q := Lib.hid hq
    have NP := Lib.hid np
    have NQ := Lib.hid nq
    have G := Lib.hid hg
    have X := Lib.hid hx
    clear hp hq np nq hg hx
    by_cases h0 : 0 < q.length
    · have hds : q.length = 1 ∨ dval p < dval q := by
        rcases Nat.lt_or_ge 1 q.length with h4 | h4
        · right
          exact norm_lt_of_length NP.out.ok NQ.out (by omega)
        · left; omega
      have hqpos : 0 < dval q := by
        rcases Nat.eq_zero_or_pos (dval q) with h5 | h5
        · have := (norm_zero NQ.out).1 h5; subst this; simp at h0
        · exact h5
      have HDS := Lib.hid hds
      have HQP := Lib.hid hqpos
      clear hds hqpos
      go_wp2_with fail
      refine (divide_small _ _ _ p q P.out Q.out NP.out NQ.out (by omega) (by omega) HDS.out).mono ?_
      rintro e w1 ⟨hx1, vq, vr, q', r, rfl, h5, h6, h7, h8, h9, h10, h11, h12⟩
      have X1 := Lib.hid hx1
      have R := Lib.hid h6
      have NR := Lib.hid h8
      have E := Lib.hid h12
      clear hx1 h5 h6 h7 h8 h11 h12
      go_wp2_with fail
      go_roundg (dval r)
      case measure => rw [E.out]; exact Nat.mod_lt _ HQP.out
      case rel =>
        have hlt : dval r < dval q := by rw [E.out]; exact Nat.mod_lt _ HQP.out
        refine ⟨q, r, rfl, Q.out.ext X1.out, R.out, NQ.out, NR.out, by omega, by omega, ?_, ?_, X.out.trans X1.out⟩
        · rcases Nat.lt_or_ge 1 q.length with h4 | h4
          · right; have := hs; omega
          · left; exact h4
        · rw [E.out, ← G.out, Nat.gcd_comm (dval p), Nat.gcd_rec (dval q) (dval p), Nat.gcd_comm]
    · have hq0 : q = [] := List.eq_nil_of_length_eq_zero (by omega)
      subst hq0
      have hb2 := HB2.out.ext X.out
      have f0 := hb2.free (i := 0)
      have f1 := hb2.free (i := 1)
      have d0 := hb2.cell 0
      have d1 := hb2.cell 1
      simp only [List.getElem?_toArray, List.getElem?_cons_zero, List.getElem?_cons_succ] at d0 d1
      have HB := Lib.hid hb2
      clear hb2
      go_wp2_with fail
      have u1 := Upd.setCell wr (w.heap.size + 1 + 1) 0 (.bool false)
      have k1 := (HB.out).set (i := 0) (v := .bool false)
      have u2 := Upd.setCell (wr.setCell ⟨w.heap.size + 1 + 1, 0, none⟩ (.bool false)) (w.heap.size + 1 + 1) 1 (.slice Ap p.length cp)
      have k2 := k1.set (i := 1) (v := .slice Ap p.length cp)
      have hE1 : Below w.heap.size w wr := Ext.trans HX3.out X.out
      refine ⟨rfl, _, results_cell rfl rfl (run_load_agg (l := [.bool false, .slice Ap p.length cp]) ty_agg_int (by simpa using k2.cells 0 2)), _, rfl, ?_, ?_⟩
      · exact u2.below (u1.below hE1 (by omega)) (by omega)
      · refine IntV.mk (((P.out).upd u1 HB.out (by decide)).upd u2 k1 (by decide)) NP.out (by simp) ?_
        rw [← G.out]
        simp [dval]
end Go.Proofs.YteaggpgdfiodfaaGreatDoor
