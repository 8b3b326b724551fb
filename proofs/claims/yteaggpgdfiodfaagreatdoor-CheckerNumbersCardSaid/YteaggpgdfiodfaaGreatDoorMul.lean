/-
  The contract of integer.Mul. Conditions: magnitudes below 2^32 to the power k, k below 2^39.
-/
import Derived.Test.YteaggpgdfiodfaaGreatDoorInt
namespace Go.Proofs.YteaggpgdfiodfaaGreatDoor
set_option linter.all false
open Go.RowKit

theorem mul_inner_step {D D' b : List Nat} {k j cc s x : Nat} (hp : k + j < D'.length) (hj : j < b.length)
    (hev : dval D' + B32 ^ (k + j) * cc = dval D + B32 ^ k * (x * dval (b.take j))) (hs : s = cc + (x * b[j] + D'[k + j])) :
    dval (D'.set (k + j) (s % B32)) + B32 ^ (k + (j + 1)) * (s / B32) = dval D + B32 ^ k * (x * dval (b.take (j + 1))) := by
  have h1 := dval_set D' (k + j) (s % B32) hp
  have h2 := pow_step (B32 ^ (k + j)) s
  rw [dval_take_succ b j hj]
  have h3 : B32 ^ (k + j) * s = B32 ^ (k + j) * cc + B32 ^ k * (x * (B32 ^ j * b[j])) + B32 ^ (k + j) * D'[k + j] := by
    rw [hs, Nat.mul_add, Nat.mul_add, Nat.pow_add]
    have : B32 ^ k * B32 ^ j * (x * b[j]) = B32 ^ k * (x * (B32 ^ j * b[j])) := by
      rw [Nat.mul_assoc]
      congr 1
      rw [← Nat.mul_assoc, Nat.mul_comm (B32 ^ j) x, Nat.mul_assoc]
    omega
  rw [show k + (j + 1) = k + j + 1 by omega, Nat.pow_succ, Nat.mul_add x, Nat.mul_add]
  omega

theorem mul_outer_step {a D D' : List Nat} {k cc lb : Nat} {vb : Nat} (hk : k < a.length) (hev : dval D = dval (a.take k) * vb) (hp : k + lb < D'.length) (h0 : D'[k + lb] = 0)
    (hin : dval D' + B32 ^ (k + lb) * cc = dval D + B32 ^ k * (a[k] * vb)) : dval (D'.set (k + lb) cc) = dval (a.take (k + 1)) * vb := by
  have h1 := dval_set D' (k + lb) cc hp
  rw [h0] at h1
  rw [dval_take_succ a k hk, Nat.add_mul, Nat.mul_assoc]
  omega

theorem getD_set_far {D : List Nat} {i j v : Nat} (h : i ≠ j) : (D.set i v).getD j 0 = D.getD j 0 := by
  simp [List.getElem?_set_ne h]

theorem digitsOk.set {D : List Nat} (h : digitsOk D) {i v : Nat} (hv : v < B32) : digitsOk (D.set i v) := by
  intro d hd
  rcases List.mem_or_eq_of_mem_set hd with h1 | h1
  · exact h d h1
  · omega

theorem sval_mul (b b' : Bool) (m n : Nat) : sval (b != b') (m * n) = sval b m * sval b' n := by
  unfold sval
  cases b <;> cases b' <;> simp [Int.natCast_mul, Int.neg_mul, Int.mul_neg]

theorem ty_agg_int : tyAgg Tryz.prog 27 2 = true := by kernel_rfl

set_option maxHeartbeats 2000000 in
set_option maxRecDepth 100000 in
theorem imul_digits (w : World) (b1 b2 : Bool) (A B : Option Addr) (ca cb : Nat) (a b : List Nat) (ha : Limbs w (.slice A a.length ca) a) (hb : Limbs w (.slice B b.length cb) b) (na : digitsOk a) (nb : digitsOk b) (la : a.length ≤ 549755813888) (lb : b.length ≤ 549755813888) :
    Calls Tryz.prog 70 #[.agg #[.bool b1, .slice A a.length ca], .agg #[.bool b2, .slice B b.length cb]] w (Ret w (IntV (sval (b1 != b2) (dval a * dval b)))) := by
  have hA : At w A a := fun h => ha.cell.2.2 h
  have hB : At w B b := fun h => hb.cell.2.2 h
  have HA := Lib.hid hA
  have HB := Lib.hid hB
  have NA := Lib.hid na
  have NB := Lib.hid nb
  clear hA hB ha hb na nb
  have hmk := make_u32 (a.length + b.length) (by omega)
  have ec : ((a.length + b.length : Nat) : Int) = (a.length : Int) + (b.length : Int) := by omega
  rw [ec] at hmk
  clear ec
  go_enter Tryz.func70, Tryz.ntmps70
  go_wp2_with fail
  clear hmk
  obtain ⟨w3, hw3⟩ : ∃ w3 : World, w3 = ((w.alloc (.cells #[.bool b1, .slice A a.length ca] 27)).alloc (.cells #[.bool b2, .slice B b.length cb] 27)).alloc (.cells #[.bool false, .slice none 0 0] 27) := ⟨_, rfl⟩
  have hx3 : Ext w w3 := by subst hw3; exact ((Ext.alloc _ _).trans (Ext.alloc _ _)).trans (Ext.alloc _ _)
  have hs3 : w3.heap.size = w.heap.size + 1 + 1 + 1 := by subst hw3; simp
  have hb0 : Blk w3 w.heap.size 27 #[.bool b1, .slice A a.length ca] := by subst hw3; exact ((Blk.new _ _ _).ext (Ext.alloc _ _)).ext (Ext.alloc _ _)
  have hb1 : Blk w3 (w.heap.size + 1) 27 #[.bool b2, .slice B b.length cb] := by
    subst hw3
    have := Blk.new (w.alloc (.cells #[.bool b1, .slice A a.length ca] 27)) 27 #[.bool b2, .slice B b.length cb]
    simp only [World.size_alloc] at this
    exact this.ext (Ext.alloc _ _)
  have hb2 : Blk w3 (w.heap.size + 1 + 1) 27 #[.bool false, .slice none 0 0] := by
    subst hw3
    have := Blk.new ((w.alloc (.cells #[.bool b1, .slice A a.length ca] 27)).alloc (.cells #[.bool b2, .slice B b.length cb] 27)) 27 #[.bool false, .slice none 0 0]
    simpa using this
  rw [← hw3]
  have HX3 := Lib.hid hx3
  have HS3 := Lib.hid hs3
  have HB0 := Lib.hid hb0
  have HB1 := Lib.hid hb1
  have HB2 := Lib.hid hb2
  clear hw3 hx3 hs3 hb0 hb1 hb2
  go_loopw [22] (fun i wr => ∃ (k : Nat) (D : List Nat), k ≤ a.length ∧ i = .int .i64 (k : Int) ∧ D.length = a.length + b.length ∧ digitsOk D ∧ (∀ t, k + b.length ≤ t → D.getD t 0 = 0) ∧ dval D = dval (a.take k) * dval b ∧ Blk wr (w.heap.size + 1 + 1 + 1) 231 (digs D) ∧ Below (w.heap.size + 1 + 1 + 1) w3 wr) (fun i _ => a.length - (intOf i).toNat)
  case atStart =>
    refine ⟨0, List.replicate (a.length + b.length) 0, Nat.zero_le _, rfl, by simp, ?_, ?_, ?_, ?_, ?_⟩
    · intro d hd
      have := List.eq_of_mem_replicate hd
      subst this; decide
    · intro t _
      simp only [List.getD_eq_getElem?_getD, List.getElem?_replicate]
      split <;> rfl
    · rw [dval_zeros]; simp [dval]
    · have := Blk.new w3 231 (digs (List.replicate (a.length + b.length) 0))
      rwa [HS3.out] at this
    · have := Ext.alloc w3 (.cells (digs (List.replicate (a.length + b.length) 0)) 231)
      unfold Ext at this
      rwa [HS3.out] at this
  case round =>
    obtain ⟨k, D, hk, rfl, hDl, hDo, hDz, hDv, hDb, hbel⟩ := hrel
    have HDL := Lib.hid hDl
    have HDO := Lib.hid hDo
    have HDZ := Lib.hid hDz
    have HDV := Lib.hid hDv
    have HDB := Lib.hid hDb
    have HBL := Lib.hid hbel
    clear hDl hDo hDz hDv hDb hbel
    have q0 : wr.cell? ⟨w.heap.size, 0, none⟩ = some (.bool b1) := (HBL.out.cell (p := ⟨w.heap.size, 0, none⟩) (by simp; omega)).trans (by rw [HB0.out.cell]; rfl)
    have q1 : wr.cell? ⟨w.heap.size + 1, 0, none⟩ = some (.bool b2) := (HBL.out.cell (p := ⟨w.heap.size + 1, 0, none⟩) (by simp)).trans (by rw [HB1.out.cell]; rfl)
    have q2 : wr.cell? ⟨w.heap.size + 1, 1, none⟩ = some (.slice B b.length cb) := (HBL.out.cell (p := ⟨w.heap.size + 1, 1, none⟩) (by simp)).trans (by rw [HB1.out.cell]; rfl)
    by_cases hlt : k < a.length
    · obtain ⟨g, off, rfl, hg, h3⟩ := HA.out (by omega)
      have hx : wr.cell? ⟨g, off + k, none⟩ = some (.int .u32 ((a[k] : Nat) : Int)) := ((HBL.out.cell (p := ⟨g, off + k, none⟩) (by simp; omega)).trans (Below.cell HX3.out (p := ⟨g, off + k, none⟩) hg)).trans (h3 k _ (by simp [hlt]))
      have bx : a[k] < 4294967296 := NA.out.get hlt
      clear h3
      obtain ⟨wo, rfl⟩ : ∃ wo : World, wo = wr := ⟨_, rfl⟩
      go_wp2_with fail
      go_loopw [8, 30] (fun c i wi => ∃ (j cc : Nat) (D' : List Nat), j ≤ b.length ∧ i = .int .i64 (j : Int) ∧ c = .int .u64 (cc : Int) ∧ cc < 4294967296 ∧ D'.length = a.length + b.length ∧ digitsOk D' ∧ (∀ t, k + j ≤ t → D'.getD t 0 = D.getD t 0) ∧ dval D' + B32 ^ (k + j) * cc = dval D + B32 ^ k * (a[k] * dval (b.take j)) ∧ Blk wi (w.heap.size + 1 + 1 + 1) 231 (digs D') ∧ Below (w.heap.size + 1 + 1 + 1) w3 wi) (fun _ i _ => b.length - (intOf i).toNat)
      case atStart => exact ⟨0, 0, D, Nat.zero_le _, rfl, rfl, by omega, HDL.out, HDO.out, fun _ _ => rfl, by simp [dval], HDB.out, HBL.out⟩
      case round =>
        obtain ⟨j, cc, D', hj, rfl, rfl, hcc, hl', ho', hz', hv', hb', hbel'⟩ := hrel
        have L' := Lib.hid hl'
        have O' := Lib.hid ho'
        have Z' := Lib.hid hz'
        have V' := Lib.hid hv'
        have B' := Lib.hid hb'
        have BL' := Lib.hid hbel'
        clear hl' ho' hz' hv' hb' hbel' q0 q1 q2 hx
        have p2 : wr.cell? ⟨w.heap.size + 1, 1, none⟩ = some (.slice B b.length cb) := (BL'.out.cell (p := ⟨w.heap.size + 1, 1, none⟩) (by simp)).trans (by rw [HB1.out.cell]; rfl)
        by_cases hltj : j < b.length
        · obtain ⟨g', off', rfl, hg', h3'⟩ := HB.out (by omega)
          have hy : wr.cell? ⟨g', off' + j, none⟩ = some (.int .u32 ((b[j] : Nat) : Int)) := ((BL'.out.cell (p := ⟨g', off' + j, none⟩) (by simp; omega)).trans (Below.cell HX3.out (p := ⟨g', off' + j, none⟩) hg')).trans (h3' j _ (by simp [hltj]))
          have hD : k + j < D'.length := by have := L'.out; omega
          have hd := B'.out.dig hD
          have hfr := B'.out.free (i := k + j)
          have by_ : b[j] < 4294967296 := NB.out.get hltj
          have bd : D'[k + j] < 4294967296 := O'.out.get hD
          obtain ⟨c0, c1⟩ := mul_bound bx by_
          clear h3'
          go_wp2_with fail
          go_roundw
          case rel =>
            have hsm : cc + (a[k] * b[j] + D'[k + j]) < 18446744073709551616 := by
              have : ((cc + (a[k] * b[j] + D'[k + j]) : Nat) : Int) < 18446744073709551616 := by
                rw [Int.natCast_add, Int.natCast_add, Int.natCast_mul]; omega
              omega
            have hst := mul_inner_step (s := cc + (a[k] * b[j] + D'[k + j])) hD hltj V'.out rfl
            refine ⟨j + 1, (cc + (a[k] * b[j] + D'[k + j])) / B32, D'.set (k + j) ((cc + (a[k] * b[j] + D'[k + j])) % B32), by omega, by go_num, ?_, ?_, by rw [List.length_set]; exact L'.out, O'.out.set (Nat.mod_lt _ B32_pos), ?_, hst, ?_, BL'.out.setCell (Nat.le_refl _) _⟩
            · rw [B32_eq, Int.natCast_ediv, Int.natCast_add, Int.natCast_add, Int.natCast_mul]; rfl
            · rw [B32_eq]; omega
            · intro t ht
              rw [getD_set_far (by omega)]
              exact Z'.out t (by omega)
            · have h5 := Blk.setCell (i := k + j) (x := (cc + (a[k] * b[j] + D'[k + j])) % B32) B'.out
              have e5 : ((((cc + (a[k] * b[j] + D'[k + j])) % B32 : Nat)) : Int) = ((cc : Int) + ((a[k] : Int) * (b[j] : Int) + (D'[k + j] : Int))) % 4294967296 := by
                rw [B32_eq, Int.natCast_emod, Int.natCast_add, Int.natCast_add, Int.natCast_mul]; rfl
              rw [e5] at h5
              exact h5
          case measure => simp [intOf]; omega
        · have hj0 : j = b.length := by omega
          subst hj0
          have hD : k + b.length < D'.length := by have := L'.out; omega
          have hd := B'.out.dig hD
          have hfr := B'.out.free (i := k + b.length)
          go_wp2_with fail
          go_roundw
          case rel =>
            have hz0 : D'[k + b.length] = 0 := by
              have h1 := Z'.out (k + b.length) (Nat.le_refl _)
              rw [HDZ.out _ (Nat.le_refl _)] at h1
              simpa [List.getD_eq_getElem?_getD, hD] using h1
            have h7 := V'.out
            rw [List.take_of_length_le (Nat.le_refl _)] at h7
            have hst := mul_outer_step (cc := cc) hlt HDV.out hD hz0 h7
            refine ⟨k + 1, D'.set (k + b.length) cc, by omega, by go_num, by rw [List.length_set]; exact L'.out, O'.out.set (by rw [B32_eq]; exact hcc), ?_, hst, Blk.setCell B'.out, BL'.out.setCell (Nat.le_refl _) _⟩
            intro t ht
            rw [getD_set_far (by omega), Z'.out t (by omega)]
            exact HDZ.out t (by omega)
          case measure => simp [intOf]; omega
    · have hk0 : k = a.length := by omega
      subst hk0
      have h6 := Limbs.of_blk HDB.out (a.length + b.length) (by have := HDL.out; omega)
      rw [HDL.out] at h6
      have H6 := Lib.hid h6
      clear h6
      go_wp2_with fail
      refine (signed_spec _ _ _ _ H6.out HDO.out (by have := HDL.out; omega)).mono ?_
      rintro e w1 ⟨v, rfl, hx1, hv⟩
      obtain ⟨bb, Ar, capr, lr, rfl, hm, hn, hbn, hvr⟩ := hv.form
      have hb2 : Blk w1 (w.heap.size + 1 + 1) 27 #[.bool false, .slice none 0 0] := (HB2.out.below HBL.out (by omega)).ext hx1
      have HM := Lib.hid hm
      have HN := Lib.hid hn
      have HBN := Lib.hid hbn
      have HVR := Lib.hid hvr
      have HX1 := Lib.hid hx1
      have f0 := hb2.free (i := 0)
      have f1 := hb2.free (i := 1)
      have d0 := hb2.cell 0
      have d1 := hb2.cell 1
      have HB2' := Lib.hid hb2
      clear hm hn hbn hvr hx1 hv hb2
      simp only [List.getElem?_toArray, List.getElem?_cons_zero, List.getElem?_cons_succ] at d0 d1
      go_wp2_with fail
      have u1 := Upd.setCell w1 (w.heap.size + 1 + 1) 0 (.bool bb)
      have k1 := (HB2'.out).set (i := 0) (v := .bool bb)
      have u2 := Upd.setCell (w1.setCell ⟨w.heap.size + 1 + 1, 0, none⟩ (.bool bb)) (w.heap.size + 1 + 1) 1 (.slice Ar lr.length capr)
      have k2 := k1.set (i := 1) (v := .slice Ar lr.length capr)
      have hE1 : Below w.heap.size w w1 := ((HX3.out).trans (Below.mono HBL.out (by omega) |>.mono (by have := HS3.out; omega : w3.heap.size ≤ w.heap.size + 1 + 1 + 1))).trans HX1.out
      refine ⟨rfl, _, results_cell rfl rfl (run_load_agg (l := [.bool bb, .slice Ar lr.length capr]) ty_agg_int (by simpa using k2.cells 0 2)), _, rfl, ?_, ?_⟩
      · exact u2.below (u1.below hE1 (by omega)) (by omega)
      · refine IntV.mk (((HM.out).upd u1 HB2'.out (by decide)).upd u2 k1 (by decide)) HN.out HBN.out ?_
        have h9 := HVR.out
        rw [HDV.out, List.take_of_length_le (Nat.le_refl _)] at h9
        exact h9

theorem imul_spec (w : World) (va vb : Value) (x y : Int) (k : Nat) (ha : IntV x va w) (hb : IntV y vb w) (hx : SzI k x) (hy : SzI k y) (hk : k ≤ 549755813888) :
    Calls Tryz.prog 70 #[va, vb] w (Ret w (IntV (x * y))) := by
  obtain ⟨b, A, cap, l, rfl, hm, hn, hbn, hv⟩ := ha.form
  obtain ⟨b', A', cap', l', rfl, hm', hn', hbn', hv'⟩ := hb.form
  have h1 := hx.length hn hv
  have h2 := hy.length hn' hv'
  have h3 := imul_digits w b b' A A' cap cap' l l' hm hm' hn.ok hn'.ok (by omega) (by omega)
  rw [sval_mul] at h3
  have e1 : sval b (dval l) = x := hv.symm
  have e2 : sval b' (dval l') = y := hv'.symm
  rw [e1, e2] at h3
  exact h3
end Go.Proofs.YteaggpgdfiodfaaGreatDoor
