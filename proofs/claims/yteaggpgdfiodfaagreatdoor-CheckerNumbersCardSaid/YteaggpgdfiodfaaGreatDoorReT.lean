/-
  rational.read at a fraction. Conditions: each lemma's premises.
-/
import Derived.Test.YteaggpgdfiodfaaGreatDoorRe
namespace Go.Proofs.YteaggpgdfiodfaaGreatDoor
set_option linter.all false
open Go.RowKit

theorem hb_gcd : hasBody Tryz.prog 61 = true := by kernel_rfl
abbrev noCall : Nat → List SV → AH → Option (SV × AH) := fun _ _ _ => none
def zeroAV : AV := .cons (.sc (.bool false)) (.cons (.sc (.slice none 0 0)) (.cons (.sc (.bool false)) (.cons (.sc (.slice none 0 0)) .nil)))
def tailE (r : Bool) : AEnv := [(4, .one (.ptr 0 0)), (10, .one (.ptr 1 0)), (12, .one (.ptr 2 0)), (80, .one (.sc (.bool r)))]
def tailH (m n : Int) : AH := ⟨3, [(0, some (29, zeroAV)), (1, some (27, .cons (.int m 4) .nil)), (2, some (27, .cons (.int n 4) .nil))]⟩
noncomputable def tailEv (c : Code) (r : Bool) (m n : Int) : Option SV := (evCode Tryz.prog noCall noCall 0 85 10 c (tailE r) (tailH m n)).bind fun x => match x with
  | (.ret, env, H) => evRes Tryz.prog H env [.cell 4 29, .tmp 5]
  | _ => none
def tailG (gR gT gB : Nat) : Nat → Option Nat
  | 0 => some gR
  | 1 => some gT
  | 2 => some gB
  | _ => none
theorem tailG_inv {gR gT gB b g : Nat} (h : tailG gR gT gB b = some g) : (b = 0 ∧ g = gR) ∨ (b = 1 ∧ g = gT) ∨ (b = 2 ∧ g = gB) := by
  match b, h with
  | 0, h => exact .inl ⟨rfl, (Option.some.inj h).symm⟩
  | 1, h => exact .inr (.inl ⟨rfl, (Option.some.inj h).symm⟩)
  | 2, h => exact .inr (.inr ⟨rfl, (Option.some.inj h).symm⟩)
theorem dv_one [Rho] {γ : Nat → Option Nat} {N : Nat → Prop} {w : World} {a : AV} {l : List Value} (h : DV γ N w a l) : DV γ N w (.cons a .nil) l := by
  have := DV.cons h DV.nil
  rwa [List.append_nil] at this
theorem tail_run [Rho] {c : Code} {s : SV} {r : Bool} {m n : Int} (hev : tailEv c r m n = some s) {a : Act} {w0 w : World} {gR gT gB : Nat} {cT cB : List Value} {F : Func} (hres : F.results = #[.cell 4 29, .tmp 5])
    (hsz : a.tmps.size = 85) (hdf : a.defers = []) (h4 : a.tmps[4]? = some (.pointer (some ⟨gR, 0, none⟩))) (h10 : a.tmps[10]? = some (.pointer (some ⟨gT, 0, none⟩))) (h12 : a.tmps[12]? = some (.pointer (some ⟨gB, 0, none⟩))) (h80 : a.tmps[80]? = some (.bool r))
    (bR : Blk w gR 29 z4) (bT : Blk w gT 27 cT.toArray) (bB : Blk w gB 27 cB.toArray) (vT : IntC w cT m) (vB : IntC w cB n) (sT : SzI 4 m) (sB : SzI 4 n)
    (l1 : gR < gT) (l2 : gT < gB) (l0 : w0.heap.size ≤ gR) (hx : Ext w0 w) {Q : Exit → Act → World → Prop}
    (hQ : ∀ a' w' v, a'.defers = [] → Ext w0 w' → (results F a'.tmps).run Tryz.prog w' = .ok v w' → (∃ γ N, VR γ N w' s v) → Q .ret a' w') : c.wp Tryz.prog Q a w := by
  unfold tailEv at hev
  obtain ⟨⟨ex, env, H⟩, h1, h2⟩ := bnd_some hev
  have hS : St (tailG gR gT gB) (fun _ => False) (tailH m n) w := by
    refine ⟨fun g hg => hg.elim, ?_, ?_, ?_, ?_⟩
    · intro b g hb
      rcases tailG_inv hb with ⟨rfl, rfl⟩ | ⟨rfl, rfl⟩ | ⟨rfl, rfl⟩ <;> (show _ < 3; omega)
    · intro b g hb
      rcases tailG_inv hb with ⟨rfl, rfl⟩ | ⟨rfl, rfl⟩ | ⟨rfl, rfl⟩
      · exact ⟨_, _, bR, by decide⟩
      · exact ⟨_, _, bT, by decide⟩
      · exact ⟨_, _, bB, by decide⟩
    · intro b g t cs hb hg
      rcases tailG_inv hb with ⟨rfl, rfl⟩ | ⟨rfl, rfl⟩ | ⟨rfl, rfl⟩
      · have h3 : some (29, zeroAV) = some (t, cs) := hg
        cases h3
        refine ⟨[.bool false, .slice none 0 0, .bool false, .slice none 0 0], [], bR, ?_⟩
        exact .cons (xs := [_]) (.sc rfl) (.cons (xs := [_]) (.sc rfl) (.cons (xs := [_]) (.sc rfl) (.cons (xs := [_]) (.sc rfl) .nil)))
      · have h3 : some (27, AV.cons (.int m 4) .nil) = some (t, cs) := hg
        cases h3
        refine ⟨cT, [], by rw [List.append_nil]; exact bT, ?_⟩
        exact dv_one (.int vT sT)
      · have h3 : some (27, AV.cons (.int n 4) .nil) = some (t, cs) := hg
        cases h3
        refine ⟨cB, [], by rw [List.append_nil]; exact bB, ?_⟩
        exact dv_one (.int vB sB)
    · intro b b' g hb hb' _ _
      rcases tailG_inv hb with ⟨rfl, rfl⟩ | ⟨rfl, rfl⟩ | ⟨rfl, rfl⟩ <;> rcases tailG_inv hb' with ⟨rfl, h3⟩ | ⟨rfl, h3⟩ | ⟨rfl, h3⟩ <;> first | rfl | omega
  have hR : FrR 85 (tailE r) (tailG gR gT gB) (Nn (fun _ => False) (tailG gR gT gB)) w a := by
    refine ⟨hsz, hdf, fun t s ht => ?_⟩
    have key : (t = 4 ∧ s = .one (.ptr 0 0)) ∨ (t = 10 ∧ s = .one (.ptr 1 0)) ∨ (t = 12 ∧ s = .one (.ptr 2 0)) ∨ (t = 80 ∧ s = .one (.sc (.bool r))) := by
      unfold tailE at ht
      simp only [lk] at ht
      rcases cond_some ht with ⟨e1, e2⟩ | ⟨_, ht⟩
      · exact .inl ⟨(Nat.eq_of_beq_eq_true e1).symm, (Option.some.inj e2).symm⟩
      rcases cond_some ht with ⟨e1, e2⟩ | ⟨_, ht⟩
      · exact .inr (.inl ⟨(Nat.eq_of_beq_eq_true e1).symm, (Option.some.inj e2).symm⟩)
      rcases cond_some ht with ⟨e1, e2⟩ | ⟨_, ht⟩
      · exact .inr (.inr (.inl ⟨(Nat.eq_of_beq_eq_true e1).symm, (Option.some.inj e2).symm⟩))
      rcases cond_some ht with ⟨e1, e2⟩ | ⟨_, ht⟩
      · exact .inr (.inr (.inr ⟨(Nat.eq_of_beq_eq_true e1).symm, (Option.some.inj e2).symm⟩))
      · cases ht
    rcases key with ⟨rfl, rfl⟩ | ⟨rfl, rfl⟩ | ⟨rfl, rfl⟩ | ⟨rfl, rfl⟩
    · exact ⟨_, h4, .ptr rfl⟩
    · exact ⟨_, h10, .ptr rfl⟩
    · exact ⟨_, h12, .ptr rfl⟩
    · exact ⟨_, h80, .sc rfl⟩
  have hCall : ∀ f, CallOk Tryz.prog f noCall := fun f fn args H s H' h => by cases h
  refine wp_mono (evCode_ok rfl hCall (hCall 0) c _ _ _ h1 (Nat.zero_le _) _ _ _ hR hS) ?_
  rintro e a' w' ⟨rfl, γ', h5, h6, h7⟩
  cases ex with
  | exit id => cases h2
  | normal => cases h2
  | ret =>
    obtain ⟨v, k7, k8⟩ := evRes_run (P := Tryz.prog) (F := F) h5 h6 (by rw [hres]; exact h2)
    have hlt : w0.heap.size ≤ w.heap.size := hx.size
    have hc := h7.chg
    refine hQ a' w' v h5.defers (Below.trans hx ⟨hc.os, hc.tape, hc.output, hc.size, fun k hk => hc.block k (by omega) ?_⟩) k7 ⟨_, _, k8⟩
    rintro ⟨b, _, hb⟩
    rcases tailG_inv hb with ⟨_, h3⟩ | ⟨_, h3⟩ | ⟨_, h3⟩ <;> omega
set_option maxRecDepth 100000 in
set_option maxHeartbeats 1600000 in
theorem read_frac [Rho] (w : World) (s : ByteArray) (hs : s.size ≤ 20) (T B P : List UInt8) (d : Bool) (hc : Lib.cut s.data.toList [47] = (T, B, d)) (hP : Lib.trimPrefix T [45] = P) (hlT : T.length ≤ 20) (hlP : P.length ≤ 20) (hlB : B.length ≤ 20)
    (Z : List UInt8) (hT : isDigits P = true) (hd : d = true) (hBd : isDigits B = true) (hZ : Lib.trimB B 48 = Z) (hZ0 : Z ≠ []) (hE3 : pErr T = 0) (hE4 : pErr B = 0) (hsT : SzI 4 (pVal T)) (hsB : SzI 4 (pVal B)) (hsm : SzI 1 (pVal T) ∨ SzI 1 (pVal B)) (hr1 : decide (cmpI (pVal B) 1 = 0) = false) (r2 : Bool) (hr2 : decide (cmpI (Nat.gcd (pVal T).natAbs (pVal B).natAbs : Nat) 1 ≠ 0) = r2) : Calls Tryz.prog 15 #[.string s, .int .i64 65536] w (fun e w' => Ext w w' ∧ ∃ v, e = .returned v ∧ ∃ γ N, VR γ N w' (cond r2 (.tup [(true, zeroAV), (false, .sc (.int .i64 3))]) (.tup [(true, .cons (.int (pVal T) 4) (.cons (.int (pVal B) 4) .nil)), (false, .sc (.int .i64 0))])) v) := by
  subst hd
  have c1 : (s.size : Int) ≤ 65536 := by omega
  have hB : Blk (w.alloc (Obj.cells z4 29)) w.heap.size 29 z4 := Blk.new _ _ _
  have hE : Ext w (w.alloc (Obj.cells z4 29)) := Ext.alloc _ _
  have hcut := cut_spec (w.alloc (Obj.cells z4 29)) s (by omega)
  rw [hc] at hcut
  have HPA := Lib.hid (fun w => parse_okT T hlT (by rw [hP]; exact hT) hE3 w)
  have HPB := Lib.hid (fun w => parse_okT B hlB (by rw [(no_sign (isDigits_spec hBd).2).2]; exact hBd) hE4 w)
  have HDT := Lib.hid (fun w => digitsL P hlP hT w)
  clear hT
  have HDB := Lib.hid (fun w => digitsL B hlB hBd w)
  clear hBd
  have HTR := Lib.hid (fun w => trim0 hZ hlB w)
  clear hZ
  have z1 : Z.isEmpty = false := by cases Z with | nil => exact absurd rfl hZ0 | cons => rfl
  have z2 : ¬ Z = [] := hZ0
  clear hZ0
  clear hE3 hE4
  have HB := Lib.hid hB
  have HE := Lib.hid hE
  have HC := Lib.hid hcut
  have HPR := Lib.hid (fun w => prefix_spec hP w)
  clear hB hE hcut hc hP
  go_enter Tryz.func15, Tryz.ntmps15
  go_wp2_with fail
  refine (HC.out).mono ?_
  rintro e w1 ⟨hx, rfl⟩
  replace HB := Lib.hid (HB.out.ext hx)
  replace HE := Lib.hid (Ext.trans HE.out hx)
  clear hx
  go_wp2_with fail
  refine (HPR.out _).mono ?_
  rintro e w2 ⟨rfl, rfl⟩
  go_wp2_with fail
  refine (HDT.out _).mono ?_
  rintro e w3 ⟨hx, rfl⟩
  replace HB := Lib.hid (HB.out.ext hx)
  replace HE := Lib.hid (Ext.trans HE.out hx)
  clear hx
  go_wp2_with fail
  refine (HDB.out _).mono ?_
  rintro e w4 ⟨hx, rfl⟩
  replace HB := Lib.hid (HB.out.ext hx)
  replace HE := Lib.hid (Ext.trans HE.out hx)
  clear hx
  go_wp2_with fail
  refine (HTR.out _).mono ?_
  rintro e w5 ⟨hx, rfl⟩
  replace HB := Lib.hid (HB.out.ext hx)
  replace HE := Lib.hid (Ext.trans HE.out hx)
  clear hx
  go_wp2_with fail
  refine (HPA.out _).mono ?_
  rintro e w6 ⟨hx, b, A, n, cap, rfl, hv⟩
  replace HB := Lib.hid (HB.out.ext hx)
  replace HE := Lib.hid (Ext.trans HE.out hx)
  have HV := Lib.hid hv
  have hlt := HB.out.lt
  have hlt6 := hlt
  clear hx hv
  go_wp2_with fail
  refine (HPB.out _).mono ?_
  rintro e w7 ⟨hx, b', A', n', cap', rfl, hv⟩
  have HN := Lib.hid ((Blk.new w6 27 #[.bool b, .slice A n cap]).ext hx)
  replace HV := Lib.hid ((HV.out.ext (Ext.alloc w6 (.cells #[.bool b, .slice A n cap] 27))).ext hx)
  replace HB := Lib.hid ((HB.out.ext (Ext.alloc w6 (.cells #[.bool b, .slice A n cap] 27))).ext hx)
  replace HE := Lib.hid (Ext.trans (Ext.trans HE.out (Ext.alloc w6 (.cells #[.bool b, .slice A n cap] 27))) hx)
  have HV2 := Lib.hid hv
  have hlt2 := HN.out.lt
  replace hlt := HB.out.lt
  clear hx hv
  go_wp2_with fail
  have B12 : Blk (w7.alloc (.cells #[.bool b', .slice A' n' cap'] 27)) w7.heap.size 27 ([.bool b', .slice A' n' cap'] : List Value).toArray := Blk.new _ _ _
  have h9 : SzI 9 (Nat.gcd (pVal T).natAbs (pVal B).natAbs : Nat) := by

    exact SzI.mono (szi_gcd hsT hsB) (by omega)
  have X12 : Ext w7 (w7.alloc (.cells #[.bool b', .slice A' n' cap'] 27)) := Ext.alloc _ _
  have B10 : Blk (w7.alloc (.cells #[.bool b', .slice A' n' cap'] 27)) w6.heap.size 27 ([.bool b, .slice A n cap] : List Value).toArray := HN.out.ext X12
  have V10 := HV.out.ext X12
  have V12 := HV2.out.ext X12
  refine wp_steps follows 16 rfl (by kernel_rfl) Ext.pre ?_
  refine Steps.move Ext.pre (Opd.out rfl rfl) ?_
  refine Steps.neqI Ext.pre (Opd.kn rfl rfl) Opd.const false rfl ?_
  refine Steps.move Ext.pre (Opd.kn rfl rfl) ?_
  refine Steps.guarded rfl rfl ?_
  refine load_int B12 V12 (Opd.out rfl rfl) ?_
  refine Steps.guarded rfl rfl ?_
  refine Steps.call hb_one (IntV.stb 1) (fun a' w' h1 h2 h3 => by rw [show (#[] : Array Operand).map a'.eval = #[] from by simp]; exact one_spec w') ?_
  refine Steps.guarded rfl rfl ?_
  refine Steps.call2 hb_icompare (IsI.stb (cmpI (pVal B) 1)) (Opd.kn rfl rfl) (Opd.kn rfl rfl) (fun w' u v hx hu hv => (icompare_spec w' u v _ _ 4 hu hv hsB (by unfold SzI; decide) (by decide)).mono fun e w'' ⟨h1, h2⟩ => ⟨_, h2, h1, rfl⟩) ?_
  refine Steps.guarded rfl rfl ?_
  refine Steps.eqlI Ext.pre (Opd.kn rfl rfl) Opd.const false hr1 ?_
  refine Steps.pick_false Ext.pre Stb.exact (Opd.kn rfl rfl) (Opd.kn rfl rfl) ?_
  refine Steps.move Ext.pre (Opd.kn rfl rfl) ?_
  refine Steps.guarded rfl rfl ?_
  refine load_int B10 V10 (Opd.out rfl rfl) ?_
  refine Steps.guarded rfl rfl ?_
  refine load_int B12 V12 (Opd.out rfl rfl) ?_
  refine Steps.guarded rfl rfl ?_
  refine Steps.call2 hb_gcd (IntV.stb (Nat.gcd (pVal T).natAbs (pVal B).natAbs : Nat)) (Opd.kn rfl rfl) (Opd.kn rfl rfl) (fun w' u v hx hu hv => gcd_small w' u v _ _ 4 hu hv hsT hsB (by decide) hsm) ?_
  refine Steps.guarded rfl rfl ?_
  refine Steps.call hb_one (IntV.stb 1) (fun a' w' h1 h2 h3 => by rw [show (#[] : Array Operand).map a'.eval = #[] from by simp]; exact one_spec w') ?_
  refine Steps.guarded rfl rfl ?_
  refine Steps.call2 hb_icompare (IsI.stb (cmpI (Nat.gcd (pVal T).natAbs (pVal B).natAbs : Nat) 1)) (Opd.kn rfl rfl) (Opd.kn rfl rfl) (fun w' u v hx hu hv => (icompare_spec w' u v _ _ 9 hu hv h9 (show SzI 9 1 from by unfold SzI B32; decide) (show 9 ≤ 549755813888 from by decide)).mono fun e w'' ⟨h1, h2⟩ => ⟨_, h2, h1, rfl⟩) ?_
  refine Steps.guarded rfl rfl ?_
  refine Steps.neqI Ext.pre (Opd.kn rfl rfl) Opd.const r2 hr2 ?_
  refine Steps.pick_false Ext.pre Stb.exact (Opd.kn rfl rfl) (Opd.kn rfl rfl) ?_
  intro a' w' ho hx hk
  obtain ⟨v, hv, rfl⟩ := hk.get 15 rfl
  refine wpList_nil ?_
  simp only [Exit.then]
  have hF4 : a'.tmps[4]? = some (.pointer (some ⟨w.heap.size, 0, none⟩)) := (ho.slot 4 (by decide)).trans rfl
  have hF10 : a'.tmps[10]? = some (.pointer (some ⟨w6.heap.size, 0, none⟩)) := (ho.slot 10 (by decide)).trans rfl
  have hF12 : a'.tmps[12]? = some (.pointer (some ⟨w7.heap.size, 0, none⟩)) := (ho.slot 12 (by decide)).trans rfl
  have hsz' : a'.tmps.size = 85 := ho.size
  have hdf : a'.defers = [] := ho.defers
  have Bg := (HB.out.ext X12).ext hx
  have Bt := B10.ext hx
  have Bb := B12.ext hx
  have Vt := V10.ext hx
  have Vb := V12.ext hx
  have hEx : Ext w w' := Ext.trans (Ext.trans HE.out X12) hx
  clear ho hk B10 B12 V10 V12 HN HV HB HV2 HE X12 hx

  cases r2 with
  | true =>
    apply_assumption
    refine tail_run (r := true) (s := .tup [(true, zeroAV), (false, .sc (.int .i64 3))]) (F := Tryz.f15) (by kernel_rfl) rfl hsz' hdf hF4 hF10 hF12 hv Bg Bt Bb Vt Vb hsT hsB (by omega) (by omega) (Nat.le_refl _) hEx ?_
    rintro a1 w1 v k1 k2 k3 ⟨γ, N, k4⟩
    exact ⟨k1, v, k3, k2, v, rfl, γ, N, k4⟩
  | false =>
    apply_assumption
    refine wp_cond_false (eval_tmp hv) (wp_skip ?_)
    show Exit.then _ _ .normal _ _
    simp only [Exit.then]
    apply_assumption
    refine tail_run (r := false) (s := .tup [(true, .cons (.int (pVal T) 4) (.cons (.int (pVal B) 4) .nil)), (false, .sc (.int .i64 0))]) (F := Tryz.f15) (by kernel_rfl) rfl hsz' hdf hF4 hF10 hF12 hv Bg Bt Bb Vt Vb hsT hsB (by omega) (by omega) (Nat.le_refl _) hEx ?_
    rintro a1 w1 v k1 k2 k3 ⟨γ, N, k4⟩
    exact ⟨k1, v, k3, k2, v, rfl, γ, N, k4⟩
set_option maxRecDepth 100000 in
set_option maxHeartbeats 1600000 in
theorem read_fracOne [Rho] (w : World) (s : ByteArray) (hs : s.size ≤ 20) (T B P : List UInt8) (d : Bool) (hc : Lib.cut s.data.toList [47] = (T, B, d)) (hP : Lib.trimPrefix T [45] = P) (hlT : T.length ≤ 20) (hlP : P.length ≤ 20) (hlB : B.length ≤ 20)
    (Z : List UInt8) (hT : isDigits P = true) (hd : d = true) (hBd : isDigits B = true) (hZ : Lib.trimB B 48 = Z) (hZ0 : Z ≠ []) (hE3 : pErr T = 0) (hE4 : pErr B = 0) (hsT : SzI 4 (pVal T)) (hsB : SzI 4 (pVal B)) (hr1 : decide (cmpI (pVal B) 1 = 0) = true) : Calls Tryz.prog 15 #[.string s, .int .i64 65536] w (fun e w' => Ext w w' ∧ ∃ v, e = .returned v ∧ ∃ γ N, VR γ N w' (.tup [(true, zeroAV), (false, .sc (.int .i64 3))]) v) := by
  subst hd
  have c1 : (s.size : Int) ≤ 65536 := by omega
  have hB : Blk (w.alloc (Obj.cells z4 29)) w.heap.size 29 z4 := Blk.new _ _ _
  have hE : Ext w (w.alloc (Obj.cells z4 29)) := Ext.alloc _ _
  have hcut := cut_spec (w.alloc (Obj.cells z4 29)) s (by omega)
  rw [hc] at hcut
  have HPA := Lib.hid (fun w => parse_okT T hlT (by rw [hP]; exact hT) hE3 w)
  have HPB := Lib.hid (fun w => parse_okT B hlB (by rw [(no_sign (isDigits_spec hBd).2).2]; exact hBd) hE4 w)
  have HDT := Lib.hid (fun w => digitsL P hlP hT w)
  clear hT
  have HDB := Lib.hid (fun w => digitsL B hlB hBd w)
  clear hBd
  have HTR := Lib.hid (fun w => trim0 hZ hlB w)
  clear hZ
  have z1 : Z.isEmpty = false := by cases Z with | nil => exact absurd rfl hZ0 | cons => rfl
  have z2 : ¬ Z = [] := hZ0
  clear hZ0
  clear hE3 hE4
  have HB := Lib.hid hB
  have HE := Lib.hid hE
  have HC := Lib.hid hcut
  have HPR := Lib.hid (fun w => prefix_spec hP w)
  clear hB hE hcut hc hP
  go_enter Tryz.func15, Tryz.ntmps15
  go_wp2_with fail
  refine (HC.out).mono ?_
  rintro e w1 ⟨hx, rfl⟩
  replace HB := Lib.hid (HB.out.ext hx)
  replace HE := Lib.hid (Ext.trans HE.out hx)
  clear hx
  go_wp2_with fail
  refine (HPR.out _).mono ?_
  rintro e w2 ⟨rfl, rfl⟩
  go_wp2_with fail
  refine (HDT.out _).mono ?_
  rintro e w3 ⟨hx, rfl⟩
  replace HB := Lib.hid (HB.out.ext hx)
  replace HE := Lib.hid (Ext.trans HE.out hx)
  clear hx
  go_wp2_with fail
  refine (HDB.out _).mono ?_
  rintro e w4 ⟨hx, rfl⟩
  replace HB := Lib.hid (HB.out.ext hx)
  replace HE := Lib.hid (Ext.trans HE.out hx)
  clear hx
  go_wp2_with fail
  refine (HTR.out _).mono ?_
  rintro e w5 ⟨hx, rfl⟩
  replace HB := Lib.hid (HB.out.ext hx)
  replace HE := Lib.hid (Ext.trans HE.out hx)
  clear hx
  go_wp2_with fail
  refine (HPA.out _).mono ?_
  rintro e w6 ⟨hx, b, A, n, cap, rfl, hv⟩
  replace HB := Lib.hid (HB.out.ext hx)
  replace HE := Lib.hid (Ext.trans HE.out hx)
  have HV := Lib.hid hv
  have hlt := HB.out.lt
  have hlt6 := hlt
  clear hx hv
  go_wp2_with fail
  refine (HPB.out _).mono ?_
  rintro e w7 ⟨hx, b', A', n', cap', rfl, hv⟩
  have HN := Lib.hid ((Blk.new w6 27 #[.bool b, .slice A n cap]).ext hx)
  replace HV := Lib.hid ((HV.out.ext (Ext.alloc w6 (.cells #[.bool b, .slice A n cap] 27))).ext hx)
  replace HB := Lib.hid ((HB.out.ext (Ext.alloc w6 (.cells #[.bool b, .slice A n cap] 27))).ext hx)
  replace HE := Lib.hid (Ext.trans (Ext.trans HE.out (Ext.alloc w6 (.cells #[.bool b, .slice A n cap] 27))) hx)
  have HV2 := Lib.hid hv
  have hlt2 := HN.out.lt
  replace hlt := HB.out.lt
  clear hx hv
  go_wp2_with fail
  have B12 : Blk (w7.alloc (.cells #[.bool b', .slice A' n' cap'] 27)) w7.heap.size 27 ([.bool b', .slice A' n' cap'] : List Value).toArray := Blk.new _ _ _

  have X12 : Ext w7 (w7.alloc (.cells #[.bool b', .slice A' n' cap'] 27)) := Ext.alloc _ _
  have B10 : Blk (w7.alloc (.cells #[.bool b', .slice A' n' cap'] 27)) w6.heap.size 27 ([.bool b, .slice A n cap] : List Value).toArray := HN.out.ext X12
  have V10 := HV.out.ext X12
  have V12 := HV2.out.ext X12
  refine wp_steps follows 16 rfl (by kernel_rfl) Ext.pre ?_
  refine Steps.move Ext.pre (Opd.out rfl rfl) ?_
  refine Steps.neqI Ext.pre (Opd.kn rfl rfl) Opd.const false rfl ?_
  refine Steps.move Ext.pre (Opd.kn rfl rfl) ?_
  refine Steps.guarded rfl rfl ?_
  refine load_int B12 V12 (Opd.out rfl rfl) ?_
  refine Steps.guarded rfl rfl ?_
  refine Steps.call hb_one (IntV.stb 1) (fun a' w' h1 h2 h3 => by rw [show (#[] : Array Operand).map a'.eval = #[] from by simp]; exact one_spec w') ?_
  refine Steps.guarded rfl rfl ?_
  refine Steps.call2 hb_icompare (IsI.stb (cmpI (pVal B) 1)) (Opd.kn rfl rfl) (Opd.kn rfl rfl) (fun w' u v hx hu hv => (icompare_spec w' u v _ _ 4 hu hv hsB (by unfold SzI; decide) (by decide)).mono fun e w'' ⟨h1, h2⟩ => ⟨_, h2, h1, rfl⟩) ?_
  refine Steps.guarded rfl rfl ?_
  refine Steps.eqlI Ext.pre (Opd.kn rfl rfl) Opd.const true hr1 ?_
  refine Steps.pick_false Ext.pre Stb.exact (Opd.kn rfl rfl) (Opd.kn rfl rfl) ?_
  refine Steps.move Ext.pre (Opd.kn rfl rfl) ?_
  refine Steps.skipped rfl rfl ?_
  refine Steps.skipped rfl rfl ?_
  refine Steps.skipped rfl rfl ?_
  refine Steps.skipped rfl rfl ?_
  refine Steps.skipped rfl rfl ?_
  refine Steps.skipped rfl rfl ?_
  refine Steps.pick_true (R := fun u _ => u = .bool true) Ext.pre Stb.exact (Opd.kn rfl rfl) Opd.const ?_
  intro a' w' ho hx hk
  obtain ⟨v, hv, rfl⟩ := hk.get 15 rfl
  refine wpList_nil ?_
  simp only [Exit.then]
  have hF4 : a'.tmps[4]? = some (.pointer (some ⟨w.heap.size, 0, none⟩)) := (ho.slot 4 (by decide)).trans rfl
  have hF10 : a'.tmps[10]? = some (.pointer (some ⟨w6.heap.size, 0, none⟩)) := (ho.slot 10 (by decide)).trans rfl
  have hF12 : a'.tmps[12]? = some (.pointer (some ⟨w7.heap.size, 0, none⟩)) := (ho.slot 12 (by decide)).trans rfl
  have hsz' : a'.tmps.size = 85 := ho.size
  have hdf : a'.defers = [] := ho.defers
  have Bg := (HB.out.ext X12).ext hx
  have Bt := B10.ext hx
  have Bb := B12.ext hx
  have Vt := V10.ext hx
  have Vb := V12.ext hx
  have hEx : Ext w w' := Ext.trans (Ext.trans HE.out X12) hx
  clear ho hk B10 B12 V10 V12 HN HV HB HV2 HE X12 hx

  apply_assumption
  refine tail_run (r := true) (s := .tup [(true, zeroAV), (false, .sc (.int .i64 3))]) (F := Tryz.f15) (by kernel_rfl) rfl hsz' hdf hF4 hF10 hF12 hv Bg Bt Bb Vt Vb hsT hsB (by omega) (by omega) (Nat.le_refl _) hEx ?_
  rintro a1 w1 v k1 k2 k3 ⟨γ, N, k4⟩
  exact ⟨k1, v, k3, k2, v, rfl, γ, N, k4⟩
set_option maxRecDepth 100000 in
set_option maxHeartbeats 1600000 in
theorem read_fracErrB [Rho] (w : World) (s : ByteArray) (hs : s.size ≤ 20) (T B P : List UInt8) (d : Bool) (hc : Lib.cut s.data.toList [47] = (T, B, d)) (hP : Lib.trimPrefix T [45] = P) (hlT : T.length ≤ 20) (hlP : P.length ≤ 20) (hlB : B.length ≤ 20)
    (Z : List UInt8) (hT : isDigits P = true) (hd : d = true) (hBd : isDigits B = true) (hZ : Lib.trimB B 48 = Z) (hZ0 : Z ≠ []) (hE3 : pErr T = 0) (hE4 : pErr B = 3) (hsT : SzI 4 (pVal T)) : Calls Tryz.prog 15 #[.string s, .int .i64 65536] w (fun e w' => Ext w w' ∧ ∃ v, e = .returned v ∧ ∃ γ N, VR γ N w' (.tup [(true, zeroAV), (false, .sc (.int .i64 3))]) v) := by
  subst hd
  have c1 : (s.size : Int) ≤ 65536 := by omega
  have hB : Blk (w.alloc (Obj.cells z4 29)) w.heap.size 29 z4 := Blk.new _ _ _
  have hE : Ext w (w.alloc (Obj.cells z4 29)) := Ext.alloc _ _
  have hcut := cut_spec (w.alloc (Obj.cells z4 29)) s (by omega)
  rw [hc] at hcut
  have HPA := Lib.hid (fun w => parse_okT T hlT (by rw [hP]; exact hT) hE3 w)
  have HPB := Lib.hid (fun w => parse_errT B hlB (by rw [(no_sign (isDigits_spec hBd).2).2]; exact hBd) hE4 w)
  have HDT := Lib.hid (fun w => digitsL P hlP hT w)
  clear hT
  have HDB := Lib.hid (fun w => digitsL B hlB hBd w)
  clear hBd
  have HTR := Lib.hid (fun w => trim0 hZ hlB w)
  clear hZ
  have z1 : Z.isEmpty = false := by cases Z with | nil => exact absurd rfl hZ0 | cons => rfl
  have z2 : ¬ Z = [] := hZ0
  clear hZ0
  clear hE3 hE4
  have HB := Lib.hid hB
  have HE := Lib.hid hE
  have HC := Lib.hid hcut
  have HPR := Lib.hid (fun w => prefix_spec hP w)
  clear hB hE hcut hc hP
  go_enter Tryz.func15, Tryz.ntmps15
  go_wp2_with fail
  refine (HC.out).mono ?_
  rintro e w1 ⟨hx, rfl⟩
  replace HB := Lib.hid (HB.out.ext hx)
  replace HE := Lib.hid (Ext.trans HE.out hx)
  clear hx
  go_wp2_with fail
  refine (HPR.out _).mono ?_
  rintro e w2 ⟨rfl, rfl⟩
  go_wp2_with fail
  refine (HDT.out _).mono ?_
  rintro e w3 ⟨hx, rfl⟩
  replace HB := Lib.hid (HB.out.ext hx)
  replace HE := Lib.hid (Ext.trans HE.out hx)
  clear hx
  go_wp2_with fail
  refine (HDB.out _).mono ?_
  rintro e w4 ⟨hx, rfl⟩
  replace HB := Lib.hid (HB.out.ext hx)
  replace HE := Lib.hid (Ext.trans HE.out hx)
  clear hx
  go_wp2_with fail
  refine (HTR.out _).mono ?_
  rintro e w5 ⟨hx, rfl⟩
  replace HB := Lib.hid (HB.out.ext hx)
  replace HE := Lib.hid (Ext.trans HE.out hx)
  clear hx
  go_wp2_with fail
  refine (HPA.out _).mono ?_
  rintro e w6 ⟨hx, b, A, n, cap, rfl, hv⟩
  replace HB := Lib.hid (HB.out.ext hx)
  replace HE := Lib.hid (Ext.trans HE.out hx)
  have HV := Lib.hid hv
  have hlt := HB.out.lt
  have hlt6 := hlt
  clear hx hv
  go_wp2_with fail
  refine (HPB.out _).mono ?_
  rintro e w7 ⟨hx, rfl⟩
  have HN := Lib.hid ((Blk.new w6 27 #[.bool b, .slice A n cap]).ext hx)
  replace HV := Lib.hid ((HV.out.ext (Ext.alloc w6 (.cells #[.bool b, .slice A n cap] 27))).ext hx)
  replace HB := Lib.hid ((HB.out.ext (Ext.alloc w6 (.cells #[.bool b, .slice A n cap] 27))).ext hx)
  replace HE := Lib.hid (Ext.trans (Ext.trans HE.out (Ext.alloc w6 (.cells #[.bool b, .slice A n cap] 27))) hx)
  have hlt2 := HN.out.lt
  replace hlt := HB.out.lt
  clear hx
  go_wp2_with fail
  have B12 : Blk (w7.alloc (.cells #[.bool false, .slice none 0 0] 27)) w7.heap.size 27 ([.bool false, .slice none 0 0] : List Value).toArray := Blk.new _ _ _

  have X12 : Ext w7 (w7.alloc (.cells #[.bool false, .slice none 0 0] 27)) := Ext.alloc _ _
  have B10 : Blk (w7.alloc (.cells #[.bool false, .slice none 0 0] 27)) w6.heap.size 27 ([.bool b, .slice A n cap] : List Value).toArray := HN.out.ext X12
  have V10 := HV.out.ext X12
  have sz0 : SzI 4 0 := by unfold SzI B32; decide
  have V12 := (IntC.zero w7).ext X12
  refine wp_steps follows 16 rfl (by kernel_rfl) Ext.pre ?_
  refine Steps.move Ext.pre (Opd.out rfl rfl) ?_
  refine Steps.neqI Ext.pre (Opd.kn rfl rfl) Opd.const true rfl ?_
  refine Steps.move Ext.pre (Opd.kn rfl rfl) ?_
  refine Steps.skipped rfl rfl ?_
  refine Steps.skipped rfl rfl ?_
  refine Steps.skipped rfl rfl ?_
  refine Steps.skipped rfl rfl ?_
  refine Steps.pick_true (R := fun u _ => u = .bool true) Ext.pre Stb.exact (Opd.kn rfl rfl) Opd.const ?_
  refine Steps.move Ext.pre (Opd.kn rfl rfl) ?_
  refine Steps.skipped rfl rfl ?_
  refine Steps.skipped rfl rfl ?_
  refine Steps.skipped rfl rfl ?_
  refine Steps.skipped rfl rfl ?_
  refine Steps.skipped rfl rfl ?_
  refine Steps.skipped rfl rfl ?_
  refine Steps.pick_true (R := fun u _ => u = .bool true) Ext.pre Stb.exact (Opd.kn rfl rfl) Opd.const ?_
  intro a' w' ho hx hk
  obtain ⟨v, hv, rfl⟩ := hk.get 15 rfl
  refine wpList_nil ?_
  simp only [Exit.then]
  have hF4 : a'.tmps[4]? = some (.pointer (some ⟨w.heap.size, 0, none⟩)) := (ho.slot 4 (by decide)).trans rfl
  have hF10 : a'.tmps[10]? = some (.pointer (some ⟨w6.heap.size, 0, none⟩)) := (ho.slot 10 (by decide)).trans rfl
  have hF12 : a'.tmps[12]? = some (.pointer (some ⟨w7.heap.size, 0, none⟩)) := (ho.slot 12 (by decide)).trans rfl
  have hsz' : a'.tmps.size = 85 := ho.size
  have hdf : a'.defers = [] := ho.defers
  have Bg := (HB.out.ext X12).ext hx
  have Bt := B10.ext hx
  have Bb := B12.ext hx
  have Vt := V10.ext hx
  have Vb := V12.ext hx
  have hEx : Ext w w' := Ext.trans (Ext.trans HE.out X12) hx
  clear ho hk B10 B12 V10 V12 HN HV HB HE X12 hx

  apply_assumption
  refine tail_run (r := true) (s := .tup [(true, zeroAV), (false, .sc (.int .i64 3))]) (F := Tryz.f15) (by kernel_rfl) rfl hsz' hdf hF4 hF10 hF12 hv Bg Bt Bb Vt Vb hsT sz0 (by omega) (by omega) (Nat.le_refl _) hEx ?_
  rintro a1 w1 v k1 k2 k3 ⟨γ, N, k4⟩
  exact ⟨k1, v, k3, k2, v, rfl, γ, N, k4⟩
end Go.Proofs.YteaggpgdfiodfaaGreatDoor
