/-
  The evaluator: code. Conditions: none. The evaluator: what a function gives back, calls. Conditions: oracles that are sound. The evaluator, staged: what depends on the program's text alone is made once; written by recursors. Equal to what it stages. Conditions: none. The evaluator, staged: regions, code, functions. Conditions: none. The evaluator: functions and calls. Conditions: oracles that are sound. The evaluator, staged: functions and calls. Conditions: oracles that are sound.
-/
import Derived.Test.YteaggpgdfiodfaaGreatDoorEx
namespace Go.Proofs.YteaggpgdfiodfaaGreatDoor
set_option linter.all false
open Go.RowKit

section
variable [Rho]

inductive Ex where
  | normal
  | exit (id : Nat)
  | ret
def Ex.real : Ex → Exit
  | .normal => .normal
  | .exit id => .exit id
  | .ret => .ret
abbrev Call := Nat → List SV → AH → Option (SV × AH)
abbrev Res := Ex × AEnv × AH

def regM (ops : Array Oper) (n : Nat) : Option Nat := req (regOk2 ops (tailFrom (masksL ops.toList []) ops.size) n) (some (tailFrom (masksL ops.toList []) ops.size))
theorem regM_ok {ops : Array Oper} {n m : Nat} (h : regM ops n = some m) : regOk2 ops m n = true := by
  obtain ⟨h1, h2⟩ := req_some h
  cases h2; exact h1
def evVer (P : Program) (callF callT : Call) (f n : Nat) (ops : Array Oper) (m : Nat) (env : AEnv) (H : AH) : Option (AEnv × AH) :=
  (cond ((ops.toList.take m).any fun o => isNew o.op) ((verRun P callF callT f ops (del (dstsOf (ops.toList.take m)) env) true (ops.toList.take m) [] [] [] [] [] H.n H).bind fun (_, _, _, ns, _) => some ns) (some [])).bind fun ns =>
  (verRun P callF callT f ops (del (dstsOf (ops.toList.take m)) env) false (ops.toList.take m) [] [] [] [] [] H.n (pushAll H ns)).bind fun (recs, ss, vs, _, nb) => req (verOk P callF callT f n m ops env H recs ss vs ns nb) ((vs[ss.length]?).bind fun Hl =>
    evList P callT f n ops (ops.toList.drop m) (recEnv recs (del (rdsts recs) env) (List.range m)) Hl)
def evRegion (P : Program) (callF callT : Call) (f n : Nat) (ops : Array Oper) (draw : Bool) (env : AEnv) (H : AH) : Option (AEnv × AH) :=
  match draw with
  | false => evList P callT f n ops ops.toList env H
  | true => match regM ops n with
    | some m => (evFree P callF ops H (ops.toList.take m) (del (dstsOf (ops.toList.take m)) env) H.n).bind fun recs =>
      evList P callT f n ops (ops.toList.drop m) (fin recs (del (dstsOf (ops.toList.take m)) env) H).1 (fin recs (del (dstsOf (ops.toList.take m)) env) H).2
    | none => evVer P callF callT f n ops (tailFrom (masksL ops.toList []) ops.size) env H
def loopN (body : AEnv → AH → Option Res) : Nat → AEnv → AH → Option Res
  | 0, _, _ => none
  | k + 1, env, H => (body env H).bind fun r => match r with
    | (.normal, e, H1) => loopN body k (dd e 0) H1
    | r => some r
def evCode (P : Program) (callF callT : Call) (f n fuel : Nat) : Code → AEnv → AH → Option Res
  | .skip, env, H => some (.normal, env, H)
  | .region _ ops draw, env, H => (evRegion P callF callT f n ops draw env H).bind fun (e, H1) => some (.normal, e, H1)
  | .seq a b, env, H => (evCode P callF callT f n fuel a env H).bind fun r => match r with
    | (.normal, e, H1) => evCode P callF callT f n fuel b e H1
    | r => some r
  | .cond c t e, env, H => (opv env c).bind fun s => match s.exact with
    | some (.bool true) => evCode P callF callT f n fuel t env H
    | some (.bool false) => evCode P callF callT f n fuel e env H
    | _ => none
  | .block id c, env, H => (evCode P callF callT f n fuel c env H).bind fun r => match r with
    | (.exit id', e, H1) => cond (Nat.beq id' id) (some (.normal, e, H1)) (some (.exit id', e, H1))
    | r => some r
  | .loop c, env, H => loopN (evCode P callF callT f n fuel c) fuel env H
  | .exit id, env, H => some (.exit id, env, H)
  | .ret, env, H => some (.ret, env, H)
  | _, _, _ => none

theorem wp_loop_n {P : Program} {Q : Exit → Act → World → Prop} {c : Code} (I : Nat → Act → World → Prop) (round : ∀ k a w, I k a w → c.wp P (Exit.then (fun a' w' => ∃ j, j < k ∧ I j a' w') Q) a w) :
    ∀ {k : Nat} {a : Act} {w : World}, I k a w → (Code.loop c).wp P Q a w := by
  intro k a w h0 b kk cs
  have key : ∀ n a w, I n a w → ∃ e a' w', Q e a' w' ∧ Arrives P (lone (b.at a (.code c :: .inLoop c :: kk)) cs w) b kk cs e a' w' := by
    intro n
    induction n using Nat.strongRecOn with
    | _ n ih =>
      intro a w hI
      obtain ⟨e, a₁, w₁, hq, harr⟩ := round n a w hI b (.inLoop c :: kk) cs
      cases e with
      | normal =>
        obtain ⟨j, hlt, hI₁⟩ := hq
        obtain ⟨e₂, a₂, w₂, hq₂, harr₂⟩ := ih j hlt a₁ w₁ hI₁
        exact ⟨e₂, a₂, w₂, hq₂, .of_steps (Steps.trans harr (.one step_inLoop)) harr₂⟩
      | exit id => exact ⟨_, a₁, w₁, hq, .pass (x := .inLoop c) rfl (fun _ _ => .inl (by simp)) harr⟩
      | goto l => exact ⟨_, a₁, w₁, hq, .pass (x := .inLoop c) rfl (fun _ _ => .inl (by simp)) harr⟩
      | ret => exact ⟨_, a₁, w₁, hq, .pass (x := .inLoop c) rfl (fun _ _ => .inl (by simp)) harr⟩
      | panic ch => exact ⟨_, a₁, w₁, hq, .pass (x := .inLoop c) rfl (fun _ _ => .inl (by simp)) harr⟩
      | outgrown => exact ⟨_, a₁, w₁, hq, .pass (x := .inLoop c) rfl (fun _ _ => .inl (by simp)) harr⟩
  obtain ⟨e, a', w', hq, harr⟩ := key k a w h0
  exact ⟨e, a', w', hq, .of_steps (.one step_loop) harr⟩

/-- where a piece of code ends -/
def EPost (n : Nat) (N0 : Nat → Prop) (f : Nat) (H : AH) (γ : Nat → Option Nat) (w : World) (r : Res) : Exit → Act → World → Prop := fun e a' w' =>
  e = r.1.real ∧ ∃ γ', FrR n r.2.1 γ' (Nn N0 γ') w' a' ∧ St γ' N0 r.2.2 w' ∧ Step f H γ w r.2.2 γ' w'
section
variable {P : Program} {f n : Nat} {N0 : Nat → Prop} {callF callT : Call}
theorem EPost.trans {H H1 : AH} {γ γ1 : Nat → Option Nat} {w w1 : World} {r : Res} (hγ : ∀ b g, γ b = some g → b < H.n) (hs : Step f H γ w H1 γ1 w1) {e : Exit} {a : Act} {w' : World} (h : EPost n N0 f H1 γ1 w1 r e a w') : EPost n N0 f H γ w r e a w' := by
  obtain ⟨h1, γ', h2, h3, h4⟩ := h
  exact ⟨h1, γ', h2, h3, hs.trans hγ h4⟩
theorem evRegion_ok (hP : P = Tryz.prog) (hF : ∀ f, CallOk P f callF) (hT : CallOk P f callT) {id : Nat} {ops : Array Oper} {draw : Bool} {env env' : AEnv} {H H' : AH} {γ : Nat → Option Nat} {a : Act} {w : World}
    (h : evRegion P callF callT f n ops draw env H = some (env', H')) (hf : f ≤ H.n) (hR : FrR n env γ (Nn N0 γ) w a) (hS : St γ N0 H w) : (Code.region id ops draw).wp P (EPost n N0 f H γ w (.normal, env', H')) a w := by
  cases draw with
  | false =>
    refine wp_region_list ?_
    exact evList_ok hP hT _ _ _ _ _ _ _ _ h hf hR hS (fun γ' a' w' h1 h2 h3 => ⟨rfl, γ', h1, h2, h3⟩)
  | true =>
    simp only [evRegion] at h
    split at h
    · rename_i m h1
      obtain ⟨recs, h2, h⟩ := bnd_some h
      refine region_ok hP (hF _) (regM_ok h1) h2 hR hS ?_
      intro γ1 a1 w1 k1 k2 k3
      refine evList_ok hP hT _ _ _ _ _ _ _ _ h (Nat.le_trans hf k3.n) k1 k2 (fun γ' a' w' h4 h5 h6 => ⟨rfl, γ', h4, h5, (k3.mono hf).trans hS.lt h6⟩)
    · obtain ⟨ns, _, h⟩ := bnd_some h
      obtain ⟨⟨recs, ss, vs, _, nb⟩, _, h⟩ := bnd_some h
      obtain ⟨h3, h⟩ := req_some h
      obtain ⟨Hl, h4, h⟩ := bnd_some h
      refine verRegion_ok hP hF hT hf h3 h4 hR hS ?_
      intro γ1 a1 w1 k1 k2 k3
      refine evList_ok hP hT _ _ _ _ _ _ _ _ h (Nat.le_trans hf k3.n) k1 k2 (fun γ' a' w' h4 h5 h6 => ⟨rfl, γ', h4, h5, k3.trans hS.lt h6⟩)

theorem evCode_ok (hP : P = Tryz.prog) (hF : ∀ f, CallOk P f callF) (hT : CallOk P f callT) {fuel : Nat} : ∀ (c : Code) (env : AEnv) (H : AH) (r : Res), evCode P callF callT f n fuel c env H = some r → f ≤ H.n →
    ∀ (γ : Nat → Option Nat) (a : Act) (w : World), FrR n env γ (Nn N0 γ) w a → St γ N0 H w → c.wp P (EPost n N0 f H γ w r) a w := by
  intro c
  induction c with
  | skip =>
    intro env H r h hf γ a w hR hS
    simp only [evCode] at h
    cases h
    exact wp_skip ⟨rfl, γ, hR, hS, .refl hS.lt⟩
  | region id ops draw =>
    intro env H r h hf γ a w hR hS
    simp only [evCode] at h
    obtain ⟨⟨e, H1⟩, h1, h⟩ := bnd_some h
    cases h
    exact evRegion_ok hP hF hT h1 hf hR hS
  | seq x y ihx ihy =>
    intro env H r h hf γ a w hR hS
    simp only [evCode] at h
    obtain ⟨⟨ex, e, H1⟩, h1, h⟩ := bnd_some h
    refine wp_seq (wp_mono (ihx env H _ h1 hf γ a w hR hS) ?_)
    rintro e' a' w' ⟨rfl, γ', h2, h3, h4⟩
    cases ex with
    | normal =>
      show y.wp _ _ _ _
      exact wp_mono (ihy e H1 r h (Nat.le_trans hf h4.n) γ' a' w' h2 h3) (fun _ _ _ hp => hp.trans hS.lt h4)
    | exit id => cases h; exact ⟨rfl, γ', h2, h3, h4⟩
    | ret => cases h; exact ⟨rfl, γ', h2, h3, h4⟩
  | cond c x y ihx ihy =>
    intro env H r h hf γ a w hR hS
    simp only [evCode] at h
    obtain ⟨s, h1, h⟩ := bnd_some h
    have hv := hR.eval h1
    split at h
    · rename_i hb
      exact wp_cond_true (exact_spec hb hv) (ihx env H r h hf γ a w hR hS)
    · rename_i hb
      exact wp_cond_false (exact_spec hb hv) (ihy env H r h hf γ a w hR hS)
    · cases h
  | block id c ih =>
    intro env H r h hf γ a w hR hS
    simp only [evCode] at h
    obtain ⟨⟨ex, e, H1⟩, h1, h⟩ := bnd_some h
    refine wp_block (wp_mono (ih env H _ h1 hf γ a w hR hS) ?_)
    rintro e' a' w' ⟨rfl, γ', h2, h3, h4⟩
    cases ex with
    | normal => cases h; exact ⟨rfl, γ', h2, h3, h4⟩
    | ret => cases h; exact ⟨rfl, γ', h2, h3, h4⟩
    | exit id' =>
      simp only at h
      cases hb : Nat.beq id' id with
      | true =>
        rw [hb] at h
        cases h
        have he := Nat.eq_of_beq_eq_true hb
        show Exit.inBlock id _ (.exit id') a' w'
        simp only [Exit.inBlock, he, if_true]
        exact ⟨rfl, γ', h2, h3, h4⟩
      | false =>
        rw [hb] at h
        cases h
        have he := Nat.ne_of_beq_eq_false hb
        show Exit.inBlock id _ (.exit id') a' w'
        simp only [Exit.inBlock, he, if_false]
        exact ⟨rfl, γ', h2, h3, h4⟩
  | loop c ih =>
    intro env H r h hf γ a w hR hS
    simp only [evCode] at h
    refine wp_loop_n (fun k a' w' => ∃ env1 H1 γ1, loopN (evCode P callF callT f n fuel c) k env1 H1 = some r ∧ FrR n env1 γ1 (Nn N0 γ1) w' a' ∧ St γ1 N0 H1 w' ∧ Step f H γ w H1 γ1 w') ?_ (k := fuel) ⟨env, H, γ, h, hR, hS, .refl hS.lt⟩
    rintro k a1 w1 ⟨env1, H1, γ1, h1, h2, h3, h4⟩
    cases k with
    | zero => cases h1
    | succ k =>
      simp only [loopN] at h1
      obtain ⟨⟨ex, e, H2⟩, h5, h1⟩ := bnd_some h1
      refine wp_mono (ih env1 H1 _ h5 (Nat.le_trans hf h4.n) γ1 a1 w1 h2 h3) ?_
      rintro e' a' w' ⟨rfl, γ', h6, h7, h8⟩
      cases ex with
      | normal => exact ⟨k, Nat.lt_succ_self k, _, H2, γ', h1, h6.sub (fun t s ht => (lk_dd ht).2), h7, h4.trans hS.lt h8⟩
      | exit id => cases h1; exact ⟨rfl, γ', h6, h7, h4.trans hS.lt h8⟩
      | ret => cases h1; exact ⟨rfl, γ', h6, h7, h4.trans hS.lt h8⟩
  | exit id =>
    intro env H r h hf γ a w hR hS
    simp only [evCode] at h
    cases h
    exact wp_exit ⟨rfl, γ, hR, hS, .refl hS.lt⟩
  | ret =>
    intro env H r h hf γ a w hR hS
    simp only [evCode] at h
    cases h
    exact wp_ret ⟨rfl, γ, hR, hS, .refl hS.lt⟩
  | _ =>
    intro env H r h
    simp only [evCode] at h
    cases h
end
end

section
variable [Rho]

/-- what blocks from base on hold is written no more -/
def frz (H : AH) (base : Nat) : Nat → AV → Option AV
  | 0, _ => none
  | k + 1, .cons a r => (frz H base k a).bind fun a' => (frz H base k r).bind fun r' => some (.cons a' r')
  | k + 1, .sl es n => (frz H base k es).bind fun e => some (.sl e n)
  | k + 1, .fp es => (frz H base k es).bind fun e => some (.fp e)
  | k + 1, .fn f c => (frz H base k c).bind fun e => some (.fn f e)
  | k + 1, .osl gr b off n => cond (Nat.blt b base) (some (.osl gr b off n)) (match H.get b with
    | some (_, cs) => (cs.drop off).bind fun es => (frz H base k es).bind fun e => some (.sl e n)
    | none => some .any)
  | k + 1, .ptr b off => cond (Nat.blt b base) (some (.ptr b off)) (match H.get b with
    | some (_, cs) => (cs.drop off).bind fun es => (frz H base k es).bind fun e => some (.fp e)
    | none => some .any)
  | _ + 1, x => some x
def frzL (H : AH) (base k : Nat) : List (Bool × AV) → Option (List (Bool × AV))
  | [] => some []
  | (b, a) :: r => (frz H base k a).bind fun a' => (frzL H base k r).bind fun r' => some ((b, a') :: r')
def frzSV (H : AH) (base k : Nat) : SV → Option SV
  | .one a => (frz H base k a).bind fun a' => some (.one a')
  | .agg a => (frz H base k a).bind fun a' => some (.agg a')
  | .tup l => (frzL H base k l).bind fun l' => some (.tup l')
  | .und => some .und
section
variable {N0 : Nat → Prop} {H : AH} {γ γ0 : Nat → Option Nat} {w : World} {base : Nat}
theorem frz_spec (hS : St γ N0 H w) (hlo : ∀ b, b < base → γ b = γ0 b) (hhi : ∀ b, base ≤ b → γ0 b = none) (hfr : ∀ b g, base ≤ b → γ b = some g → ¬ Nn N0 γ0 g) :
    ∀ (k : Nat) (a a' : AV) (l : List Value), frz H base k a = some a' → DV γ (Nn N0 γ) w a l → DV γ0 (Nn N0 γ0) w a' l := by
  have hsub : ∀ b g, γ0 b = some g → γ b = some g := fun b g hb => by
    rcases Nat.lt_or_ge b base with h1 | h1
    · rw [hlo b h1]; exact hb
    · rw [hhi b h1] at hb; cases hb
  have hn : ∀ g, ¬ Nn N0 γ g → ¬ Nn N0 γ0 g := fun g h0 h1 => h0 (h1.imp id fun ⟨b, hb⟩ => ⟨b, hsub b g hb⟩)
  intro k
  induction k with
  | zero => intro a a' l h; cases h
  | succ k ih =>
    intro a a' l h hd
    cases a with
    | nil => simp only [frz] at h; cases h; cases hd; exact .nil
    | cons a r =>
      simp only [frz] at h
      obtain ⟨a1, h1, h⟩ := bnd_some h
      obtain ⟨r1, h2, h⟩ := bnd_some h
      cases h
      obtain ⟨xs, ys, rfl, h3, h4, _⟩ := hd.cons_inv
      exact .cons (ih _ _ _ h1 h3) (ih _ _ _ h2 h4)
    | sc v => simp only [frz] at h; cases h; cases hd with | sc h => exact .sc h
    | int n => simp only [frz] at h; cases h; cases hd with | int h h2 => exact .int h h2
    | den => simp only [frz] at h; cases h; cases hd with | den h h2 => exact .den h h2
    | sym => simp only [frz] at h; cases h; cases hd with | sym => exact .sym
    | lim l => simp only [frz] at h; cases h; cases hd with | lim h => exact .lim h
    | any => simp only [frz] at h; cases h; cases hd with | any h => exact .any h
    | sl es n =>
      simp only [frz] at h
      obtain ⟨e, h1, h⟩ := bnd_some h
      cases h
      cases hd with
      | sl hB h0 hdv hp hc => exact .sl hB (hn _ h0) (ih _ _ _ h1 hdv) hp hc
    | fp es =>
      simp only [frz] at h
      obtain ⟨e, h1, h⟩ := bnd_some h
      cases h
      cases hd with
      | fp hB h0 hdv hp => exact .fp hB (hn _ h0) (ih _ _ _ h1 hdv) hp
    | fn f0 c =>
      simp only [frz] at h
      obtain ⟨e, h1, h⟩ := bnd_some h
      cases h
      cases hd with
      | fn hdv => exact .fn (ih _ _ _ h1 hdv)
    | osl gr b off n =>
      simp only [frz] at h
      cases hd with
      | osl hb hr hc =>
        rename_i g cap
        cases hlt : Nat.blt b base with
        | true =>
          rw [hlt] at h; cases h
          exact .osl ((hlo b (Nat.le_of_ble_eq_true hlt)).symm.trans hb) hr hc
        | false =>
          rw [hlt] at h
          have hge : base ≤ b := by
            rcases Nat.lt_or_ge b base with h1 | h1
            · rw [show Nat.blt b base = true from Nat.ble_eq_true_of_le h1] at hlt; cases hlt
            · exact h1
          simp only [cond_false] at h
          split at h
          · rename_i t cs hg
            obtain ⟨es, h1, h⟩ := bnd_some h
            obtain ⟨e, h2, h⟩ := bnd_some h
            cases h
            obtain ⟨l', ex, hB, hdv⟩ := hS.live b g t cs hb hg
            obtain ⟨h3, h4⟩ := hdv.drop h1
            refine .sl hB (hfr b g hge hb) (ih _ _ _ h2 h3) ?_ hc
            simp only []
            rw [List.drop_append_of_le_length h4]
            exact List.prefix_append _ _
          · cases h; exact .any rfl
    | ptr b off =>
      simp only [frz] at h
      cases hd with
      | ptr hb =>
        rename_i g
        cases hlt : Nat.blt b base with
        | true =>
          rw [hlt] at h; cases h
          exact .ptr ((hlo b (Nat.le_of_ble_eq_true hlt)).symm.trans hb)
        | false =>
          rw [hlt] at h
          have hge : base ≤ b := by
            rcases Nat.lt_or_ge b base with h1 | h1
            · rw [show Nat.blt b base = true from Nat.ble_eq_true_of_le h1] at hlt; cases hlt
            · exact h1
          simp only [cond_false] at h
          split at h
          · rename_i t cs hg
            obtain ⟨es, h1, h⟩ := bnd_some h
            obtain ⟨e, h2, h⟩ := bnd_some h
            cases h
            obtain ⟨l', ex, hB, hdv⟩ := hS.live b g t cs hb hg
            obtain ⟨h3, h4⟩ := hdv.drop h1
            refine .fp hB (hfr b g hge hb) (ih _ _ _ h2 h3) ?_
            simp only []
            rw [List.drop_append_of_le_length h4]
            exact List.prefix_append _ _
          · cases h; exact .any rfl
theorem frzL_spec (hS : St γ N0 H w) (hlo : ∀ b, b < base → γ b = γ0 b) (hhi : ∀ b, base ≤ b → γ0 b = none) (hfr : ∀ b g, base ≤ b → γ b = some g → ¬ Nn N0 γ0 g) {k : Nat} :
    ∀ (l l' : List (Bool × AV)) (vs : List Value), frzL H base k l = some l' → PVs γ (Nn N0 γ) w l vs → PVs γ0 (Nn N0 γ0) w l' vs := by
  intro l
  induction l with
  | nil => intro l' vs h hv; cases h; cases hv; exact .nil
  | cons p l ih =>
    obtain ⟨b, a⟩ := p
    intro l' vs h hv
    simp only [frzL] at h
    obtain ⟨a1, h1, h⟩ := bnd_some h
    obtain ⟨r1, h2, h⟩ := bnd_some h
    cases h
    cases hv with
    | cons h3 h4 =>
      refine .cons ?_ (ih _ _ h2 h4)
      unfold PV at h3 ⊢
      cases b with
      | true => obtain ⟨l, h5, h6⟩ := h3; exact ⟨l, h5, frz_spec hS hlo hhi hfr _ _ _ _ h1 h6⟩
      | false => exact frz_spec hS hlo hhi hfr _ _ _ _ h1 h3
theorem frzSV_spec (hS : St γ N0 H w) (hlo : ∀ b, b < base → γ b = γ0 b) (hhi : ∀ b, base ≤ b → γ0 b = none) (hfr : ∀ b g, base ≤ b → γ b = some g → ¬ Nn N0 γ0 g) {k : Nat} {s s' : SV} {v : Value} (h : frzSV H base k s = some s') (hv : VR γ (Nn N0 γ) w s v) : VR γ0 (Nn N0 γ0) w s' v := by
  cases s with
  | one a =>
    obtain ⟨a1, h1, h⟩ := bnd_some h
    cases h
    exact frz_spec hS hlo hhi hfr _ _ _ _ h1 hv
  | agg a =>
    obtain ⟨a1, h1, h⟩ := bnd_some h
    cases h
    obtain ⟨l, h2, h3⟩ := hv
    exact ⟨l, h2, frz_spec hS hlo hhi hfr _ _ _ _ h1 h3⟩
  | tup l =>
    obtain ⟨l1, h1, h⟩ := bnd_some h
    cases h
    obtain ⟨vs, h2, h3⟩ := hv
    exact ⟨vs, h2, frzL_spec hS hlo hhi hfr _ _ _ h1 h3⟩
  | und => cases h; trivial
end
end

section

section
variable {α β : Type}
noncomputable def ob (x : Option α) (k : α → Option β) : Option β := Option.rec none k x
theorem ob_eq (x : Option α) (k : α → Option β) : ob x k = x.bind k := by cases x <;> rfl
noncomputable def cnd (b : Bool) (x y : α) : α := Bool.rec y x b
theorem cnd_eq (b : Bool) (x y : α) : cnd b x y = cond b x y := by cases b <;> rfl
noncomputable def rq (b : Bool) (x : Option α) : Option α := Bool.rec none x b
theorem rq_eq (b : Bool) (x : Option α) : rq b x = req b x := by cases b <;> rfl
noncomputable def lkR (b : Nat) (l : List (Nat × α)) : Option α := List.rec none (fun p _ ih => Bool.rec ih (some p.2) (Nat.beq p.1 b)) l
theorem lkR_eq (b : Nat) : ∀ l : List (Nat × α), lkR b l = lk b l := by
  intro l
  induction l with
  | nil => rfl
  | cons p r ih =>
    obtain ⟨k, x⟩ := p
    show Bool.rec (lkR b r) (some x) (Nat.beq k b) = cond (Nat.beq k b) (some x) (lk b r)
    rw [ih]
    cases Nat.beq k b <;> rfl
noncomputable def setLR (b : Nat) (e : α) (l : List (Nat × α)) : List (Nat × α) := List.rec [] (fun p r ih => Bool.rec (p :: ih) ((b, e) :: r) (Nat.beq p.1 b)) l
theorem setLR_eq (b : Nat) (e : α) : ∀ l : List (Nat × α), setLR b e l = setL b e l := by
  intro l
  induction l with
  | nil => rfl
  | cons p r ih =>
    obtain ⟨k, x⟩ := p
    show Bool.rec ((k, x) :: setLR b e r) ((b, e) :: r) (Nat.beq k b) = cond (Nat.beq k b) ((k, e) :: r) ((k, x) :: setL b e r)
    rw [ih]
    cases hk : Nat.beq k b with
    | false => rfl
    | true => rw [Nat.eq_of_beq_eq_true hk]; rfl
noncomputable def tbR (m t : Nat) : Bool := Nat.beq (Nat.land (Nat.shiftRight m t) 1) 1
noncomputable def ddR (env : AEnv) : Nat → (AEnv → β) → β := List.rec (motive := fun _ => Nat → (AEnv → β) → β) (fun _ k => k []) (fun p _ ih m k => Bool.rec (ih (Nat.lor m (Nat.pow 2 p.1)) fun r' => k (p :: r')) (ih m k) (tbR m p.1)) env
theorem ddR_eq : ∀ (env : AEnv) (m : Nat) (k : AEnv → β), ddR env m k = k (dd env m) := by
  intro env
  induction env with
  | nil => intro m k; rfl
  | cons p r ih =>
    obtain ⟨t, s⟩ := p
    intro m k
    show Bool.rec (ddR r (Nat.lor m (Nat.pow 2 t)) fun r' => k ((t, s) :: r')) (ddR r m k) (tb m t) = k (cond (tb m t) (dd r m) ((t, s) :: dd r (Nat.lor m (Nat.pow 2 t))))
    rw [ih, ih]
    cases tb m t <;> rfl
end
noncomputable def widthR (a : AV) : Nat := AV.rec (motive := fun _ => Nat) 0 (fun _ _ x y => Nat.add x y) (fun _ => 1) (fun _ _ => 2) 2 1 (fun _ => 1) (fun _ _ _ => 1) (fun _ _ _ _ => 1) (fun _ _ => 1) (fun _ _ => 1) (fun _ _ _ => 1) 1 a
theorem widthR_eq : ∀ a : AV, widthR a = a.width := by
  intro a
  induction a with
  | cons a r h1 h2 => show widthR a + widthR r = a.width + r.width; rw [h1, h2]
  | _ => rfl
noncomputable def atR (x : AV) (k : Nat) : Option AV := Bool.rec none (some x) (Nat.beq k 0)
noncomputable def dropR (x : AV) : Nat → Option AV := AV.rec (motive := fun _ => Nat → Option AV) (atR .nil)
  (fun a r _ ih k => Bool.rec (Bool.rec none (ih (Nat.sub k (widthR a))) (Nat.ble (widthR a) k)) (some (.cons a r)) (Nat.beq k 0))
  (fun v => atR (.sc v)) (fun n k => atR (.int n k)) (atR .den) (atR .sym) (fun l => atR (.lim l)) (fun es n _ => atR (.sl es n)) (fun g b o n => atR (.osl g b o n)) (fun b o => atR (.ptr b o)) (fun es _ => atR (.fp es)) (fun f c _ => atR (.fn f c)) (atR .any) x
theorem dropR_eq : ∀ (x : AV) (k : Nat), dropR x k = x.drop k := by
  intro x
  induction x with
  | cons a r _ ih =>
    intro k
    cases k with
    | zero => rfl
    | succ k =>
      show (Bool.rec none (dropR r (Nat.sub (k + 1) (widthR a))) (Nat.ble (widthR a) (k + 1)) : Option AV) = if a.width ≤ k + 1 then r.drop (k + 1 - a.width) else none
      rw [ih, widthR_eq]
      by_cases h : a.width ≤ k + 1
      · rw [if_pos h, Nat.ble_eq_true_of_le h]; rfl
      · rw [if_neg h, show Nat.ble a.width (k + 1) = false from by cases hb : Nat.ble a.width (k + 1) with | false => rfl | true => exact absurd (Nat.le_of_ble_eq_true hb) h]
  | _ => intro k; cases k <;> rfl
noncomputable def takeAt (k : Nat) : Option AV := Bool.rec none (some .nil) (Nat.beq k 0)
noncomputable def takeR (x : AV) : Nat → Option AV := AV.rec (motive := fun _ => Nat → Option AV) takeAt
  (fun a _ _ ih k => Bool.rec (Bool.rec none (ob (ih (Nat.sub k (widthR a))) fun r' => some (.cons a r')) (Nat.ble (widthR a) k)) (some .nil) (Nat.beq k 0))
  (fun _ => takeAt) (fun _ _ => takeAt) takeAt takeAt (fun _ => takeAt) (fun _ _ _ => takeAt) (fun _ _ _ _ => takeAt) (fun _ _ => takeAt) (fun _ _ => takeAt) (fun _ _ _ => takeAt) takeAt x
theorem takeR_eq : ∀ (x : AV) (k : Nat), takeR x k = x.take k := by
  intro x
  induction x with
  | cons a r _ ih =>
    intro k
    cases k with
    | zero => rfl
    | succ k =>
      show (Bool.rec none (ob (takeR r (Nat.sub (k + 1) (widthR a))) fun r' => some (.cons a r')) (Nat.ble (widthR a) (k + 1)) : Option AV) = if a.width ≤ k + 1 then (r.take (k + 1 - a.width)).map (.cons a) else none
      rw [ih, widthR_eq, ob_eq]
      by_cases h : a.width ≤ k + 1
      · rw [if_pos h, Nat.ble_eq_true_of_le h]
        show (r.take (k + 1 - a.width)).bind _ = _
        cases r.take (k + 1 - a.width) <;> rfl
      · rw [if_neg h, show Nat.ble a.width (k + 1) = false from by cases hb : Nat.ble a.width (k + 1) with | false => rfl | true => exact absurd (Nat.le_of_ble_eq_true hb) h]
  | _ => intro k; cases k <;> rfl
noncomputable def putHere (x ps : AV) (k : Nat) : Option AV := Bool.rec none (ob (dropR x (widthR ps)) fun r => some (ps.app r)) (Nat.beq k 0)
noncomputable def putR (x : AV) : Nat → AV → Option AV := AV.rec (motive := fun _ => Nat → AV → Option AV) (fun k ps => putHere .nil ps k)
  (fun a r _ ih k ps => Bool.rec (Bool.rec none (ob (ih (Nat.sub k (widthR a)) ps) fun r' => some (.cons a r')) (Nat.ble (widthR a) k)) (putHere (.cons a r) ps k) (Nat.beq k 0))
  (fun v k ps => putHere (.sc v) ps k) (fun n j k ps => putHere (.int n j) ps k) (fun k ps => putHere .den ps k) (fun k ps => putHere .sym ps k) (fun l k ps => putHere (.lim l) ps k) (fun es n _ k ps => putHere (.sl es n) ps k) (fun g b o n k ps => putHere (.osl g b o n) ps k) (fun b o k ps => putHere (.ptr b o) ps k) (fun es _ k ps => putHere (.fp es) ps k) (fun f c _ k ps => putHere (.fn f c) ps k) (fun k ps => putHere .any ps k) x
theorem putHere_eq (x ps : AV) : putHere x ps 0 = (x.drop ps.width).map ps.app := by
  show ob (dropR x (widthR ps)) _ = _
  rw [ob_eq, dropR_eq, widthR_eq]
  cases x.drop ps.width <;> rfl
theorem putR_eq : ∀ (x : AV) (k : Nat) (ps : AV), putR x k ps = x.put k ps := by
  intro x
  induction x with
  | cons a r _ ih =>
    intro k ps
    cases k with
    | zero => exact putHere_eq _ ps
    | succ k =>
      show (Bool.rec none (ob (putR r (Nat.sub (k + 1) (widthR a)) ps) fun r' => some (.cons a r')) (Nat.ble (widthR a) (k + 1)) : Option AV) = if a.width ≤ k + 1 then (r.put (k + 1 - a.width) ps).map (.cons a) else none
      rw [ih, widthR_eq, ob_eq]
      by_cases h : a.width ≤ k + 1
      · rw [if_pos h, Nat.ble_eq_true_of_le h]
        show (r.put (k + 1 - a.width) ps).bind _ = _
        cases r.put (k + 1 - a.width) ps <;> rfl
      · rw [if_neg h, show Nat.ble a.width (k + 1) = false from by cases hb : Nat.ble a.width (k + 1) with | false => rfl | true => exact absurd (Nat.le_of_ble_eq_true hb) h]
  | _ =>
    intro k ps
    cases k with
    | zero => exact putHere_eq _ ps
    | succ k => rfl
noncomputable def getR (H : AH) (b : Nat) : Option (TypeId × AV) := ob (lkR b H.l) fun x => x
theorem getR_eq (H : AH) (b : Nat) : getR H b = H.get b := by
  unfold getR AH.get
  rw [lkR_eq, ob_eq]
  cases lk b H.l <;> rfl
noncomputable def setR (H : AH) (b : Nat) (e : Option (TypeId × AV)) : AH := ⟨H.n, setLR b e H.l⟩
theorem setR_eq (H : AH) (b : Nat) (e : Option (TypeId × AV)) : setR H b e = H.set b e := by unfold setR AH.set; rw [setLR_eq]
noncomputable def derefR (H : AH) : SV → Option AV
  | .one (.ptr b off) => ob (getR H b) fun p => dropR p.2 off
  | .one (.fp es) => some es
  | _ => none
theorem derefR_eq (H : AH) (p : SV) : derefR H p = deref H p := by
  cases p with
  | one a =>
    cases a with
    | ptr b off =>
      show ob (getR H b) (fun p => dropR p.2 off) = (match H.get b with | some (_, cs) => cs.drop off | none => none)
      rw [ob_eq, getR_eq]
      cases H.get b with
      | none => rfl
      | some x => exact dropR_eq _ _
    | _ => rfl
  | _ => rfl
noncomputable def ptrAddR (k : Nat) : SV → Option SV
  | .one (.ptr b off) => some (.one (.ptr b (Nat.add off k)))
  | .one (.fp es) => ob (dropR es k) fun e => some (.one (.fp e))
  | _ => none
theorem ptrAddR_eq (k : Nat) (p : SV) : ptrAddR k p = ptrAdd k p := by
  cases p with
  | one a =>
    cases a with
    | fp es =>
      show ob (dropR es k) (fun e => some (SV.one (.fp e))) = (es.drop k).map fun e => SV.one (.fp e)
      rw [ob_eq, dropR_eq]
      cases es.drop k <;> rfl
    | _ => rfl
  | _ => rfl
structure KL where
  run : AV → Option SV
noncomputable def oneOf (es : AV) : Option SV := AV.casesOn (motive := fun _ => Option SV) es none (fun a _ => Bool.rec none (some (.one a)) (Nat.beq (widthR a) 1)) (fun _ => none) (fun _ _ => none) none none (fun _ => none) (fun _ _ => none) (fun _ _ _ _ => none) (fun _ _ => none) (fun _ => none) (fun _ _ => none) none
noncomputable def kload (P : Program) (T : TypeId) : KL :=
  match P.underlying T, P.info? T with
  | some (.struct _), some i => ⟨fun es => ob (takeR es i.size) fun e => some (.agg e)⟩
  | some (.array _ _), some i => ⟨fun es => ob (takeR es i.size) fun e => some (.agg e)⟩
  | some _, some i => match Nat.beq i.size 1 with
    | true => ⟨oneOf⟩
    | false => ⟨fun _ => none⟩
  | _, _ => ⟨fun _ => none⟩
theorem kagg_eq (es : AV) (n : Nat) : (ob (takeR es n) fun e => some (SV.agg e)) = (es.take n).map .agg := by
  rw [ob_eq, takeR_eq]
  cases es.take n <;> rfl
theorem kone_eq (i : TypeInfo) (es : AV) : (match Nat.beq i.size 1 with | true => (⟨oneOf⟩ : KL) | false => ⟨fun _ => none⟩).run es = (match es with
    | .cons a _ => if a.width = 1 then (if i.size = 1 then some (.one a) else none) else none
    | _ => none : Option SV) := by
  cases hb : Nat.beq i.size 1 with
  | true =>
    have := Nat.eq_of_beq_eq_true hb
    cases es with
    | cons a r =>
      show (Bool.rec none (some (.one a)) (Nat.beq (widthR a) 1) : Option SV) = if a.width = 1 then (if i.size = 1 then some (.one a) else none) else none
      rw [widthR_eq, if_pos this]
      by_cases h : a.width = 1
      · rw [if_pos h, h]; rfl
      · rw [if_neg h, show Nat.beq a.width 1 = false from by cases hb2 : Nat.beq a.width 1 with | false => rfl | true => exact absurd (Nat.eq_of_beq_eq_true hb2) h]
    | _ => rfl
  | false =>
    have := Nat.ne_of_beq_eq_false hb
    cases es with
    | cons a r =>
      show none = if a.width = 1 then (if i.size = 1 then some (SV.one a) else none) else none
      rw [if_neg this]; split <;> rfl
    | _ => rfl
theorem kload_eq (P : Program) (T : TypeId) (es : AV) : (kload P T).run es = loadAs P T es := by
  unfold kload loadAs
  generalize P.underlying T = u
  generalize P.info? T = o
  cases u with
  | none => rfl
  | some d =>
    cases o with
    | none => cases d <;> rfl
    | some i =>
      cases d with
      | struct fs => exact kagg_eq es i.size
      | array n e => exact kagg_eq es i.size
      | _ => exact kone_eq i es
structure KE where
  run : Nat → SV → Option SV
noncomputable def kelem (P : Program) (T : TypeId) : KE :=
  match P.underlying T with
  | some (.array len e) => match P.info? e with
    | some fi => ⟨fun i s => Bool.rec none (ptrAddR (i * fi.size) s) (Nat.blt i len)⟩
    | none => ⟨fun _ _ => none⟩
  | some (.slice e) => match P.info? e with
    | some fi => ⟨fun i s => match s with
      | .one (.sl es n) => Bool.rec none (ob (dropR es (i * fi.size)) fun e => some (.one (.fp e))) (Nat.blt i n)
      | .one (.osl _ b off n) => Bool.rec none (some (.one (.ptr b (off + i * fi.size)))) (Nat.blt i n)
      | _ => none⟩
    | none => ⟨fun _ _ => none⟩
  | _ => ⟨fun _ _ => none⟩
theorem blt_ite {α : Type} (i n : Nat) (x : Option α) : (Bool.rec none x (Nat.blt i n) : Option α) = if i < n then x else none := by
  by_cases h : i < n
  · rw [if_pos h, show Nat.blt i n = true from Nat.ble_eq_true_of_le h]
  · rw [if_neg h, show Nat.blt i n = false from by cases hb : Nat.blt i n with | false => rfl | true => exact absurd (Nat.le_of_ble_eq_true hb) h]
theorem kelem_eq (P : Program) (T : TypeId) (i : Nat) (s : SV) : (kelem P T).run i s = elemPtr P T i s := by
  unfold kelem elemPtr
  generalize P.underlying T = u
  cases u with
  | none => rfl
  | some d =>
    cases d with
    | array n e =>
      simp only []
      cases P.info? e with
      | none => rfl
      | some fi => simp only [blt_ite, ptrAddR_eq]
    | slice e =>
      simp only []
      cases P.info? e with
      | none => cases s <;> rfl
      | some fi =>
        cases s with
        | one a =>
          cases a with
          | sl es n =>
            show (Bool.rec none (ob (dropR es (i * fi.size)) fun e => some (.one (.fp e))) (Nat.blt i n) : Option SV) = if i < n then (es.drop (i * fi.size)).map fun e => .one (.fp e) else none
            rw [blt_ite, ob_eq, dropR_eq]
            cases es.drop (i * fi.size) <;> rfl
          | osl g b off n => exact blt_ite i n _
          | _ => rfl
        | _ => rfl
    | _ => rfl
structure KV where
  run : AEnv → Option SV
noncomputable def cv : Operand → KV
  | .tmp t => ⟨fun env => lkR t env⟩
  | .const v => match v.oneCell' with
    | true => ⟨fun _ => some (.one (.sc v))⟩
    | false => ⟨fun _ => none⟩
  | .func f => ⟨fun _ => some (.one (.fn f .nil))⟩
  | .global _ => ⟨fun _ => none⟩
theorem cv_eq (x : Operand) (env : AEnv) : (cv x).run env = opv env x := by
  cases x with
  | tmp t => exact lkR_eq t env
  | const v =>
    simp only [cv, opv]
    cases v.oneCell' <;> rfl
  | _ => rfl
structure KVs where
  run : AEnv → Option (List SV)
noncomputable def cvs : List Operand → KVs
  | [] => ⟨fun _ => some []⟩
  | x :: r => ⟨fun env => ob ((cv x).run env) fun s => ob ((cvs r).run env) fun l => some (s :: l)⟩
theorem cvs_eq : ∀ (l : List Operand) (env : AEnv), (cvs l).run env = opvs env l := by
  intro l
  induction l with
  | nil => intro env; rfl
  | cons x r ih => intro env; simp only [cvs, opvs, ob_eq, cv_eq, ih]

abbrev CallA := Nat → List SV → AH → Option (SV × AH)
structure K1 where
  run : CallA → Nat → AEnv → AH → Option (SV × AH)
structure K2 where
  run : CallA → Nat → AEnv → AH → Option (AEnv × AH)
structure KF where
  run : CallA → AH → AEnv → Nat → Option (List (Tmp × FRes))
noncomputable def compOp (P : Program) (op : Op) : K1 :=
  match op with
  | .move x => ⟨fun _ _ env H => ob ((cv x).run env) (ret1 H)⟩
  | .assign x => ⟨fun _ _ env H => ob ((cv x).run env) (ret1 H)⟩
  | .pick c x y => ⟨fun _ _ env H => ob ((cv c).run env) fun s => match s.exact with
    | some (.bool true) => ob ((cv x).run env) (ret1 H)
    | some (.bool false) => ob ((cv y).run env) (ret1 H)
    | _ => none⟩
  | .alloc T => ⟨fun _ _ _ H => ob (zeroAs P T) fun z => rq (!isU32 T) (some (.one (.ptr H.n 0), H.push (T, .ofVals z)))⟩
  | .box T x => ⟨fun _ _ env H => ob ((cv x).run env) fun s => ob s.cells fun cs => rq (!isU32 T) (some (.one (.ptr H.n 0), H.push (T, cs)))⟩
  | .build T parts => ⟨fun _ _ env H => ob (opps env parts.toList) fun l => ob (buildAs P T l) (ret1 H)⟩
  | .buildSlice T n parts => ⟨fun _ _ env H => ob (opps env parts.toList) fun l => ob (elemInfo P T) fun (e, i) => ob (zeroAs P e) fun z =>
      rq (Nat.blt 0 (n * i.size) && Nat.ble (n * i.size) 65536 && oneCells (zrep z (n * i.size))) ((fillAs (fun k => some (k * i.size, i.size)) (.ofVals (zrep z (n * i.size))) l).bind fun cs => some (.one (.sl cs n), H))⟩
  | .load T x => ⟨fun _ _ env H => ob ((cv x).run env) fun p => ob (derefR H p) fun es => ob ((kload P T).run es) (ret1 H)⟩
  | .store T x y => ⟨fun _ f env H => ob ((cv x).run env) fun p => ob ((cv y).run env) fun s => match p with
    | .one (.ptr b off) => ob (getR H b) fun (t, cs) => ob s.cells fun ps => ob (P.info? T) fun i => rq (Nat.ble f b && Nat.beq i.size (widthR ps)) (ob (putR cs off ps) fun cs' => some (.und, setR H b (some (t, cs'))))
    | _ => none⟩
  | .nilCheck x => ⟨fun _ _ env H => ob ((cv x).run env) fun p => ob (ptrAddR 0 p) fun _ => some (p, H)⟩
  | .binOp op T x y _ => ⟨fun _ _ env H => ob ((cv x).run env) fun s => ob ((cv y).run env) fun t => ob s.exact fun u => ob t.exact fun v => ob (pureSV P (do eqGuard op T x y u v; binOp op T u v)) (ret1 H)⟩
  | .unOp op _ x => ⟨fun _ _ env H => ob ((cv x).run env) fun s => ob s.exact fun u => ob (pureSV P (Op.unary op u)) (ret1 H)⟩
  | .convert T T' x => ⟨fun _ _ env H => ob ((cv x).run env) fun s => ob s.exact fun u => ob (pureSV P (convert T T' u)) (ret1 H)⟩
  | .sliceToArrayPointer T x => ⟨fun _ _ env H => ob ((cv x).run env) fun s => ob (arrInfo P T) fun (n, _, _) => ob (toArr n s) (ret1 H)⟩
  | .makeFunc (.func f0) first cap => ⟨fun _ _ env H => rq (Nat.beq first.size 0) (ob (opvs env cap.toList) fun l => ob (capsAs l) fun c => some (.one (.fn f0 c), H))⟩
  | .makeSlice T x y => ⟨fun _ _ env H => ob ((cv x).run env) fun s => ob ((cv y).run env) fun t => ob s.idx fun n => ob t.idx fun m => ob (elemInfo P T) fun (e, i) => ob (zeroAs P e) fun z =>
      rq (Nat.beq n m && Nat.ble n 65536 && Nat.ble i.bytes 65536 && !isU32 e && oneCells (zrep z (n * i.size))) (some (.one (.osl false H.n 0 n), H.push (e, .ofVals (zrep z (n * i.size)))))⟩
  | .slice T x lo hi none => ⟨fun _ _ env H => ob ((cv x).run env) fun s => ob (opo env lo) fun sl => ob (opo env hi) fun sh => ob (loOf sl) fun l => match P.underlying T with
    | some (.slice _) => ob (elemInfo P T) fun (_, i) => ob (slLen s) fun n => ob (hiOf n sh) fun h => ob (cutAs l h i.size s) (ret1 H)
    | _ => ob (arrInfo P T) fun (n, _, i) => ob (hiOf n sh) fun h => rq (Nat.ble h n) (ob (cutArr l h i.size s) (ret1 H))⟩
  | .fieldAddr T x i => ⟨fun _ _ env H => ob ((cv x).run env) fun p => ob (fieldOff P T i) fun k => ob (ptrAddR k p) (ret1 H)⟩
  | .indexAddr T x y => ⟨fun _ _ env H => ob ((cv x).run env) fun p => ob ((cv y).run env) fun s => ob s.idx fun i => ob ((kelem P T).run i p) (ret1 H)⟩
  | .extract x i => ⟨fun _ _ env H => ob ((cv x).run env) fun s => ob (s.comp i) (ret1 H)⟩
  | .index T x y => ⟨fun _ _ env H => ob ((cv x).run env) fun p => ob ((cv y).run env) fun s => match p with
    | .agg cs => ob s.idx fun k => ob (arrInfo P T) fun (n, e, i) => rq (Nat.blt k n) (ob (dropR cs (k * i.size)) fun es => ob ((kload P e).run es) (ret1 H))
    | _ => none⟩
  | .field T x j => ⟨fun _ _ env H => ob ((cv x).run env) fun p => match p with
    | .agg cs => ob (fieldPart P T j) fun (e, k) => ob (dropR cs k) fun es => ob ((kload P e).run es) (ret1 H)
    | _ => none⟩
  | .call c => ⟨fun call f env H => match c.callee with
    | .value x => ob ((cv x).run env) fun s => match s with
      | .one (.fn fn cp) => ob ((cvs c.args.toList).run env) fun al => ob (capsList cp) fun cl => rq (hasBody P fn) (call fn (al ++ cl) H)
      | _ => none
    | .builtin .len => match c.args.toList, c.argTypes.toList with
      | [x], [t] => ob ((cv x).run env) fun s => match P.underlying t with
        | some (.slice _) => ob (slLen s) fun n => some (.one (.sc (.int .i64 n)), H)
        | some .string => ob s.exact fun v => match v with
          | .string b => some (.one (.sc (.int .i64 b.size)), H)
          | _ => none
        | _ => none
      | _, _ => none
    | .builtin .cap => match c.args.toList, c.argTypes.toList with
      | [x], [t] => ob ((cv x).run env) fun s => match P.underlying t, s with
        | some (.slice _), .one (.sc (.slice none 0 0)) => some (.one (.sc (.int .i64 0)), H)
        | _, _ => none
      | _, _ => none
    | .builtin .append => match c.args.toList, c.argTypes.toList with
      | [x, y], [t, t'] => ob ((cv x).run env) fun s => ob ((cv y).run env) fun r => cond (Nat.beq t t') (evApp P f H t s r) (evAppZ P H t t' s r)
      | _, _ => none
    | _ => none⟩
  | _ => ⟨fun _ _ _ _ => none⟩

theorem compOp_eq (P : Program) (call : CallA) (f : Nat) (env : AEnv) (H : AH) (op : Op) : (compOp P op).run call f env H = evOp P call f env H op := by
  cases op with
  | slice T x lo hi mx => cases mx <;> (simp only [compOp, evOp, ob_eq, cv_eq, rq_eq]; try rfl)
  | makeFunc fn first cap => cases fn <;> (simp only [compOp, evOp, ob_eq, cv_eq, rq_eq]; try rfl)
  | _ => simp only [compOp, evOp, ob_eq, cv_eq, cvs_eq, rq_eq, derefR_eq, kload_eq, dropR_eq, getR_eq, putR_eq, widthR_eq, ptrAddR_eq, kelem_eq, setR_eq] <;> rfl

noncomputable def compList (P : Program) (n : Nat) (ops : Array Oper) : List Oper → K2
  | [] => ⟨fun _ _ env H => some (env, H)⟩
  | o :: rest => match o.guard with
    | none => match o.dst with
      | none => ⟨fun call f env H => ob ((compOp P o.op).run call f env H) fun p => (compList P n ops rest).run call f env p.2⟩
      | some d => match Nat.blt d n with
        | true => ⟨fun call f env H => ob ((compOp P o.op).run call f env H) fun p => (compList P n ops rest).run call f ((d, p.1) :: env) p.2⟩
        | false => ⟨fun _ _ _ _ => none⟩
    | some _ => ⟨fun call f env H => (evWant ops env o.guard).bind fun b => match b with
      | true => ((compOp P o.op).run call f env H).bind fun p => match p with | (s, H') => (putD n o.dst s env).bind fun env' => (compList P n ops rest).run call f env' H'
      | false => (putD n o.dst (.tup []) env).bind fun env' => (compList P n ops rest).run call f env' H⟩
theorem compList_eq (P : Program) (n : Nat) (ops : Array Oper) (call : CallA) (f : Nat) : ∀ (l : List Oper) (env : AEnv) (H : AH), (compList P n ops l).run call f env H = evList P call f n ops l env H := by
  intro l
  induction l with
  | nil => intro env H; rfl
  | cons o rest ih =>
    intro env H
    obtain ⟨dst, op, ty, pos, after, g⟩ := o
    unfold compList evList
    cases g with
    | none =>
      simp only [evWant, Option.bind_some]
      cases dst with
      | none =>
        simp only [compOp_eq, ob_eq, rq_eq, ih, putD, Option.bind_some]
      | some d =>
        cases hb : Nat.blt d n with
        | true => simp only [compOp_eq, ob_eq, rq_eq, ih, putD, hb, req, cond_true, Option.bind_some, putL]
        | false =>
          simp only [putD, hb, req, cond_false, Option.bind_none]
          cases evOp P call f env H op <;> rfl
    | some g =>
      simp only [compOp_eq, ob_eq, rq_eq, ih]
      cases evWant ops env (some g) with
      | none => rfl
      | some b => cases b <;> rfl

noncomputable def compFree (P : Program) (ops : Array Oper) : List Oper → KF
  | [] => ⟨fun _ _ _ _ => some []⟩
  | o :: rest => match o.dst with
    | none => ⟨fun _ _ _ _ => none⟩
    | some d => match isNew o.op && o.guard.isNone with
      | true => ⟨fun call H env k => (newOf P env o.op).bind fun x => match x with | (T, z, q) => ((compFree P ops rest).run call H ((d, .und) :: env) (k + 1)).bind fun l => some ((d, .new T z k q) :: l)⟩
      | false => match o.guard with
        | none => ⟨fun call H env k => ob ((compOp P o.op).run call H.n env H) fun p => rq (Nat.beq p.2.n H.n) (ob ((compFree P ops rest).run call H ((d, p.1) :: env) k) fun l => some ((d, .val p.1) :: l))⟩
        | some _ => ⟨fun call H env k => (evWant ops env o.guard).bind fun b => match b with
          | true => ((compOp P o.op).run call H.n env H).bind fun p => match p with | (s, H') => req (Nat.beq H'.n H.n) (((compFree P ops rest).run call H ((d, s) :: env) k).bind fun l => some ((d, .val s) :: l))
          | false => ((compFree P ops rest).run call H ((d, .tup []) :: env) k).bind fun l => some ((d, .val (.tup [])) :: l)⟩
theorem bind_bind_new {α β : Type} (x : Option α) (b : α → Bool) (g : α → β) {γ : Type} (k : β → Option γ) : ((x.bind fun z => req (b z) (some (g z))).bind k) = x.bind fun z => req (b z) (k (g z)) := by
  cases x with
  | none => rfl
  | some z =>
    simp only [Option.bind_some]
    cases b z <;> rfl
theorem compFree_eq (P : Program) (ops : Array Oper) (call : CallA) (H : AH) : ∀ (l : List Oper) (env : AEnv) (k : Nat), (compFree P ops l).run call H env k = evFree P call ops H l env k := by
  intro l
  induction l with
  | nil => intro env k; rfl
  | cons o rest ih =>
    intro env k
    obtain ⟨dst, op, ty, pos, after, g⟩ := o
    cases dst with
    | none => rfl
    | some d =>
      unfold compFree
      cases hn : (isNew op && g.isNone) with
      | true =>
        simp only [hn]
        rw [Bool.and_eq_true] at hn
        cases g with
        | some g => cases hn.2
        | none =>
          cases op with
          | alloc T =>
            show ((zeroAs P T).bind fun z => req (!isU32 T) (some (T, z, none))).bind _ = (zeroAs P T).bind _
            rw [bind_bind_new]
            simp only [ih, putL]
          | makeSlice T x y =>
            show (((opv env x).bind fun s => (opv env y).bind fun t => s.idx.bind fun n => t.idx.bind fun m => (elemInfo P T).bind fun p => (zeroAs P p.1).bind fun z => req (Nat.beq n m && Nat.ble n 65536 && Nat.ble p.2.bytes 65536 && !isU32 p.1 && oneCells (zrep z (n * p.2.size))) (some (p.1, zrep z (n * p.2.size), some n))).bind _) = ((opv env x).bind fun s => (opv env y).bind fun t => s.idx.bind fun n => t.idx.bind fun m => (elemInfo P T).bind fun p => (zeroAs P p.1).bind fun z => req _ _)
            cases opv env x with
            | none => rfl
            | some s =>
              cases opv env y with
              | none => rfl
              | some t =>
                simp only [Option.bind_some]
                cases s.idx with
                | none => rfl
                | some n =>
                  cases t.idx with
                  | none => rfl
                  | some m =>
                    cases elemInfo P T with
                    | none => rfl
                    | some p =>
                      simp only [Option.bind_some]
                      rw [bind_bind_new]
                      simp only [ih, putL]
          | _ => cases hn.1
      | false =>
        simp only [hn]
        cases g with
        | none =>
          simp only [compOp_eq, ob_eq, rq_eq, ih]
          cases op with
          | alloc T => cases hn
          | makeSlice T x y => cases hn
          | _ => rfl
        | some g =>
          have he : evFree P call ops H (⟨some d, op, ty, pos, after, some g⟩ :: rest) env k = (evWant ops env (some g)).bind fun b => match b with
              | true => (evOp P call H.n env H op).bind fun p => req (Nat.beq p.2.n H.n) ((evFree P call ops H rest (putL d p.1 env) k).bind fun l => some ((d, .val p.1) :: l))
              | false => (evFree P call ops H rest (putL d (.tup []) env) k).bind fun l => some ((d, .val (.tup [])) :: l) := by cases op <;> rfl
          rw [he]
          simp only [compOp_eq, ob_eq, rq_eq, ih]
          cases evWant ops env (some g) with
          | none => rfl
          | some b => cases b <;> rfl
end

section
variable [Rho]

structure KR where
  run : CallA → CallA → Nat → AEnv → AH → Option (AEnv × AH)
structure KC where
  run : CallA → CallA → Nat → AEnv → AH → Option Res
noncomputable def finR {β : Type} (l : List (Tmp × FRes)) : AEnv → AH → (AEnv → AH → β) → β := List.rec (motive := fun _ => AEnv → AH → (AEnv → AH → β) → β) (fun env H k => k env H)
  (fun p _ ih env H k => FRes.rec (motive := fun _ => β) (fun s => ih ((p.1, s) :: env) H k) (fun T z _ q => ih ((p.1, newSV H.n q) :: env) (H.push (T, .ofVals z)) k) p.2) l
omit [Rho] in
theorem finR_eq {β : Type} : ∀ (l : List (Tmp × FRes)) (env : AEnv) (H : AH) (k : AEnv → AH → β), finR l env H k = k (fin l env H).1 (fin l env H).2 := by
  intro l
  induction l with
  | nil => intro env H k; rfl
  | cons p r ih =>
    obtain ⟨d, x⟩ := p
    intro env H k
    cases x with
    | val s => exact ih _ _ _
    | new T z k' q => exact ih _ _ _
noncomputable def compReg (P : Program) (n : Nat) (ops : Array Oper) (draw : Bool) : KR :=
  match draw with
  | false => ⟨fun _ callT f env H => (compList P n ops ops.toList).run callT f env H⟩
  | true => match regM ops n with
    | some m => ⟨fun callF callT f env H => ddR env (maskL (dstsOf (ops.toList.take m))) fun env0 => ob ((compFree P ops (ops.toList.take m)).run callF H env0 H.n) fun recs =>
        finR recs env0 H fun e H1 => (compList P n ops (ops.toList.drop m)).run callT f e H1⟩
    | none => ⟨fun callF callT f env H => evVer P callF callT f n ops (tailFrom (masksL ops.toList []) ops.size) env H⟩
theorem compReg_eq (P : Program) (n : Nat) (ops : Array Oper) (draw : Bool) (callF callT : CallA) (f : Nat) (env : AEnv) (H : AH) : (compReg P n ops draw).run callF callT f env H = evRegion P callF callT f n ops draw env H := by
  cases draw with
  | false => exact compList_eq P n ops callT f ops.toList env H
  | true =>
    simp only [compReg, evRegion]
    cases regM ops n with
    | none => rfl
    | some m => simp only [compFree_eq, compList_eq, finR_eq, ob_eq]; rw [ddR_eq]; rfl
/-- on, where a piece of code ends normally -/
noncomputable def onN (r : Res) (k : AEnv → AH → Option Res) : Option Res := Ex.rec (k r.2.1 r.2.2) (fun _ => some r) (some r) r.1
noncomputable def onE (r : Res) (k : Nat → Option Res) : Option Res := Ex.rec (some r) (fun i => k i) (some r) r.1
noncomputable def loopK (body : AEnv → AH → Option Res) (k : Nat) : AEnv → AH → Option Res := Nat.rec (motive := fun _ => AEnv → AH → Option Res) (fun _ _ => none)
  (fun _ ih env H => ob (body env H) fun r => onN r fun e H1 => ddR e 0 fun e' => ih e' H1) k
theorem loopK_eq (body : AEnv → AH → Option Res) : ∀ (k : Nat) (env : AEnv) (H : AH), loopK body k env H = loopN body k env H := by
  intro k
  induction k with
  | zero => intro env H; rfl
  | succ k ih =>
    intro env H
    show (ob (body env H) fun r => onN r fun e H1 => ddR e 0 fun e' => loopK body k e' H1) = _
    rw [ob_eq]
    simp only [loopN]
    cases body env H with
    | none => rfl
    | some r =>
      obtain ⟨ex, e, H1⟩ := r
      cases ex with
      | normal => exact (ddR_eq e 0 fun e' => loopK body k e' H1).trans (ih _ _)
      | _ => rfl
noncomputable def compCode (P : Program) (n fuel : Nat) : Code → KC
  | .skip => ⟨fun _ _ _ env H => some (.normal, env, H)⟩
  | .region _ ops draw => ⟨fun callF callT f env H => ob ((compReg P n ops draw).run callF callT f env H) fun p => some (.normal, p)⟩
  | .seq a b => ⟨fun callF callT f env H => ob ((compCode P n fuel a).run callF callT f env H) fun r => onN r fun e H1 => (compCode P n fuel b).run callF callT f e H1⟩
  | .cond c t e => ⟨fun callF callT f env H => ob ((cv c).run env) fun s => match s.exact with
    | some (.bool true) => (compCode P n fuel t).run callF callT f env H
    | some (.bool false) => (compCode P n fuel e).run callF callT f env H
    | _ => none⟩
  | .block id c => ⟨fun callF callT f env H => ob ((compCode P n fuel c).run callF callT f env H) fun r => onE r fun id' => cnd (Nat.beq id' id) (some (.normal, r.2)) (some r)⟩
  | .loop c => ⟨fun callF callT f env H => loopK ((compCode P n fuel c).run callF callT f) fuel env H⟩
  | .exit id => ⟨fun _ _ _ env H => some (.exit id, env, H)⟩
  | .ret => ⟨fun _ _ _ env H => some (.ret, env, H)⟩
  | _ => ⟨fun _ _ _ _ _ => none⟩
theorem compCode_eq (P : Program) (n fuel : Nat) (callF callT : CallA) (f : Nat) : ∀ (c : Code) (env : AEnv) (H : AH), (compCode P n fuel c).run callF callT f env H = evCode P callF callT f n fuel c env H := by
  intro c
  induction c with
  | region id ops draw => intro env H; simp only [compCode, evCode, compReg_eq, ob_eq]
  | seq a b iha ihb =>
    intro env H
    simp only [compCode, evCode, iha, ob_eq]
    cases evCode P callF callT f n fuel a env H with
    | none => rfl
    | some r =>
      obtain ⟨ex, e, H1⟩ := r
      cases ex with
      | normal => exact ihb e H1
      | _ => rfl
  | cond c t e iht ihe => intro env H; simp only [compCode, evCode, iht, ihe, ob_eq, cv_eq] <;> rfl
  | block id c ih =>
    intro env H
    simp only [compCode, evCode, ih, ob_eq]
    cases evCode P callF callT f n fuel c env H with
    | none => rfl
    | some r =>
      obtain ⟨ex, e, H1⟩ := r
      cases ex with
      | exit i => exact cnd_eq _ _ _
      | _ => rfl
  | loop c ih =>
    intro env H
    simp only [compCode, evCode, loopK_eq]
    have : (compCode P n fuel c).run callF callT f = evCode P callF callT f n fuel c := by funext e H; exact ih e H
    rw [this]
  | _ => intros; rfl
end

section
variable [Rho]

def evRes1 (P : Program) (H : AH) (env : AEnv) : ResultVar → Option SV
  | .tmp t => lk t env
  | .cell t T => (lk t env).bind fun p => (deref H p).bind fun es => loadAs P T es
def evRess (P : Program) (H : AH) (env : AEnv) : List ResultVar → Option (List SV)
  | [] => some []
  | x :: r => (evRes1 P H env x).bind fun s => (evRess P H env r).bind fun l => some (s :: l)
def tupOf : List SV → Option (List (Bool × AV))
  | [] => some []
  | .one a :: r => (tupOf r).bind fun l => some ((false, a) :: l)
  | .agg a :: r => (tupOf r).bind fun l => some ((true, a) :: l)
  | _ => none
def evRes (P : Program) (H : AH) (env : AEnv) (l : List ResultVar) : Option SV := (evRess P H env l).bind fun ss => match ss with
  | [s] => some s
  | ss => (tupOf ss).bind fun l => some (.tup l)
def argEnv (i : Nat) : List SV → AEnv
  | [] => []
  | s :: r => (i, s) :: argEnv (i + 1) r
def evFn (P : Program) (callF callT : Call) (f fuel : Nat) : Call := fun fn args H =>
  (P.funcs[fn]?).bind fun F => F.body.bind fun c => req (Nat.ble args.length F.ntmps) ((evCode P callF callT f F.ntmps fuel c (argEnv 0 args) H).bind fun r => match r with
    | (.exit _, _, _) => none
    | (_, env, H1) => (evRes P H1 env F.results.toList).bind fun s => some (s, H1))

section
variable {n f : Nat} {N0 : Nat → Prop} {H : AH} {γ : Nat → Option Nat} {w : World} {env : AEnv} {a : Act}
theorem evRess_run {P : Program} (hF : FrR n env γ (Nn N0 γ) w a) (hS : St γ N0 H w) : ∀ (l : List ResultVar) (ss : List SV), evRess P H env l = some ss →
    ∃ vs, (l.mapM (fun | .tmp t => pure (a.tmps.getD t undef) | .cell x t => do loadVar t (← asAddr (a.tmps.getD x undef)) : ResultVar → Sem Value)).run P w = .ok vs w ∧ Caps γ (Nn N0 γ) w ss vs := by
  intro l
  induction l with
  | nil => intro ss h; cases h; exact ⟨[], rfl, .nil⟩
  | cons x r ih =>
    intro ss h
    obtain ⟨s, h1, h⟩ := bnd_some h
    obtain ⟨l', h2, h⟩ := bnd_some h
    cases h
    obtain ⟨vs, h3, h4⟩ := ih _ h2
    have key : ∃ v, ((match x with | .tmp t => pure (a.tmps.getD t undef) | .cell x t => do loadVar t (← asAddr (a.tmps.getD x undef)) : Sem Value)).run P w = .ok v w ∧ VR γ (Nn N0 γ) w s v := by
      cases x with
      | tmp t =>
        obtain ⟨v, h5, h6⟩ := hF.slot t s h1
        exact ⟨v, by simp [h5], h6⟩
      | cell t T =>
        obtain ⟨p, h5, h6⟩ := bnd_some h1
        obtain ⟨es, h7, h8⟩ := bnd_some h6
        obtain ⟨v, h9, h10⟩ := hF.slot t p h5
        obtain ⟨g, off, l, rfl, h11, h12⟩ := deref_spec hS h10 h7
        obtain ⟨v, h13, h14⟩ := loadAs_spec (P := P) h8 h11 h12
        exact ⟨v, by simp [h9, asAddr, h13], h14⟩
    obtain ⟨v, h5, h6⟩ := key
    refine ⟨v :: vs, ?_, .cons h6 h4⟩
    rw [List.mapM_cons, Sem.run_bind]
    have h5' := h5
    cases x with
    | tmp t => rw [h5', Result.andThen_ok, Sem.run_bind, h3, Result.andThen_ok]; rfl
    | cell t T => rw [h5', Result.andThen_ok, Sem.run_bind, h3, Result.andThen_ok]; rfl
theorem tupOf_spec {N : Nat → Prop} : ∀ {ss : List SV} {vs : List Value} {l : List (Bool × AV)}, Caps γ N w ss vs → tupOf ss = some l → PVs γ N w l vs := by
  intro ss
  induction ss with
  | nil => intro vs l h hl; cases h; cases hl; exact .nil
  | cons s ss ih =>
    intro vs l h hl
    cases h with
    | cons h1 h2 =>
      cases s with
      | one a =>
        obtain ⟨l', h3, h4⟩ := bnd_some hl
        cases h4
        exact .cons h1 (ih h2 h3)
      | agg a =>
        obtain ⟨l', h3, h4⟩ := bnd_some hl
        cases h4
        exact .cons h1 (ih h2 h3)
      | _ => cases hl
theorem evRes_run {P : Program} {F : Func} (hF : FrR n env γ (Nn N0 γ) w a) (hS : St γ N0 H w) {s : SV} (h : evRes P H env F.results.toList = some s) : ∃ v, (results F a.tmps).run P w = .ok v w ∧ VR γ (Nn N0 γ) w s v := by
  obtain ⟨ss, h1, h⟩ := bnd_some h
  obtain ⟨vs, h2, h3⟩ := evRess_run hF hS _ _ h1
  have hres : (results F a.tmps).run P w = .ok (if h : vs.toArray.size = 1 then vs.toArray[0] else .tuple vs.toArray) w := by
    unfold results
    rw [Sem.run_bind, Array.mapM_eq_mapM_toList, map_eq_pure_bind, Sem.run_bind]
    have h2' := h2
    erw [h2']
    rfl
  split at h
  · rename_i s1
    cases h
    cases h3 with
    | cons h4 h5 =>
      cases h5
      exact ⟨_, hres, h4⟩
  · rename_i hne
    obtain ⟨l, h4, h⟩ := bnd_some h
    cases h
    refine ⟨_, hres, vs, ?_, tupOf_spec h3 h4⟩
    rw [dif_neg]
    intro h5
    cases h3 with
    | nil => simp at h5
    | cons h6 h7 =>
      cases h7 with
      | nil => exact hne _ rfl
      | cons _ _ => simp at h5

theorem argEnv_spec {N : Nat → Prop} : ∀ {l : List SV} {vs : List Value} {i : Nat}, Caps γ N w l vs → ∀ t s, lk t (argEnv i l) = some s → i ≤ t ∧ ∃ v, vs[t - i]? = some v ∧ VR γ N w s v := by
  intro l
  induction l with
  | nil => intro vs i _ t s h; cases h
  | cons x l ih =>
    intro vs i hc t s h
    cases hc with
    | cons h1 h2 =>
      simp only [argEnv, lk] at h
      cases hb : Nat.beq i t with
      | true =>
        rw [hb] at h
        cases h
        have := Nat.eq_of_beq_eq_true hb
        subst this
        exact ⟨Nat.le_refl _, _, by simp, h1⟩
      | false =>
        rw [hb] at h
        obtain ⟨h3, v, h4, h5⟩ := ih h2 t s h
        refine ⟨by omega, v, ?_, h5⟩
        rw [show t - i = (t - (i + 1)) + 1 by omega, List.getElem?_cons_succ]; exact h4
theorem Caps.length {N : Nat → Prop} {l : List SV} {vs : List Value} (h : Caps γ N w l vs) : vs.length = l.length := by
  induction h with
  | nil => rfl
  | cons _ _ ih => simp [ih]

theorem evFn_ok {P : Program} (hP : P = Tryz.prog) {callF callT : Call} (hF : ∀ f, CallOk P f callF) (hT : CallOk P f callT) {fuel : Nat} : CallOk P f (evFn P callF callT f fuel) := by
  intro fn args H s H' h hf γ N0 w vs hS hc
  obtain ⟨F, h1, h⟩ := bnd_some h
  obtain ⟨c, h2, h⟩ := bnd_some h
  obtain ⟨h3, h⟩ := req_some h
  obtain ⟨r, h4, h⟩ := bnd_some h
  have hlen := hc.length
  have hle := Nat.le_of_ble_eq_true h3
  refine calls_of_wp h1 h2 ?_
  have hR : FrR F.ntmps (argEnv 0 args) γ (Nn N0 γ) w { tmps := vs.toArray ++ Array.replicate (F.ntmps - vs.toArray.size) undef, defers := [] } := by
    refine ⟨by simp; omega, rfl, fun t s ht => ?_⟩
    obtain ⟨_, v, h5, h6⟩ := argEnv_spec hc t s ht
    refine ⟨v, ?_, h6⟩
    have h7 : vs[t]? = some v := by simpa using h5
    have h8 : t < vs.length := (List.getElem?_eq_some_iff.1 h7).1
    rw [Array.getElem?_append_left (by simpa using h8)]
    simpa using h7
  refine wp_mono (evCode_ok hP hF hT c _ H r h4 hf γ _ w hR hS) ?_
  rintro e a' w' ⟨rfl, γ', h5, h6, h7⟩
  have done : ∀ {env1 : AEnv} {H1 : AH}, FrR F.ntmps env1 γ' (Nn N0 γ') w' a' → St γ' N0 H1 w' → Step f H γ w H1 γ' w' → ((evRes P H1 env1 F.results.toList).bind fun s => some (s, H1)) = some (s, H') →
      a'.defers = [] ∧ ∃ v, (results F a'.tmps).run P w' = .ok v w' ∧ ∃ v' γ'', Ending.returned v = .returned v' ∧ St γ'' N0 H' w' ∧ Step f H γ w H' γ'' w' ∧ VR γ'' (Nn N0 γ'') w' s v' := by
    intro env1 H1 k1 k2 k3 k4
    obtain ⟨s1, k5, k6⟩ := bnd_some k4
    cases k6
    obtain ⟨v, k7, k8⟩ := evRes_run (P := P) (F := F) k1 k2 k5
    exact ⟨k1.defers, v, k7, v, γ', rfl, k2, k3, k8⟩
  obtain ⟨ex, env1, H1⟩ := r
  cases ex with
  | exit id => cases h
  | normal => exact done h5 h6 h7 h
  | ret => exact done h5 h6 h7 h

/-- sound answers of other provenance -/
def OrOk (P : Program) (O : Nat → List SV → Option SV) : Prop := ∀ fn args s, O fn args = some s → ∀ γ N0 H w vs, St γ N0 H w → Caps γ (Nn N0 γ) w args vs →
  Calls P fn vs.toArray w fun e w' => ∃ v, e = .returned v ∧ Ext w w' ∧ VR γ (Nn N0 γ) w' s v
def frozenBy (g : Call) : Call := fun fn args H => (g fn args H).bind fun (s, H1) => (frzSV H1 H.n 100000 s).bind fun s' => some (s', H)
theorem frozen_ok {P : Program} {g : Nat → Call} (hg : ∀ f, CallOk P f (g f)) (f : Nat) : CallOk P f (fun fn args H => frozenBy (g H.n) fn args H) := by
  intro fn args H s H' h hf γ N0 w vs hS hc
  obtain ⟨⟨s1, H1⟩, h1, h⟩ := bnd_some h
  obtain ⟨s2, h2, h⟩ := bnd_some h
  cases h
  refine (hg H.n fn args H s1 H1 h1 (Nat.le_refl _) γ N0 w vs hS hc).mono ?_
  rintro e w' ⟨v, γ', rfl, h3, h4, h5⟩
  have hx : Ext w w' := h4.chg.ext (by
    rintro g ⟨b, hb, hg⟩
    have := hS.lt b g hg; omega)
  refine ⟨v, γ, rfl, hS.ext hx, .of_ext hS.lt hx, frzSV_spec h3 h4.old (fun b hb => ?_) (fun b g hb hg hn => ?_) h2 h5⟩
  · cases hγ : γ b with
    | none => rfl
    | some g => have := hS.lt b g hγ; omega
  · rcases h4.new b g hb hg with h6 | ⟨b0, h6, h7, _⟩
    · have := hS.nlt hn; omega
    · omega
def orElseO (O : Nat → List SV → Option SV) (c : Call) : Call := fun fn args H => match O fn args with
  | some s => some (s, H)
  | none => c fn args H
theorem orElse_ok {P : Program} {O : Nat → List SV → Option SV} (hO : OrOk P O) {c : Call} (hc : CallOk P f c) : CallOk P f (orElseO O c) := by
  intro fn args H s H' h hf γ N0 w vs hS hcs
  unfold orElseO at h
  split at h
  · rename_i s1 h1
    cases h
    refine (hO fn args s h1 γ N0 H w vs hS hcs).mono ?_
    rintro e w' ⟨v, rfl, hx, hv⟩
    exact ⟨v, γ, rfl, hS.ext hx, .of_ext hS.lt hx, hv⟩
  · exact hc fn args H s H' h hf γ N0 w vs hS hcs
theorem CallOk.pick {P : Program} {c c' : Call} (keep : Nat → Bool) (h : CallOk P f c) (h' : CallOk P f c') : CallOk P f (fun fn args H => cond (keep fn) (c fn args H) (c' fn args H)) := by
  intro fn args H s H' hh
  cases hk : keep fn with
  | true => simp only [hk, cond_true] at hh; exact h fn args H s H' hh
  | false => simp only [hk, cond_false] at hh; exact h' fn args H s H' hh

/-- calls, k deep: 'none': what they give is written no more; 'some f': functions of 'keep' give what may be written -/
def evC (P : Program) (O : Nat → List SV → Option SV) (keep : Nat → Bool) (fuel : Nat) : Nat → Option Nat → Call
  | 0, _ => fun _ _ _ => none
  | k + 1, none => orElseO O fun fn args H => frozenBy (evFn P (evC P O keep fuel k none) (evC P O keep fuel k (some H.n)) H.n fuel) fn args H
  | k + 1, some f => orElseO O fun fn args H => cond (keep fn) (evFn P (evC P O keep fuel k none) (evC P O keep fuel k (some f)) f fuel fn args H)
      (frozenBy (evFn P (evC P O keep fuel k none) (evC P O keep fuel k (some H.n)) H.n fuel) fn args H)
theorem evC_ok {P : Program} (hP : P = Tryz.prog) {O : Nat → List SV → Option SV} (hO : OrOk P O) {keep : Nat → Bool} {fuel : Nat} : ∀ k, (∀ f, CallOk P f (evC P O keep fuel k none)) ∧ ∀ f, CallOk P f (evC P O keep fuel k (some f)) := by
  intro k
  induction k with
  | zero => exact ⟨fun f fn args H s H' h => (by cases h), fun f fn args H s H' h => (by cases h)⟩
  | succ k ih =>
    have hfz : ∀ f, CallOk P f (fun fn args H => frozenBy (evFn P (evC P O keep fuel k none) (evC P O keep fuel k (some H.n)) H.n fuel) fn args H) := fun f =>
      frozen_ok (g := fun m => evFn P (evC P O keep fuel k none) (evC P O keep fuel k (some m)) m fuel) (fun m => evFn_ok hP ih.1 (ih.2 m)) f
    exact ⟨fun f => orElse_ok hO (hfz f), fun f => orElse_ok hO (CallOk.pick keep (evFn_ok hP ih.1 (ih.2 f)) (hfz f))⟩
end
end

section
variable [Rho]

structure KN where
  run : CallA → CallA → Nat → List SV → AH → Option (SV × AH)
noncomputable def compFn (P : Program) (fuel fn : Nat) : KN :=
  match P.funcs[fn]? with
  | none => ⟨fun _ _ _ _ _ => none⟩
  | some F => match F.body with
    | none => ⟨fun _ _ _ _ _ => none⟩
    | some c => ⟨fun callF callT f args H => rq (Nat.ble args.length F.ntmps) (ob ((compCode P F.ntmps fuel c).run callF callT f (argEnv 0 args) H) fun r => match r with
      | (.exit _, _, _) => none
      | (_, env, H1) => ob (evRes P H1 env F.results.toList) fun s => some (s, H1))⟩
theorem compFn_eq (P : Program) (callF callT : Call) (f fuel fn : Nat) (args : List SV) (H : AH) : (compFn P fuel fn).run callF callT f args H = evFn P callF callT f fuel fn args H := by
  unfold evFn compFn
  cases P.funcs[fn]? with
  | none => rfl
  | some F =>
    simp only [Option.bind_some]
    cases F.body with
    | none => rfl
    | some c => simp only [Option.bind_some, compCode_eq, ob_eq, rq_eq] <;> rfl
noncomputable def frozenK (g : AH → Option (SV × AH)) (H : AH) : Option (SV × AH) := ob (g H) fun p => ob (frzSV p.2 H.n 100000 p.1) fun s' => some (s', H)
/-- the staged evaluator -/
noncomputable def evK (P : Program) (O : Nat → List SV → Option SV) (keep : Nat → Bool) (fuel k : Nat) : Option Nat → Call := Nat.rec (motive := fun _ => Option Nat → Call) (fun _ _ _ _ => none)
  (fun _ ih m fn args H => Option.rec (motive := fun _ => Option (SV × AH)) (Option.rec (motive := fun _ => Option (SV × AH))
      (frozenK (fun H => (compFn P fuel fn).run (ih none) (ih (some H.n)) H.n args H) H)
      (fun f => cnd (keep fn) ((compFn P fuel fn).run (ih none) (ih (some f)) f args H) (frozenK (fun H => (compFn P fuel fn).run (ih none) (ih (some H.n)) H.n args H) H)) m)
    (fun s => some (s, H)) (O fn args)) k
theorem evK_eq (P : Program) (O : Nat → List SV → Option SV) (keep : Nat → Bool) (fuel : Nat) : ∀ k m, evK P O keep fuel k m = evC P O keep fuel k m := by
  intro k
  induction k with
  | zero => intro m; cases m <;> rfl
  | succ k ih =>
    intro m
    funext fn args H
    have hfz : ∀ H, frozenK (fun H => (compFn P fuel fn).run (evK P O keep fuel k none) (evK P O keep fuel k (some H.n)) H.n args H) H = frozenBy (evFn P (evC P O keep fuel k none) (evC P O keep fuel k (some H.n)) H.n fuel) fn args H := by
      intro H
      unfold frozenK frozenBy
      simp only [ob_eq, compFn_eq, ih]
    cases m with
    | none =>
      show (Option.rec (motive := fun _ => Option (SV × AH)) (frozenK _ H) (fun s => some (s, H)) (O fn args)) = orElseO O _ fn args H
      unfold orElseO
      cases O fn args with
      | some s => rfl
      | none => exact hfz H
    | some f =>
      show (Option.rec (motive := fun _ => Option (SV × AH)) (cnd (keep fn) ((compFn P fuel fn).run (evK P O keep fuel k none) (evK P O keep fuel k (some f)) f args H) (frozenK _ H)) (fun s => some (s, H)) (O fn args)) = orElseO O _ fn args H
      unfold orElseO
      cases O fn args with
      | some s => rfl
      | none =>
        have h1 : (compFn P fuel fn).run (evK P O keep fuel k none) (evK P O keep fuel k (some f)) f args H = evFn P (evC P O keep fuel k none) (evC P O keep fuel k (some f)) f fuel fn args H := by rw [compFn_eq, ih, ih]
        exact (cnd_eq _ _ _).trans (congr (congrArg (cond (keep fn)) h1) (hfz H))
theorem evK_ok {P : Program} (hP : P = Tryz.prog) {O : Nat → List SV → Option SV} (hO : OrOk P O) {keep : Nat → Bool} {fuel : Nat} (k f : Nat) : CallOk P f (evK P O keep fuel k none) := by
  rw [evK_eq]; exact (evC_ok hP hO k).1 f
end
end Go.Proofs.YteaggpgdfiodfaaGreatDoor
