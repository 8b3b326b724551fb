/-
  How integers and rationals lie in memory. Conditions: none.
-/
import Derived.Test.YteaggpgdfiodfaaGreatDoorProg
import Derived.Test.YteaggpgdfiodfaaGreatDoorOps
import Derived.Test.YteaggpgdfiodfaaGreatDoorDig
namespace Go.Proofs.YteaggpgdfiodfaaGreatDoor
set_option linter.all false
open Go.RowKit

/-- a slice of uint32 that reads as l -/
def Limbs (w : World) (v : Value) (l : List Nat) : Prop :=
  ∃ (A : Option Addr) (cap : Nat), v = .slice A l.length cap ∧ l.length ≤ cap ∧
    (0 < l.length → ∃ (g off : Nat) (cs : Array Value) (fr : Nat × Nat), A = some ⟨g, off, none⟩ ∧ w.heap[g]? = some (.cells cs 231 fr) ∧ ∀ (j x : Nat), l[j]? = some x → cs[off + j]? = some (.int .u32 (x : Int)))

theorem Limbs.ext {w w' : World} {v : Value} {l : List Nat} (h : Limbs w v l) (hx : Ext w w') : Limbs w' v l := by
  obtain ⟨A, cap, hv, hc, h⟩ := h
  exact ⟨A, cap, hv, hc, fun hl => by
    obtain ⟨g, off, cs, fr, h1, h2, h3⟩ := h hl
    exact ⟨g, off, cs, fr, h1, hx.heap h2, h3⟩⟩

theorem Limbs.upd {w w' : World} {v : Value} {l : List Nat} {g t : Nat} {cs : Array Value} (h : Limbs w v l) (hu : Upd g w w') (hB : Blk w g t cs) (ht : t ≠ 231) : Limbs w' v l := by
  obtain ⟨A, cap, hv, hc, h⟩ := h
  refine ⟨A, cap, hv, hc, fun hl => ?_⟩
  obtain ⟨g', off, ds, fr, h1, h2, h3⟩ := h hl
  refine ⟨g', off, ds, fr, h1, ?_, h3⟩
  have hne : g' ≠ g := by
    rintro rfl
    unfold Blk at hB
    rw [hB] at h2
    injection h2 with h2
    injection h2 with _ h4
    exact ht h4
  rw [hu.block g' hne]; exact h2
theorem Upd.setCell (w : World) (g i : Nat) (v : Value) : Upd g w (w.setCell ⟨g, i, none⟩ v) :=
  ⟨rfl, rfl, rfl, by simp [World.setCell], fun k hk => by simp only [World.setCell, Array.getElem?_modify]; rw [if_neg (by omega)]⟩
theorem Blk.set {w : World} {g t i : Nat} {cs : Array Value} {v : Value} (h : Blk w g t cs) : Blk (w.setCell ⟨g, i, none⟩ v) g t (cs.setIfInBounds i v) := by
  unfold Blk at h ⊢
  simp [World.setCell, Array.getElem?_modify, h]

/-- the two cells of an integer -/
def IntC (w : World) (c : List Value) (n : Int) : Prop :=
  ∃ (b : Bool) (m : Value) (l : List Nat), c = [.bool b, m] ∧ Limbs w m l ∧ Norm l ∧ (b = true → l ≠ []) ∧ n = if b then -(dval l : Int) else (dval l : Int)
theorem IntC.ext {w w' : World} {c : List Value} {n : Int} (h : IntC w c n) (hx : Ext w w') : IntC w' c n := by
  obtain ⟨b, m, l, h1, h2, h3⟩ := h
  exact ⟨b, m, l, h1, h2.ext hx, h3⟩

theorem IntC.length {w : World} {c : List Value} {n : Int} (h : IntC w c n) : c.length = 2 := by
  obtain ⟨b, m, l, rfl, _⟩ := h; rfl
/-- what a call returns: a value of which R holds; what was there is as it was -/
def Ret (w : World) (R : Pd) (e : Ending) (w' : World) : Prop := ∃ v, e = .returned v ∧ Ext w w' ∧ R v w'

end Go.Proofs.YteaggpgdfiodfaaGreatDoor
