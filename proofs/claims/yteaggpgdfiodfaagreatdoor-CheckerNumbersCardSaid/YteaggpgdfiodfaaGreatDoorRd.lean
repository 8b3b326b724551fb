/-
  Reading numbers: small functions. Conditions: none.
-/
import Derived.Test.YteaggpgdfiodfaaGreatDoorTxt
import Derived.WalkKit
import Derived.Shelf.RegionOpenPlain
import Derived.Lib.IndexBytes
import Derived.Lib.CutLaws
namespace Go.Proofs.YteaggpgdfiodfaaGreatDoor
set_option linter.all false
open Go.RowKit

theorem short1_spec (w : World) (n : ByteArray) : Calls Tryz.prog 14 #[.string n] w (fun e w' => Ext w w' ∧ e = .returned (.bool (decide (20 < n.size)))) := by
  go_enter Tryz.func14, Tryz.ntmps14
  go_wp2
  go_ret
  exact ⟨Ext.refl _, by congr 2; simp; omega⟩
def digs10 : List UInt8 := [48, 49, 50, 51, 52, 53, 54, 55, 56, 57]
theorem trim_digits (s : ByteArray) (w : World) (hs : s.size ≤ 9223372036854775807) : Calls Tryz.prog 57 #[.string s, .string ⟨#[48, 49, 50, 51, 52, 53, 54, 55, 56, 57]⟩] w fun e w' => e = .returned (.string ⟨(Lib.trimS s.data.toList digs10).toArray⟩) ∧ Ext w w' :=
  Any.strings_Trim_laid Tryz.lays160 (by kernel_rfl) s ⟨#[48, 49, 50, 51, 52, 53, 54, 55, 56, 57]⟩ w hs (by decide) (ascii_of_all (by decide))
def isDigits (l : List UInt8) : Bool := !l.isEmpty && (Lib.trimS l digs10).isEmpty
theorem digits_spec (w : World) (s : ByteArray) (hs : s.size ≤ 1000000) : Calls Tryz.prog 55 #[.string s] w (fun e w' => Ext w w' ∧ e = .returned (.bool (isDigits s.data.toList))) := by
  go_enter Tryz.func55, Tryz.ntmps55
  go_wp2_with (go_at_call 57; refine (trim_digits s _ (by omega)).mono ?_; rintro e w' ⟨rfl, hx⟩)
  · rename_i h
    rw [ByteArray.toList_eq] at h
    go_ret
    exact ⟨Ext.refl _, by simp [isDigits, h]⟩
  · rename_i h
    rw [ByteArray.toList_eq] at h
    go_ret
    exact ⟨hx, by simp [isDigits, ByteArray.toList_eq]⟩
/-- around the first slash -/
theorem index_slash (l : List UInt8) : Lib.index l [47] = Lib.indexByte l 47 := by
  exact Lib.index_one l 47
theorem lcut_spec (w : World) (s : ByteArray) (hs : s.size ≤ 1000000) : Calls Tryz.prog 99 #[.string s, .string ⟨#[47]⟩] w (fun e w' => Ext w w' ∧ e = .returned (.tuple #[.string ⟨(Lib.cut s.data.toList [47]).1.toArray⟩, .string ⟨(Lib.cut s.data.toList [47]).2.1.toArray⟩, .bool (Lib.cut s.data.toList [47]).2.2])) := by
  rcases Lib.indexB_cases s ⟨#[47]⟩ with hix | ⟨i, hix, hroom⟩
  · obtain ⟨e1, e2, e3⟩ := Lib.cutB_miss s ⟨#[47]⟩ hix
    have e1' : (⟨(Lib.cut s.data.toList [47]).1.toArray⟩ : ByteArray) = s := e1
    have e2' : (⟨(Lib.cut s.data.toList [47]).2.1.toArray⟩ : ByteArray) = ByteArray.empty := e2
    have e3' : (Lib.cut s.data.toList [47]).2.2 = false := e3
    rw [e1', e2', e3']
    have hb : Lib.indexByte s.data.toList 47 = -1 := by rw [← index_slash]; exact hix
    clear e1 e2 e3 e1' e2' e3' hix
    go_enter Tryz.func99, Tryz.ntmps99
    go_wp2_with (go_at_call 134; refine (Tryz.stringslite_Index_one s 47 _).mono ?_; rintro e w' ⟨rfl, rfl⟩; rw [hb])
    go_ret3
    exact ⟨Ext.refl _, rfl⟩
  · obtain ⟨e1, e2, e3⟩ := Lib.cutB_hit s ⟨#[47]⟩ i hix
    have e1' : (⟨(Lib.cut s.data.toList [47]).1.toArray⟩ : ByteArray) = s.extract 0 i := e1
    have e2' : (⟨(Lib.cut s.data.toList [47]).2.1.toArray⟩ : ByteArray) = s.extract (i + 1) s.size := e2
    have e3' : (Lib.cut s.data.toList [47]).2.2 = true := e3
    rw [e1', e2', e3']
    have hb : Lib.indexByte s.data.toList 47 = i := by rw [← index_slash]; exact hix
    have hroom' : i + 1 ≤ s.size := hroom
    have c1 : (0 : Int) ≤ ↑i := by omega
    have c2 : (↑i : Int) ≤ ↑s.size := by omega
    have c3 : (0 : Int) ≤ ↑i + 1 := by omega
    have c4 : (↑i + 1 : Int) ≤ ↑s.size := by omega
    have c5 : IntKind.i64.wrap ((i : Int) + 1) = (i : Int) + 1 := by rw [IntKind.wrap_i64]; omega
    have c6 : ((i : Int) + 1).toNat = i + 1 := by omega
    have mixed := follows
    clear e1 e2 e3 e1' e2' e3' hix hroom
    go_enter Tryz.func99, Tryz.ntmps99
    go_wp2_with (go_at_call 134; refine (Tryz.stringslite_Index_one s 47 _).mono ?_; rintro e w' ⟨rfl, rfl⟩; rw [hb])
    go_region_o
    go_wp2
    go_ret3
    exact ⟨Ext.drew _, rfl⟩
theorem cut_spec (w : World) (s : ByteArray) (hs : s.size ≤ 1000000) : Calls Tryz.prog 54 #[.string s, .string ⟨#[47]⟩] w (fun e w' => Ext w w' ∧ e = .returned (.tuple #[.string ⟨(Lib.cut s.data.toList [47]).1.toArray⟩, .string ⟨(Lib.cut s.data.toList [47]).2.1.toArray⟩, .bool (Lib.cut s.data.toList [47]).2.2])) := by
  go_enter Tryz.func54, Tryz.ntmps54
  go_wp2_with (go_at_call 99; refine (lcut_spec _ s hs).mono ?_; rintro e w' ⟨hx, rfl⟩)
  go_ret3
  exact ⟨hx, rfl⟩
end Go.Proofs.YteaggpgdfiodfaaGreatDoor
