import Derived.Test.YteekonojmpihlaaDoorRows
import Derived.Test.YteekonojmpihlaaDoorQTreePure
import Derived.Shelf.Strings.SplitCore
import Derived.Shelf.Strings.Search3
import Derived.Shelf.Strings.Count
import Derived.Shelf.Strings.OnBuilder
import Derived.Lib.SplitLaws
/- strings.Split at one blank, strings.Join at a blank: the library's contracts laid here, over lists of bytes. Condition: texts of at most 1000000 bytes. -/
namespace Go.Proofs.YteekonojmpihlaaDoor
open Go Go.RowKit Go.Shelf Kt
namespace Ac

def lays156_ren : Go.Shelf.Ren := ⟨fun | 156 => 135 | 165 => 146 | 166 => 130 | 169 => 133 | 240 => 143 | 241 => 153 | 276 => 151 | 277 => 155 | n => n,
  fun | 0 => 0 | 3 => 3 | 4 => 4 | 5 => 5 | 9 => 9 | 20 => 20 | 31 => 38 | 37 => 129 | 70 => 178 | 72 => 180 | 75 => 30 | 76 => 181 | 80 => 157 | 127 => 197 | 164 => 200 | n => n,
  fun n => n⟩
set_option maxRecDepth 100000 in
theorem lays156 : Go.Proofs.Lays.n156 Tryd.prog lays156_ren := {
  mixed := by kernel_rfl,
  f156 := Tryd.func135.trans (by kernel_rfl),
  f165 := Tryd.func146.trans (by kernel_rfl),
  f166 := Tryd.func130.trans (by kernel_rfl),
  f169 := Tryd.func133.trans (by kernel_rfl),
  f240 := Tryd.func143.trans (by kernel_rfl),
  f241 := Tryd.func153.trans (by kernel_rfl),
  f276 := Tryd.func151.trans (by kernel_rfl),
  f277 := Tryd.func155.trans (by kernel_rfl),
  t0 := by kernel_rfl,
  a0 := fun _ => by kernel_rfl,
  z0 := fun _ => by kernel_rfl,
  v0 := fun _ => by kernel_rfl,
  t3 := by kernel_rfl,
  a3 := fun _ => by kernel_rfl,
  z3 := fun _ => by kernel_rfl,
  v3 := fun _ => by kernel_rfl,
  t4 := by kernel_rfl,
  a4 := fun _ => by kernel_rfl,
  z4 := fun _ => by kernel_rfl,
  v4 := fun _ => by kernel_rfl,
  t9 := by kernel_rfl,
  a9 := fun _ => by kernel_rfl,
  z9 := fun _ => by kernel_rfl,
  v9 := fun _ => by kernel_rfl,
  t20 := by kernel_rfl,
  a20 := fun _ => by kernel_rfl,
  z20 := fun _ => by kernel_rfl,
  v20 := fun _ => by kernel_rfl,
  t31 := by kernel_rfl,
  a31 := fun _ => by kernel_rfl,
  z31 := fun _ => by kernel_rfl,
  v31 := fun _ => by kernel_rfl,
  t37 := by kernel_rfl,
  a37 := fun _ => by kernel_rfl,
  z37 := fun _ => by kernel_rfl,
  v37 := fun _ => by kernel_rfl,
  t70 := by kernel_rfl,
  a70 := fun _ => by kernel_rfl,
  z70 := fun _ => by kernel_rfl,
  v70 := fun _ => by kernel_rfl,
  t72 := by kernel_rfl,
  a72 := fun _ => by kernel_rfl,
  z72 := fun _ => by kernel_rfl,
  v72 := fun _ => by kernel_rfl,
  t75 := by kernel_rfl,
  a75 := fun _ => by kernel_rfl,
  z75 := fun _ => by kernel_rfl,
  v75 := fun _ => by kernel_rfl,
  t76 := by kernel_rfl,
  a76 := fun _ => by kernel_rfl,
  z76 := fun _ => by kernel_rfl,
  v76 := fun _ => by kernel_rfl,
  t127 := by kernel_rfl,
  a127 := fun _ => by kernel_rfl,
  z127 := fun _ => by kernel_rfl,
  v127 := fun _ => by kernel_rfl,
  t164 := by kernel_rfl,
  a164 := fun _ => by kernel_rfl,
  z164 := fun _ => by kernel_rfl,
  v164 := fun _ => by kernel_rfl }

end Ac
end Go.Proofs.YteekonojmpihlaaDoor

/- strings.Join with any text between: the library's contract laid, over lists of bytes. -/
namespace Go.Proofs.YteekonojmpihlaaDoor
open Go Go.RowKit Go.Shelf Kt
namespace Tr
open Ac
theorem extraJ : Builder.Extra Tryd.prog lays156_ren := {
  sizeBuilder := by kernel_rfl,
  liesBuilder := by kernel_rfl,
  t5 := by kernel_rfl,
  a5 := fun _ => by kernel_rfl,
  z5 := fun _ => by kernel_rfl,
  v5 := fun _ => by kernel_rfl,
  infoByte := by kernel_rfl,
  cellsByte := by kernel_rfl,
  sizeByte := by kernel_rfl,
  neB5 := by decide }
theorem elStr : El Tryd.prog 38 9 (.string ⟨#[]⟩) 1 16 := ⟨Tryd.underlying38, info_parts (by kernel_rfl), rfl, by decide⟩
theorem joinS_c {w : World} {a : Option Addr} {c n : Nat} (ws : List (List UInt8)) (sep : List UInt8) (hn : ws.length = n) (hr : Rd w a (ws.map fun t => Value.string (Str t))) (h0 : ws ≠ []) (hc : n ≤ c) (hN : n ≤ 1000000) (hl : (Lib.join ws sep).length ≤ 100000000) :
    Calls Tryd.prog 135 #[.slice a n c, .string (Str sep)] w fun e w' => e = .returned (.string (Str (Lib.join ws sep))) ∧ Below w.heap.size w w' := by
  subst hn
  obtain ⟨x, r, rfl⟩ : ∃ x r, ws = x :: r := by
    cases ws with
    | nil => exact absurd rfl h0
    | cons x r => exact ⟨x, r, rfl⟩
  obtain ⟨b, o, ha, hc0⟩ := hr 0 (.string (Str x)) rfl
  subst ha
  have hmap : ((x :: r).map Str).map (fun s : ByteArray => s.data.toList) = x :: r := by
    rw [List.map_map]
    have : (fun s : ByteArray => s.data.toList) ∘ Str = id := funext fun l => Str_toList l
    rw [this, List.map_id]
  have h := Any.strings_Join lays156 extraJ b o c ((x :: r).map Str) (Str sep) w (fun j y hj => by
      rw [List.getElem?_map] at hj
      obtain ⟨z, hz, rfl⟩ := Option.map_eq_some_iff.1 hj
      obtain ⟨b', o', he, hc'⟩ := hr j (.string (Str z)) (by rw [List.getElem?_map, hz]; rfl)
      simp only [Option.some.injEq, Addr.mk.injEq, and_true] at he
      obtain ⟨rfl, rfl⟩ := he
      exact hc') (lt_of_cell (p := ⟨b, o + 0, none⟩) hc0) (by simp at hN ⊢; omega) (by simpa using hc)
    (by rw [hmap, Str_toList]; omega)
  rw [hmap, Str_toList, List.length_map] at h
  exact h
end Tr
end Go.Proofs.YteekonojmpihlaaDoor
