/- strings.Join with any text between: the library's contract laid, over lists of bytes. -/
import Derived.Test.YteekonojmpihlaaDoorQActSplit
namespace Go.Proofs.YteekonojmpihlaaDoor
open Go Go.RowKit Go.Shelf Kt
namespace Tr
open Ac
theorem extraJ : Builder.Extra Tryd.prog lays156_ren := {
  sizeBuilder := by kernel_rfl,
  liesBuilder := by kernel_rfl,
  t5 := by kernel_rfl,
  a5 := fun _ => by kernel_rfl,
  z5 := fun _ => by kernel_rfl,
  v5 := fun _ => by kernel_rfl,
  infoByte := by kernel_rfl,
  cellsByte := by kernel_rfl,
  sizeByte := by kernel_rfl,
  neB5 := by decide }
theorem elStr : El Tryd.prog 38 9 (.string ⟨#[]⟩) 1 16 := ⟨Tryd.underlying38, info_parts (by kernel_rfl), rfl, by decide⟩
theorem joinS_c {w : World} {a : Option Addr} {c n : Nat} (ws : List (List UInt8)) (sep : List UInt8) (hn : ws.length = n) (hr : Rd w a (ws.map fun t => Value.string (Str t))) (h0 : ws ≠ []) (hc : n ≤ c) (hN : n ≤ 1000000) (hl : (Lib.join ws sep).length ≤ 100000000) :
    Calls Tryd.prog 135 #[.slice a n c, .string (Str sep)] w fun e w' => e = .returned (.string (Str (Lib.join ws sep))) ∧ Below w.heap.size w w' := by
  subst hn
  obtain ⟨x, r, rfl⟩ : ∃ x r, ws = x :: r := by
    cases ws with
    | nil => exact absurd rfl h0
    | cons x r => exact ⟨x, r, rfl⟩
  obtain ⟨b, o, ha, hc0⟩ := hr 0 (.string (Str x)) rfl
  subst ha
  have hmap : ((x :: r).map Str).map (fun s : ByteArray => s.data.toList) = x :: r := by
    rw [List.map_map]
    have : (fun s : ByteArray => s.data.toList) ∘ Str = id := funext fun l => Str_toList l
    rw [this, List.map_id]
  have h := Any.strings_Join lays156 extraJ b o c ((x :: r).map Str) (Str sep) w (fun j y hj => by
      rw [List.getElem?_map] at hj
      obtain ⟨z, hz, rfl⟩ := Option.map_eq_some_iff.1 hj
      obtain ⟨b', o', he, hc'⟩ := hr j (.string (Str z)) (by rw [List.getElem?_map, hz]; rfl)
      simp only [Option.some.injEq, Addr.mk.injEq, and_true] at he
      obtain ⟨rfl, rfl⟩ := he
      exact hc') (lt_of_cell (p := ⟨b, o + 0, none⟩) hc0) (by simp at hN ⊢; omega) (by simpa using hc)
    (by rw [hmap, Str_toList]; omega)
  rw [hmap, Str_toList, List.length_map] at h
  exact h
end Tr
end Go.Proofs.YteekonojmpihlaaDoor
