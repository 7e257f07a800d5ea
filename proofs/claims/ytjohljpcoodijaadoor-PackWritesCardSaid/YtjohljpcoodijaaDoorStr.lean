/- '[]byte(s)'. Over any program. -/
import Derived.Test.YtjohljpcoodijaaDoorLib
import Derived.Lib.ConvBytes
namespace Go.Proofs.YtjohljpcoodijaaDoor
open Go Go.RowKit
namespace Kt
theorem tobytes_run {P : Program} (w : World) {src dst e : TypeId} (hs : P.underlying src = some .string) (hd : P.underlying dst = some (.slice e)) (he : P.underlying e = some (.int .u8)) (l : List UInt8) (hl : l.length ≤ maxLen) :
    ∃ c w', (convert src dst (.string (Str l))).run P w = .ok (.slice (some ⟨w.heap.size, 0, none⟩) l.length c) w' ∧ Rd w' (some ⟨w.heap.size, 0, none⟩) (u8s l) ∧ Below w.heap.size w w' ∧ l.length ≤ c ∧ c ≤ maxLen := by
  have h := Lib.run_convert_string_bytes (P := P) w src dst e (Str l) hs hd he
  rw [Str_size] at h
  refine ⟨_, _, h, ?_, ?_, grownCap_ge _ _ _ _, grownCap_le_maxLen _ _ _ _ hl⟩
  · intro i x hi
    refine ⟨_, _, rfl, ?_⟩
    have hil : i < l.length := by have := (List.getElem?_eq_some_iff.1 hi).1; simpa [u8s] using this
    rw [Nat.zero_add, Lib.bytesWorld_cell w e (Str l) i (by rw [Str_size]; exact hil), Str_toList]
    rw [u8s, List.getElem?_map, List.getElem?_eq_getElem hil] at hi
    rw [List.getD_eq_getElem?_getD, List.getElem?_eq_getElem hil]
    simpa using hi
  · refine ⟨?_, ?_, ?_, by rw [Lib.bytesWorld_size]; omega, fun k hk => Lib.bytesWorld_at_old w e _ k hk⟩
    all_goals simp [Lib.bytesWorld, World.freeze, World.alloc, World.drew, -World.alloc_eq, -World.drew_eq]
end Kt
end Go.Proofs.YtjohljpcoodijaaDoor
