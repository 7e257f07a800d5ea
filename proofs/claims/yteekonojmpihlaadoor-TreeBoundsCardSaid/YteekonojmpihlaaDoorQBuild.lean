/- strings.Builder: WriteString and String of a builder of the call's own that nothing has read yet. -/
import Derived.Test.YteekonojmpihlaaDoorQEl8
import Derived.Test.YteekonojmpihlaaDoorQMod
import Derived.Lib.Builder
import Derived.Lib.AppendStr
import Derived.Lib.UnsafeStr
namespace Go.Proofs.YteekonojmpihlaaDoor
open Go Go.RowKit Kt
namespace Bu
/-- A builder at block b that holds the bytes l. -/
def Is (w : World) (B b : Nat) (l : List UInt8) : Prop := Lib.IsBuilder 180 5 B b (u8s l) w ∧ (l = [] → ∃ p, w.heap[b]? = some (.cells #[p, .slice none 0 0] 180 (0, 0)))
theorem sizeB : (Tryd.prog.info? 180).map (·.size) = some 2 := by kernel_rfl
set_option maxHeartbeats 1000000 in
set_option maxRecDepth 100000 in
theorem check_fresh (b : Nat) (w : World) (h0 : w.cell? ⟨b, 0, none⟩ = some (.pointer none)) (hsh : w.shape? b = some (180, 2)) (hfz : w.frozen? ⟨b, 0, none⟩ = false) :
    Calls Tryd.prog 143 #[.pointer (some ⟨b, 0, none⟩)] w fun e w' => e = .returned (.tuple #[]) ∧ w' = w.setCell ⟨b, 0, none⟩ (.pointer (some ⟨b, 0, none⟩)) := by
  obtain ⟨j, hj, hjs⟩ := Option.map_eq_some_iff.1 sizeB
  go_enter Tryd.func143, Tryd.ntmps143
  go_wp2
  rw [Lib.run_to_unsafe w ⟨b, 0, none⟩ Tryd.underlying178 Tryd.underlying200 hj (by rw [hjs]; decide) hsh (Nat.zero_lt_succ 1)]
  simp only [Result.andThen]
  rw [Oper.upon_value]
  go_wp2
  rw [run_callFunc_extern Tryd.func151 (by kernel_rfl) (by kernel_rfl) (by kernel_rfl) (e := Extern.AbiNoEscape.same) (by kernel_rfl)]
  rw [Lib.run_noEscape]
  simp only [Result.andThen]
  rw [Oper.upon_value]
  go_wp2
  rw [Lib.run_from_unsafe w ⟨b, 0, none⟩ Tryd.underlying200 Tryd.underlying178 hj hsh (by kernel_rfl)]
  simp only [Result.andThen]
  rw [Oper.upon_value]
  go_wp2
  go_end0
  exact ⟨rfl, rfl⟩
set_option maxHeartbeats 1000000 in
set_option maxRecDepth 100000 in
theorem check_used (b : Nat) (w : World) (h0 : w.cell? ⟨b, 0, none⟩ = some (.pointer (some ⟨b, 0, none⟩))) :
    Calls Tryd.prog 143 #[.pointer (some ⟨b, 0, none⟩)] w fun e w' => e = .returned (.tuple #[]) ∧ w' = w := by
  obtain ⟨j, hj, hjs⟩ := Option.map_eq_some_iff.1 sizeB
  have hne := Lib.run_neq_ptr_same (P := Tryd.prog) w ⟨b, 0, none⟩ Tryd.underlying178 hj
  go_enter Tryd.func143, Tryd.ntmps143
  go_wp2
  go_end0
  exact ⟨rfl, rfl⟩
theorem cells_u8s (s : List UInt8) : Lib.strCells (Str s) = u8s s := by simp [Lib.strCells, u8s, Str_toList]
set_option maxHeartbeats 2000000 in
set_option maxRecDepth 100000 in
/-- String of a builder that holds nothing and has no row. -/
theorem string_nil (b : Nat) (p : Value) (w : World) (hbk : w.heap[b]? = some (.cells #[p, .slice none 0 0] 180 (0, 0))) :
    Calls Tryd.prog 133 #[.pointer (some ⟨b, 0, none⟩)] w fun e w' => e = .returned (.string (Str [])) ∧ Below w.heap.size w w' := by
  have hUS := fun w => Lib.run_unsafeString_none (P := Tryd.prog) w 197 3 9 none
  have c1 : w.drew.cell? ⟨b, 1, none⟩ = some (.slice none 0 0) := by
    have : w.drew.heap[b]? = some (.cells #[p, .slice none 0 0] 180 (0, 0)) := hbk
    rw [Lib.cell_of_heap this]; rfl
  have hSD : (Builtin.unsafeSliceData_ #[129] 197 #[.slice none 0 0]).run Tryd.prog w.drew = .ok (.pointer none) w.drew := rfl
  have Hb := Lib.hid (Below.refl w.heap.size w).drew
  clear hbk
  go_enter Tryd.func133, Tryd.ntmps133
  go_wp2
  go_region
  all_goals (go_wp2; go_ret; exact ⟨rfl, Hb.out⟩)
set_option maxHeartbeats 2000000 in
set_option maxRecDepth 100000 in
theorem string_row (B b g cap : Nat) (l : List UInt8) (h0 : l ≠ []) (p : Value) (w : World) (hbk : w.heap[b]? = some (.cells #[p, .slice (some ⟨g, 0, none⟩) l.length cap] 180 (0, 0)))
    (hown : w.ownsRow B 5 1 (.slice (some ⟨g, 0, none⟩) l.length cap) l.length (u8s l)) :
    Calls Tryd.prog 133 #[.pointer (some ⟨b, 0, none⟩)] w fun e w' => e = .returned (.string (Str l)) ∧ Below B w w' := by
  have hl0 : l.length ≠ 0 := by simpa using h0
  obtain ⟨cur, hbg, hg, hnc, hcm, hcs⟩ : ∃ cur, B ≤ g ∧ w.heap[g]? = some (.cells cur 5 (0, 0)) ∧ l.length ≤ cap ∧ cap ≤ maxLen ∧ cur.size = cap * 1 := by
    rcases hown.2 with ⟨h, _⟩ | ⟨g', cap', cur, hv, h1, h2, h3, h4, h5, _⟩
    · cases h
    · cases hv
      exact ⟨cur, h1, h2, h3, h4, h5⟩
  have c1 : w.drew.cell? ⟨b, 1, none⟩ = some (.slice (some ⟨g, 0, none⟩) l.length cap) := by
    have : w.drew.heap[b]? = some (.cells #[p, .slice (some ⟨g, 0, none⟩) l.length cap] 180 (0, 0)) := hbk
    rw [Lib.cell_of_heap this]; rfl
  have hSD : (Builtin.unsafeSliceData_ #[129] 197 #[.slice (some ⟨g, 0, none⟩) l.length cap]).run Tryd.prog w.drew = .ok (.pointer (some ⟨g, 0, none⟩)) w.drew :=
    Lib.run_unsafeSliceData_row _ _ _ _ _ _ (by omega)
  have hUS : (Builtin.unsafeString_ #[197, 3] 9 #[.pointer (some ⟨g, 0, none⟩), .int .i64 l.length]).run Tryd.prog w.drew = .ok (.string (Str l)) (w.drew.freeze ⟨g, 0, none⟩ l.length) := by
    refine Lib.run_unsafeString_row w.drew 197 3 9 5 Tryd.underlying197 (by kernel_rfl) g cur.size (by have hg' : w.drew.heap[g]? = some (.cells cur 5 (0, 0)) := hg; simp [World.shape?, hg']) l h0 (by omega) (by unfold maxLen at hcm; omega) ?_
    intro j x hx
    have := hown.cells (g := g) rfl j (.int .u8 x.toNat) (by simp [u8s, hx])
    exact this
  have Hb := Lib.hid (Lib.below_freeze (Below.drew (Below.refl B w)) (p := ⟨g, 0, none⟩) hbg l.length)
  obtain ⟨n, hn⟩ : ∃ n, l.length = n := ⟨_, rfl⟩
  rw [hn] at c1 hSD hUS Hb
  clear hown hbk hg hnc hcm hcs hl0 h0 hn
  go_enter Tryd.func133, Tryd.ntmps133
  go_wp2
  go_region
  all_goals (go_wp2; go_ret; exact ⟨rfl, Hb.out⟩)
theorem string_c (B b : Nat) (l : List UInt8) (w : World) (h : Is w B b l) (hB : B ≤ w.heap.size) :
    Calls Tryd.prog 133 #[.pointer (some ⟨b, 0, none⟩)] w fun e w' => e = .returned (.string (Str l)) ∧ Below B w w' := by
  obtain ⟨h, hn⟩ := h
  by_cases hl : l = []
  · subst hl
    obtain ⟨p, hp⟩ := hn rfl
    exact (string_nil b p w hp).mono fun _ _ ⟨h1, h2⟩ => ⟨h1, h2.mono hB⟩
  · obtain ⟨p, hAt⟩ : ∃ p, Lib.BuilderAt 180 5 B b p (u8s l) w := by
      rcases h with h | h
      · exact ⟨_, h⟩
      · exact ⟨_, h⟩
    obtain ⟨_, v, hbk, hown, _⟩ := hAt
    rw [u8s_length] at hown
    have h0 : l.length ≠ 0 := by simpa using hl
    obtain ⟨g, cap, rfl⟩ : ∃ g cap, v = .slice (some ⟨g, 0, none⟩) l.length cap := by
      rcases hown.2 with ⟨_, h⟩ | ⟨g, cap, cur, hv, _⟩
      · exact absurd h h0
      · exact ⟨g, cap, hv⟩
    exact string_row B b g cap l hl p w hbk hown
end Bu
end Go.Proofs.YteekonojmpihlaaDoor
