/- strings.Builder: WriteString and String of a builder of the call's own that nothing has read yet. -/
import Derived.Test.YtmfcabidmacdcaaDoorEl8
import Derived.Test.YtmfcabidmacdcaaDoorMod
import Derived.Lib.Builder
import Derived.Lib.AppendStr
import Derived.Lib.UnsafeStr
namespace Go.Proofs.YtmfcabidmacdcaaDoor
open Go Go.RowKit Kt
namespace Bu
/-- A builder at block b that holds the bytes l. -/
def Is (w : World) (B b : Nat) (l : List UInt8) : Prop := Lib.IsBuilder 111 5 B b (u8s l) w ∧ (l = [] → ∃ p, w.heap[b]? = some (.cells #[p, .slice none 0 0] 111 (0, 0)))
theorem new (w : World) (B : Nat) (hB : B ≤ w.heap.size) : Is (w.alloc (.cells #[.pointer none, .slice none 0 0] 111)) B w.heap.size [] :=
  ⟨.inl ⟨hB, _, heap_alloc_new w _, ⟨rfl, .inl ⟨rfl, rfl⟩⟩, by simp [Value.ownBlock]⟩, fun _ => ⟨_, heap_alloc_new w _⟩⟩
theorem is_below {w w' : World} {B b : Nat} {l : List UInt8} (h : Is w B b l) (hb : Below w.heap.size w w') : Is w' B b l := by
  obtain ⟨h, hn⟩ := h
  have key : ∀ p, Lib.BuilderAt 111 5 B b p (u8s l) w → Lib.BuilderAt 111 5 B b p (u8s l) w' := by
    rintro p ⟨hB, v, hbk, hown, hne⟩
    exact ⟨hB, v, by rw [hb.block b (block_lt hbk)]; exact hbk, own_keep hown hb, hne⟩
  refine ⟨?_, fun e => ?_⟩
  · rcases h with h | h
    · exact .inl (key _ h)
    · exact .inr (key _ h)
  · obtain ⟨p, hp⟩ := hn e
    exact ⟨p, by rw [hb.block b (block_lt hp)]; exact hp⟩
theorem sizeB : (Tryd.prog.info? 111).map (·.size) = some 2 := by kernel_rfl
set_option maxHeartbeats 1000000 in
set_option maxRecDepth 100000 in
theorem check_fresh (b : Nat) (w : World) (h0 : w.cell? ⟨b, 0, none⟩ = some (.pointer none)) (hsh : w.shape? b = some (111, 2)) (hfz : w.frozen? ⟨b, 0, none⟩ = false) :
    Calls Tryd.prog 111 #[.pointer (some ⟨b, 0, none⟩)] w fun e w' => e = .returned (.tuple #[]) ∧ w' = w.setCell ⟨b, 0, none⟩ (.pointer (some ⟨b, 0, none⟩)) := by
  obtain ⟨j, hj, hjs⟩ := Option.map_eq_some_iff.1 sizeB
  go_enter Tryd.func111, Tryd.ntmps111
  go_wp2
  rw [Lib.run_to_unsafe w ⟨b, 0, none⟩ Tryd.underlying109 Tryd.underlying223 hj (by rw [hjs]; decide) hsh (Nat.zero_lt_succ 1)]
  simp only [Result.andThen]
  rw [Oper.upon_value]
  go_wp2
  rw [run_callFunc_extern Tryd.func150 (by kernel_rfl) (by kernel_rfl) (by kernel_rfl) (e := Extern.AbiNoEscape.same) (by kernel_rfl)]
  rw [Lib.run_noEscape]
  simp only [Result.andThen]
  rw [Oper.upon_value]
  go_wp2
  rw [Lib.run_from_unsafe w ⟨b, 0, none⟩ Tryd.underlying223 Tryd.underlying109 hj hsh (by kernel_rfl)]
  simp only [Result.andThen]
  rw [Oper.upon_value]
  go_wp2
  go_end0
  exact ⟨rfl, rfl⟩
set_option maxHeartbeats 1000000 in
set_option maxRecDepth 100000 in
theorem check_used (b : Nat) (w : World) (h0 : w.cell? ⟨b, 0, none⟩ = some (.pointer (some ⟨b, 0, none⟩))) :
    Calls Tryd.prog 111 #[.pointer (some ⟨b, 0, none⟩)] w fun e w' => e = .returned (.tuple #[]) ∧ w' = w := by
  obtain ⟨j, hj, hjs⟩ := Option.map_eq_some_iff.1 sizeB
  have hne := Lib.run_neq_ptr_same (P := Tryd.prog) w ⟨b, 0, none⟩ Tryd.underlying109 hj
  go_enter Tryd.func111, Tryd.ntmps111
  go_wp2
  go_end0
  exact ⟨rfl, rfl⟩
theorem check_k (B b : Nat) (l : List UInt8) (w : World) (h : Is w B b l) :
    Calls Tryd.prog 111 #[.pointer (some ⟨b, 0, none⟩)] w fun e w' => e = .returned (.tuple #[]) ∧ Lib.BuilderAt 111 5 B b (.pointer (some ⟨b, 0, none⟩)) (u8s l) w' ∧ (l = [] → ∃ p, w'.heap[b]? = some (.cells #[p, .slice none 0 0] 111 (0, 0))) ∧ Below B w w' := by
  obtain ⟨h, hn⟩ := h
  rcases h with h | h
  · refine (check_fresh b w h.cell0 h.shape h.frozen0).mono ?_
    rintro e w' ⟨rfl, rfl⟩
    refine ⟨rfl, h.used _, fun e => ?_, (Below.refl B w).setCell (p := ⟨b, 0, none⟩) h.1 _⟩
    obtain ⟨p, hp⟩ := hn e
    exact ⟨.pointer (some ⟨b, 0, none⟩), by simp [World.setCell, Array.getElem?_modify, hp]⟩
  · refine (check_used b w h.cell0).mono ?_
    rintro e w' ⟨rfl, rfl⟩
    exact ⟨rfl, h, hn, Below.refl B _⟩
theorem cells_u8s (s : List UInt8) : Lib.strCells (Str s) = u8s s := by simp [Lib.strCells, u8s, Str_toList]
set_option maxHeartbeats 2000000 in
set_option maxRecDepth 100000 in
theorem write_c (B b : Nat) (l s : List UInt8) (w : World) (h : Is w B b l) (hlen : l.length + s.length ≤ 140737488355328) (hBw : B ≤ w.heap.size) :
    Calls Tryd.prog 53 #[.pointer (some ⟨b, 0, none⟩), .string (Str s)] w fun e w' => e = .returned (.tuple #[.int .i64 (s.length : Int), .nilIface]) ∧ Is w' B b (l ++ s) ∧ Below B w w' := by
  obtain ⟨i0, hi, hz0, hz1, hz2⟩ := Num.elU8.info
  have hss := Str_size s
  go_enter Tryd.func53, Tryd.ntmps53
  go_wp2_with fail
  refine (check_k B b l w h).mono ?_
  rintro e w1 ⟨rfl, h1, hnil, hb1⟩
  obtain ⟨hB, v, hbk, hown, hne⟩ := h1
  have hnv : l = [] → v = .slice none 0 0 := fun e => by
    obtain ⟨p, hp⟩ := hnil e
    rw [hbk] at hp
    simp at hp
    exact hp.2
  have c0 : w1.cell? ⟨b, 0, none⟩ = some (.pointer (some ⟨b, 0, none⟩)) := by rw [Lib.cell_of_heap hbk]; rfl
  have c1 : w1.cell? ⟨b, 1, none⟩ = some v := by rw [Lib.cell_of_heap hbk]; rfl
  rw [u8s_length] at hown
  clear h
  go_wp2_with (at_builtin; refine Lib.wpList_append_own_string _ rfl _ _ 40 9 rfl B 5 i0 Tryd.underlying40 Tryd.underlying9 hi hz0 hz1 hz2 _ _ _ rfl hown (Str s) rfl ?c3 ?c4 ?c5 ?_)
  case c3 => unfold maxLen; omega
  case c4 => omega
  case c5 => have := hb1.size; omega
  intro v' w2 hown' hgrow hiff
  have hlt : b < w1.heap.size := block_lt hbk
  have hb2 : w2.heap[b]? = some (.cells #[.pointer (some ⟨b, 0, none⟩), v] 111 (0, 0)) := by
    rw [hgrow.block b hlt (fun e => hne e.symm)]
    exact hbk
  have d0 : w2.cell? ⟨b, 0, none⟩ = some (.pointer (some ⟨b, 0, none⟩)) := by rw [Lib.cell_of_heap hb2]; rfl
  have d1 : w2.cell? ⟨b, 1, none⟩ = some v := by rw [Lib.cell_of_heap hb2]; rfl
  have f1 : w2.frozen? ⟨b, 1, none⟩ = false := Lib.frozen_of_heap hb2 1
  obtain ⟨ao, n', cap, rfl⟩ : ∃ ao n' cap, v' = .slice ao n' cap := by
    rcases hown'.2 with ⟨hv, _⟩ | ⟨g, cap, cur, hv, _⟩
    · exact ⟨_, _, _, hv⟩
    · exact ⟨_, _, _, hv⟩
  have hB1 : Below B w1 w2 := (Below.refl B w1).grown hgrow (by have := hb1.size; omega) (fun k hk => (hown.lt k hk).1)
  have HB := Lib.hid (hb1.trans hB1)
  rw [cells_u8s, ← u8s_append] at hown'
  have HN := Lib.hid (show l ++ s = [] → (Value.slice ao n' cap) = .slice none 0 0 from fun e => by
    obtain ⟨e1, e2⟩ := List.append_eq_nil_iff.1 e
    exact hiff.2 ⟨hnv e1, by first | exact e2 | (rw [hss, e2]; rfl)⟩)
  clear hiff hnv hnil
  have HO := Lib.hid hown'
  have Hb2 := Lib.hid hb2
  clear hown' hown hgrow hb1 hB1 hb2 hbk hne
  go_wp2
  go_ret2
  refine ⟨rfl, ⟨.inr ?_, fun e => ?_⟩, HB.out.setCell (p := ⟨b, 1, none⟩) hB _⟩
  rotate_left
  · rw [HN.out e]
    exact ⟨.pointer (some ⟨b, 0, none⟩), by simp [World.setCell, Array.getElem?_modify, Hb2.out]⟩
  exact Lib.BuilderAt.put hB Hb2.out (by rw [u8s_length, List.length_append]; exact HO.out) (by decide)
set_option maxHeartbeats 2000000 in
set_option maxRecDepth 100000 in
/-- String of a builder that holds nothing and has no row. -/
theorem string_nil (b : Nat) (p : Value) (w : World) (hbk : w.heap[b]? = some (.cells #[p, .slice none 0 0] 111 (0, 0))) :
    Calls Tryd.prog 56 #[.pointer (some ⟨b, 0, none⟩)] w fun e w' => e = .returned (.string (Str [])) ∧ Below w.heap.size w w' := by
  have hUS := fun w => Lib.run_unsafeString_none (P := Tryd.prog) w 186 3 9 none
  have c1 : w.drew.cell? ⟨b, 1, none⟩ = some (.slice none 0 0) := by
    have : w.drew.heap[b]? = some (.cells #[p, .slice none 0 0] 111 (0, 0)) := hbk
    rw [Lib.cell_of_heap this]; rfl
  have hSD : (Builtin.unsafeSliceData_ #[40] 186 #[.slice none 0 0]).run Tryd.prog w.drew = .ok (.pointer none) w.drew := rfl
  have Hb := Lib.hid (Below.refl w.heap.size w).drew
  clear hbk
  go_enter Tryd.func56, Tryd.ntmps56
  go_wp2
  go_region
  all_goals (go_wp2; go_ret; exact ⟨rfl, Hb.out⟩)
set_option maxHeartbeats 2000000 in
set_option maxRecDepth 100000 in
theorem string_row (B b g cap : Nat) (l : List UInt8) (h0 : l ≠ []) (p : Value) (w : World) (hbk : w.heap[b]? = some (.cells #[p, .slice (some ⟨g, 0, none⟩) l.length cap] 111 (0, 0)))
    (hown : w.ownsRow B 5 1 (.slice (some ⟨g, 0, none⟩) l.length cap) l.length (u8s l)) :
    Calls Tryd.prog 56 #[.pointer (some ⟨b, 0, none⟩)] w fun e w' => e = .returned (.string (Str l)) ∧ Below B w w' := by
  have hl0 : l.length ≠ 0 := by simpa using h0
  obtain ⟨cur, hbg, hg, hnc, hcm, hcs⟩ : ∃ cur, B ≤ g ∧ w.heap[g]? = some (.cells cur 5 (0, 0)) ∧ l.length ≤ cap ∧ cap ≤ maxLen ∧ cur.size = cap * 1 := by
    rcases hown.2 with ⟨h, _⟩ | ⟨g', cap', cur, hv, h1, h2, h3, h4, h5, _⟩
    · cases h
    · cases hv
      exact ⟨cur, h1, h2, h3, h4, h5⟩
  have c1 : w.drew.cell? ⟨b, 1, none⟩ = some (.slice (some ⟨g, 0, none⟩) l.length cap) := by
    have : w.drew.heap[b]? = some (.cells #[p, .slice (some ⟨g, 0, none⟩) l.length cap] 111 (0, 0)) := hbk
    rw [Lib.cell_of_heap this]; rfl
  have hSD : (Builtin.unsafeSliceData_ #[40] 186 #[.slice (some ⟨g, 0, none⟩) l.length cap]).run Tryd.prog w.drew = .ok (.pointer (some ⟨g, 0, none⟩)) w.drew :=
    Lib.run_unsafeSliceData_row _ _ _ _ _ _ (by omega)
  have hUS : (Builtin.unsafeString_ #[186, 3] 9 #[.pointer (some ⟨g, 0, none⟩), .int .i64 l.length]).run Tryd.prog w.drew = .ok (.string (Str l)) (w.drew.freeze ⟨g, 0, none⟩ l.length) := by
    refine Lib.run_unsafeString_row w.drew 186 3 9 5 Tryd.underlying186 (by kernel_rfl) g cur.size (by have hg' : w.drew.heap[g]? = some (.cells cur 5 (0, 0)) := hg; simp [World.shape?, hg']) l h0 (by omega) (by unfold maxLen at hcm; omega) ?_
    intro j x hx
    have := hown.cells (g := g) rfl j (.int .u8 x.toNat) (by simp [u8s, hx])
    exact this
  have Hb := Lib.hid (Lib.below_freeze (Below.drew (Below.refl B w)) (p := ⟨g, 0, none⟩) hbg l.length)
  obtain ⟨n, hn⟩ : ∃ n, l.length = n := ⟨_, rfl⟩
  rw [hn] at c1 hSD hUS Hb
  clear hown hbk hg hnc hcm hcs hl0 h0 hn
  go_enter Tryd.func56, Tryd.ntmps56
  go_wp2
  go_region
  all_goals (go_wp2; go_ret; exact ⟨rfl, Hb.out⟩)
theorem string_c (B b : Nat) (l : List UInt8) (w : World) (h : Is w B b l) (hB : B ≤ w.heap.size) :
    Calls Tryd.prog 56 #[.pointer (some ⟨b, 0, none⟩)] w fun e w' => e = .returned (.string (Str l)) ∧ Below B w w' := by
  obtain ⟨h, hn⟩ := h
  by_cases hl : l = []
  · subst hl
    obtain ⟨p, hp⟩ := hn rfl
    exact (string_nil b p w hp).mono fun _ _ ⟨h1, h2⟩ => ⟨h1, h2.mono hB⟩
  · obtain ⟨p, hAt⟩ : ∃ p, Lib.BuilderAt 111 5 B b p (u8s l) w := by
      rcases h with h | h
      · exact ⟨_, h⟩
      · exact ⟨_, h⟩
    obtain ⟨_, v, hbk, hown, _⟩ := hAt
    rw [u8s_length] at hown
    have h0 : l.length ≠ 0 := by simpa using hl
    obtain ⟨g, cap, rfl⟩ : ∃ g cap, v = .slice (some ⟨g, 0, none⟩) l.length cap := by
      rcases hown.2 with ⟨_, h⟩ | ⟨g, cap, cur, hv, _⟩
      · exact absurd h h0
      · exact ⟨g, cap, hv⟩
    exact string_row B b g cap l hl p w hbk hown
end Bu
end Go.Proofs.YtmfcabidmacdcaaDoor
