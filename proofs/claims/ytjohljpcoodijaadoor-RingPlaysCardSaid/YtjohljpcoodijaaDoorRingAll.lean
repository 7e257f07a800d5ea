/- (*ring.Ring[int]).All; doffernum.SameInts of equal lists. -/
import Derived.Test.YtjohljpcoodijaaDoorRingI
import Derived.Deep.RegionHeld3
namespace Go.Proofs.YtjohljpcoodijaaDoor
open Go Go.RowKit Kt Rg
namespace RgI
theorem all_hid {l : List Int} : cells l = i64s l := rfl
set_option maxHeartbeats 2000000 in
set_option maxRecDepth 100000 in
theorem all_c (w : World) (p g room first : Nat) (q : List Int) (put taken : Nat) (h : Is w p g room first q put taken) :
    Calls Tryd.prog 54 #[.pointer (some ⟨p, 0, none⟩)] w fun e w' => ∃ v, e = .returned v ∧ w'.ownsRow w.heap.size 3 1 v q.length (i64s q) ∧ Below w.heap.size w w' := by
  have hm := h.hmany
  have hr := h.hroom
  have k2 := h.c2
  go_enter Tryd.func54, Tryd.ntmps54
  go_wp2
  go_loopw [3, 4, 9] (fun v _ i W => ∃ k : Nat, k ≤ q.length ∧ i = .int .i64 k ∧ W.ownsRow w.heap.size 3 1 v k (i64s (q.take k)) ∧ Below w.heap.size w W) (fun _ _ i _ => q.length - (intOf i).toNat)
  case atStart => exact ⟨0, Nat.zero_le _, rfl, World.ownsRow_nil _ _ _ _, Below.refl _ _⟩
  case round =>
    obtain ⟨k, hk, rfl, own, hB⟩ := hrel
    obtain ⟨va, vc, rfl, v1, v2, v3, v4⟩ := rd_own own
    by_cases hgo : k < q.length
    · have hI := h.below hB
      have htk : q.take (k + 1) = q.take k ++ [q[k]] := by simp
      have kg := hI.drew.gat k hgo
      have k0 := hI.drew.c0
      have k1 := hI.drew.c1
      have hf1 := hI.hfirst
      obtain ⟨ix, hix⟩ : ∃ ix, (first + k) % room = ix := ⟨_, rfl⟩
      have hixl : ix < room := by rw [← hix]; exact Nat.mod_lt _ (by omega)
      have hixi : (ix : Int) < room := by omega
      rw [hix] at kg
      obtain ⟨x, hxq⟩ : ∃ x, q[k] = x := ⟨_, rfl⟩
      rw [hxq] at kg htk
      simp only [fv] at kg
      have Htk := Lib.hid htk
      have Own := Lib.hid own
      have HB := Lib.hid hB
      have HI := Lib.hid hI
      clear htk own hB hI k2
      go_wp2
      go_region_held3 (fun w' => w'.cell? ⟨p, 0, none⟩ = some (.slice (some ⟨g, 0, none⟩) room room) ∧ w'.cell? ⟨g, ix, none⟩ = some (.int .i64 x))
        (first | exact ⟨k0, kg⟩ | exact s5 | exact s6 | exact s7)
        (first
          | (go_at_call 82; (with_reducible refine (slot_n k ix _ (by simp) _ p room first _ hix k0 k1 hf1 hr (by omega)).mono ?_); rintro e w5 ⟨rfl, n5, h5⟩
             have b5 : Below wr.heap.size wr w5 := by subst h5; exact below_drewN (Below.refl _ _).drew _
             have s5 : w5.cell? ⟨p, 0, none⟩ = some (.slice (some ⟨g, 0, none⟩) room room) ∧ w5.cell? ⟨g, ix, none⟩ = some (.int .i64 x) := by subst h5; exact ⟨k0, kg⟩
             have b6 := b5.alloc b5.size (.cells #[.int .i64 x] 3)
             have s6 : (w5.alloc (.cells #[.int .i64 x] 3)).cell? ⟨p, 0, none⟩ = some (.slice (some ⟨g, 0, none⟩) room room) ∧ (w5.alloc (.cells #[.int .i64 x] 3)).cell? ⟨g, ix, none⟩ = some (.int .i64 x) := by
               have hb := (Below.refl w5.heap.size w5).alloc (Nat.le_refl _) (.cells #[.int .i64 x] 3)
               exact ⟨by rw [World.cell?_of_block (hb.block p (lt_of_cell (p := ⟨p, 0, none⟩) s5.1))]; exact s5.1, by rw [World.cell?_of_block (hb.block g (lt_of_cell (p := ⟨g, ix, none⟩) s5.2))]; exact s5.2⟩
             obtain ⟨v', w2, hrun, own2, gr2, _⟩ := el.append w.heap.size (ty := 32) (own_keep Own.out b6) 1 1 rfl (Rd.new w5 #[.int .i64 x] 3 (0, 0) [fv x] rfl) (fun h => by cases h) (by intro u hu; simp at hu; subst hu; rfl) (by unfold maxLen; omega) (by omega) (by have := HB.out.size; have := b6.size; omega)
             have b7 : Below w.heap.size w w2 := (HB.out.trans (b6.mono HB.out.size)).grown gr2 (by have := HB.out.size; have := b6.size; omega) (fun j hj => ((own_keep Own.out b6).lt j hj).1)
             have i7 := h.below b7
             have s7 : w2.cell? ⟨p, 0, none⟩ = some (.slice (some ⟨g, 0, none⟩) room room) ∧ w2.cell? ⟨g, ix, none⟩ = some (.int .i64 x) := ⟨i7.c0, by have e := i7.gat k hgo; rw [hix, hxq] at e; exact e⟩)
          | ((with_reducible apply step_append_run hrun); rfl; rfl; rfl; rfl; rfl))
      have Own2 := Lib.hid own2
      have B7 := Lib.hid b7
      clear own2 b7 s5 s6 s7 b5 b6 i7 gr2 hrun k0 k1 kg
      go_wp2
      go_roundw
      case rel => exact ⟨k + 1, hgo, by go_num, by rw [Htk.out, i64s, List.map_append]; exact Own2.out, B7.out⟩
      case measure => simp [intOf]; omega
    · have : k = q.length := by omega
      subst this
      rw [List.take_of_length_le (Nat.le_refl _)] at own
      go_wp2
      go_ret
      exact ⟨_, rfl, own, hB⟩
end RgI
end Go.Proofs.YtjohljpcoodijaaDoor
