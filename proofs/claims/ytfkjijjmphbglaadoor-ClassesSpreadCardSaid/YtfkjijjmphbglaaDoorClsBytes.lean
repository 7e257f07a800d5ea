/- (classes.Map).Bytes: a class's bytes. -/
import Derived.Test.YtfkjijjmphbglaaDoorArr
import Derived.Test.YtfkjijjmphbglaaDoorClsOf
import Derived.Test.YtfkjijjmphbglaaDoorSetsMix
namespace Go.Proofs.YtfkjijjmphbglaaDoor
open Go Go.RowKit Kt
namespace Cl
open Sb St
theorem other4 {w : World} {b k : Nat} {X : Option Obj} (hk : k ≠ b) (h : w.heap[k]? = X) (z0 z1 z2 z3 : Value) : ((((w.setCell ⟨b, 0, none⟩ z0).setCell ⟨b, 1, none⟩ z1).setCell ⟨b, 2, none⟩ z2).setCell ⟨b, 3, none⟩ z3).heap[k]? = X := by
  rw [block_setOther hk, block_setOther hk, block_setOther hk, block_setOther hk]
  exact h
def BtR (w : World) (C : List Int) (cls : Int) (i : Value) (W : World) : Prop := ∃ (k : Nat) (us : List Nat), k ≤ 256 ∧ i = .int .i64 (k : Int) ∧ IsSet us (fun c => decide (c < k) && decide (C.getD c 0 = cls)) ∧
  W.heap[w.heap.size + 1]? = some (.cells #[.int .u64 0, .int .u64 0, .int .u64 0, .int .u64 0] 56 (0, 0)) ∧ W.heap[w.heap.size + 1 + 1]? = some (.cells (St.vals us).toArray 56 (0, 0)) ∧ Below w.heap.size w W
set_option maxHeartbeats 8000000 in
set_option maxRecDepth 100000 in
theorem bytes_c (C : List Int) (many cls : Int) (hC : C.length = 256) (w : World) : Calls Tryd.prog 28 #[.agg (i64s (C ++ [many])).toArray, .int .i64 cls] w fun e w' => ∃ rs, e = .returned (sv rs) ∧ IsSet rs (fun c => decide (C.getD c 0 = cls)) ∧ Below w.heap.size w w' := by
  have hL : (i64s (C ++ [many])).length = 257 := by simp [i64s_length, hC]
  have b1 := heap_alloc_new w (.cells (i64s (C ++ [many])).toArray 30)
  have b2 := heap_alloc_new (w.alloc (.cells (i64s (C ++ [many])).toArray 30)) (.cells #[.int .u64 0, .int .u64 0, .int .u64 0, .int .u64 0] 56)
  have b3 := heap_alloc_new ((w.alloc (.cells (i64s (C ++ [many])).toArray 30)).alloc (.cells #[.int .u64 0, .int .u64 0, .int .u64 0, .int .u64 0] 56)) (.cells #[.int .u64 0, .int .u64 0, .int .u64 0, .int .u64 0] 56)
  have hl := load_arr (C := C) Tryd.underlying28 info28 hC (fun i x hx => by rw [List.getElem?_append_left (List.getElem?_eq_some_iff.1 hx).1]; exact hx) (block_alloc (x := .cells #[.int .u64 0, .int .u64 0, .int .u64 0, .int .u64 0] 56) (block_alloc (x := .cells #[.int .u64 0, .int .u64 0, .int .u64 0, .int .u64 0] 56) b1))
  have hB := (((Below.refl w.heap.size w).alloc (Nat.le_refl _) (.cells (i64s (C ++ [many])).toArray 30)).alloc (by simp) (.cells #[.int .u64 0, .int .u64 0, .int .u64 0, .int .u64 0] 56)).alloc (by simp; omega) (.cells #[.int .u64 0, .int .u64 0, .int .u64 0, .int .u64 0] 56)
  have r1 := block_alloc (x := .cells #[.int .u64 0, .int .u64 0, .int .u64 0, .int .u64 0] 56) b2
  (try simp only [World.size_alloc] at b3 r1)
  obtain ⟨W1, hW1⟩ : ∃ W1, ((w.alloc (.cells (i64s (C ++ [many])).toArray 30)).alloc (.cells #[.int .u64 0, .int .u64 0, .int .u64 0, .int .u64 0] 56)).alloc (.cells #[.int .u64 0, .int .u64 0, .int .u64 0, .int .u64 0] 56) = W1 := ⟨_, rfl⟩
  rw [hW1] at hl b3 r1 hB
  have HW1 := Lib.hid hW1
  have HC := Lib.hid hC
  have R0 := Lib.hid (show BtR w C cls (.int .i64 0) W1 from ⟨0, [0, 0, 0, 0], by omega, rfl, ⟨rfl, zero_set.lt, fun c hc => by rw [zero_set.at' c hc]; simp⟩, r1, b3, hB⟩)
  clear hW1 b1 b2 b3 r1 hB hC hL
  go_enter Tryd.func28, Tryd.ntmps28
  go_wp2_with fail
  rw [HW1.out]
  refine wp_load_run hl rfl rfl ?_
  go_wp2
  go_loopw [6, 7, 10] (fun _ _ i W => BtR w C cls i W) (fun _ _ i _ => 256 - (intOf i).toNat)
  case atStart => exact R0.out
  case round =>
    clear hl R0
    obtain ⟨k, us, hk, rfl, hus, hR, hU, hB⟩ := hrel
    by_cases hlt : k < 256
    · have hd : decide ((k : Int) < 256) = true := by simp; omega
      obtain ⟨x, hx⟩ : ∃ x, C[k]? = some x := ⟨_, List.getElem?_eq_getElem (by rw [HC.out]; exact hlt)⟩
      have hix := fun w => index_int Tryd.underlying28 k hlt hx w
      have hgd : C.getD k 0 = x := by rw [List.getD_eq_getElem?_getD, hx]; rfl
      have hcI : (k : Int) < 256 := by omega
      by_cases hxc : x = cls
      · have d1 : (x == cls) = true := by simpa using hxc
        obtain ⟨un, hun⟩ := exists_set (fun c => decide (c < k + 1) && decide (C.getD c 0 = cls))
        obtain ⟨sp, hspn⟩ := exists_set (fun q => decide (q = k))
        have sp1 := fun W => pin (one_c k hlt W) hspn (fun _ _ => rfl)
        have or1 := fun W => pin (or_c us sp _ _ hus hspn W) hun (fun c _ => by
          rw [Bool.eq_iff_iff]
          simp
          constructor
          · rintro (⟨h1, h2⟩ | rfl)
            · exact ⟨by omega, h2⟩
            · exact ⟨by omega, by have := hgd.trans hxc; rwa [List.getD_eq_getElem?_getD] at this⟩
          · rintro ⟨h1, h2⟩
            by_cases hck : c = k
            · exact .inr hck
            · exact .inl ⟨by omega, h2⟩)
        have Hun := Lib.hid hun
        have hw8 : IntKind.u8.wrap (k : Int) = (k : Int) := by rw [IntKind.wrap_u8]; omega
        obtain ⟨g0, g1, g2, g3, rfl⟩ := four hus.len
        obtain ⟨e0, e1, e2, e3, rfl⟩ := four hspn.len
        obtain ⟨f0, f1, f2, f3, rfl⟩ := four hun.len
        simp only [sv, St.vals, List.map_cons, List.map_nil] at sp1 or1 hU
        have c0 := cell_block hU 0
        have c1 := cell_block hU 1
        have c2 := cell_block hU 2
        have c3 := cell_block hU 3
        simp at c0 c1 c2 c3
        have hul := block_lt hU
        have hrl := block_lt hR
        have SP := Lib.hid sp1
        have OR := Lib.hid or1
        have sk : ∀ W, Below wr.heap.size wr W → (W.heap[w.heap.size + 1 + 1]? = some (.cells #[.int .u64 (g0 : Int), .int .u64 (g1 : Int), .int .u64 (g2 : Int), .int .u64 (g3 : Int)] 56 (0, 0))) := fun W hb => (hb.block _ hul).trans hU
        have sr : ∀ W, Below wr.heap.size wr W → (W.heap[w.heap.size + 1]? = some (.cells #[.int .u64 0, .int .u64 0, .int .u64 0, .int .u64 0] 56 (0, 0))) := fun W hb => (hb.block _ hrl).trans hR
        have SK := Lib.hid sk
        have SR := Lib.hid sr
        have HB := Lib.hid hB
        have z0 := (Below.refl wr.heap.size wr).drew
        clear sp1 or1 hU hR hB hus hspn hun sk sr hx hgd
        go_wp2_with fail
        go_region_law (first
          | (((with_reducible apply step_call (SP.out _) Tryd.func87 (by kernel_rfl) (by kernel_rfl)); rfl; rfl; rfl); rintro e w5 ⟨rfl, hb5⟩; refine ⟨_, rfl, ?_⟩; have z1 := z0.trans (hb5.mono z0.size)
             have i0 := cell_block (SK.out _ z1) 0
             have i1 := cell_block (SK.out _ z1) 1
             have i2 := cell_block (SK.out _ z1) 2
             have i3 := cell_block (SK.out _ z1) 3
             simp at i0 i1 i2 i3)
          | (((with_reducible apply step_call (OR.out _) Tryd.func86 (by kernel_rfl) (by kernel_rfl)); rfl; rfl; rfl); rintro e w6 ⟨rfl, hb6⟩; refine ⟨_, rfl, ?_⟩; have z2 := z1.trans (hb6.mono z1.size)
             have i0 := cell_block (SK.out _ z2) 0
             have i1 := cell_block (SK.out _ z2) 1
             have i2 := cell_block (SK.out _ z2) 2
             have i3 := cell_block (SK.out _ z2) 3
             have j0 := frozen_block (SK.out _ z2) 0
             have j1 := frozen_block (SK.out _ z2) 1
             have j2 := frozen_block (SK.out _ z2) 2
             have j3 := frozen_block (SK.out _ z2) 3
             simp at i0 i1 i2 i3))
        all_goals (
          have hu2 := store4 (SK.out _ z2) (.int .u64 (f0 : Int)) (.int .u64 (f1 : Int)) (.int .u64 (f2 : Int)) (.int .u64 (f3 : Int))
          have hr2 := other4 (show w.heap.size + 1 ≠ w.heap.size + 1 + 1 by omega) (SR.out _ z2) (.int .u64 (f0 : Int)) (.int .u64 (f1 : Int)) (.int .u64 (f2 : Int)) (.int .u64 (f3 : Int))
          have hb2 := (((((HB.out.trans (z2.mono HB.out.size)).setCell (p := ⟨w.heap.size + 1 + 1, 0, none⟩) (by simp; omega) (.int .u64 (f0 : Int))).setCell (p := ⟨w.heap.size + 1 + 1, 1, none⟩) (by simp; omega) (.int .u64 (f1 : Int))).setCell (p := ⟨w.heap.size + 1 + 1, 2, none⟩) (by simp; omega) (.int .u64 (f2 : Int))).setCell (p := ⟨w.heap.size + 1 + 1, 3, none⟩) (by simp; omega) (.int .u64 (f3 : Int)))
          have HU2 := Lib.hid hu2
          have HR2 := Lib.hid hr2
          have HB2 := Lib.hid hb2
          clear hu2 hr2 hb2 i0 i1 i2 i3 j0 j1 j2 j3
          go_wp2
          go_roundw
          case rel => first | exact ⟨k + 1, [f0, f1, f2, f3], hlt, by go_num, Hun.out, HR2.out, HU2.out, HB2.out⟩ | ((repeat apply Exists.intro); (refine ⟨?_, ?_⟩); rotate_left 1; (focus (and_intros <;> rfl)); exact ⟨k + 1, [f0, f1, f2, f3], hlt, by go_num, Hun.out, HR2.out, HU2.out, HB2.out⟩))
        all_goals (first | (simp [intOf]; omega) | skip)
      · have d1 : (x == cls) = false := by simpa using hxc
        have hus2 : IsSet us (fun c => decide (c < k + 1) && decide (C.getD c 0 = cls)) := ⟨hus.len, hus.lt, fun c hc => by
          rw [hus.at' c hc, Bool.eq_iff_iff]
          simp
          intro h2
          constructor
          · intro h1; omega
          · intro h1
            by_cases hck : c = k
            · subst hck
              rw [← List.getD_eq_getElem?_getD, hgd] at h2
              exact absurd h2 hxc
            · omega⟩
        have HU := Lib.hid hU
        have HR := Lib.hid hR
        have HB := Lib.hid hB
        have Hus := Lib.hid hus2
        clear hU hR hB hus hus2 hx hgd hxc
        go_wp2
        go_roundw
        case rel => exact ⟨k + 1, us, hlt, by go_num, Hus.out, HR.out, HU.out, HB.out⟩
        case measure => simp [intOf]; omega
    · have hk256 : k = 256 := by omega
      subst hk256
      have hd : decide (((256 : Nat) : Int) < 256) = false := by decide
      have hus2 : IsSet us (fun c => decide (C.getD c 0 = cls)) := ⟨hus.len, hus.lt, fun c hc => by
        rw [hus.at' c hc]
        simp [hc]⟩
      obtain ⟨g0, g1, g2, g3, rfl⟩ := four hus.len
      simp only [St.vals, List.map_cons, List.map_nil] at hU
      have c0 := cell_block hU 0
      have c1 := cell_block hU 1
      have c2 := cell_block hU 2
      have c3 := cell_block hU 3
      have k0 := cell_block hR 0
      have k1 := cell_block hR 1
      have k2 := cell_block hR 2
      have k3 := cell_block hR 3
      have j0 := frozen_block hR 0
      have j1 := frozen_block hR 1
      have j2 := frozen_block hR 2
      have j3 := frozen_block hR 3
      simp at c0 c1 c2 c3 k0 k1 k2 k3
      have HS := Lib.hid (store4 hR (.int .u64 (g0 : Int)) (.int .u64 (g1 : Int)) (.int .u64 (g2 : Int)) (.int .u64 (g3 : Int)))
      have HB := Lib.hid hB
      have Hus := Lib.hid hus2
      clear hU hR hB hus hus2
      go_wp2
      ((try simp only [Exit.inBlock, Exit.then]); refine bodyPost_ret (results_cell_row rfl _ _ (w.heap.size + 1) 56 _ (0, 0) _ rfl (HS.out) Tryd.underlying56 rfl ?hi1) rfl ?_; (case hi1 => kernel_rfl))
      exact ⟨_, rfl, Hus.out, (((HB.out.setCell (p := ⟨w.heap.size + 1, 0, none⟩) (by simp) _).setCell (p := ⟨w.heap.size + 1, 1, none⟩) (by simp) _).setCell (p := ⟨w.heap.size + 1, 2, none⟩) (by simp) _).setCell (p := ⟨w.heap.size + 1, 3, none⟩) (by simp) _⟩
end Cl
end Go.Proofs.YtfkjijjmphbglaaDoor
