/- dofferlaw29.RingTypes returns true. Condition: the sentinels read as laid. -/
import Derived.Test.YtjohljpcoodijaaDoorRingTwo
import Derived.Test.YtjohljpcoodijaaDoorRingActs
import Derived.Test.YtjohljpcoodijaaDoorNum
import Derived.Deep.RegionHeld3
namespace Go.Proofs.YtjohljpcoodijaaDoor
open Go Go.RowKit Kt Rg
namespace RgT
open RgA (c2)
theorem keep2 {S : List Nat} {W W' : World} {z : Nat} {v u : Value} (hM : Mod S W W') (hz : z ∉ S) (h : W.cell? ⟨z, 0, none⟩ = some v ∧ W.cell? ⟨z, 1, none⟩ = some u) : W'.cell? ⟨z, 0, none⟩ = some v ∧ W'.cell? ⟨z, 1, none⟩ = some u :=
  ⟨by rw [hM.cell (p := ⟨z, 0, none⟩) (lt_of_cell (p := ⟨z, 0, none⟩) h.1) hz]; exact h.1, by rw [hM.cell (p := ⟨z, 1, none⟩) (lt_of_cell (p := ⟨z, 1, none⟩) h.2) hz]; exact h.2⟩

set_option maxHeartbeats 4000000 in
set_option maxRecDepth 100000 in
theorem types_c (A : Nat → Addr) (room0 : Int) (a : Option Addr) (cap : Nat) (l : List (Int × Int)) (w : World) (hl : l.length ≤ 9223372036854775807) (hr : Rd w a (l.flatMap c2)) (hs : Sent 152 w A Er.egs) :
    Calls Tryd.prog 6 #[.int .i64 room0, .slice a l.length cap] w fun e w' => e = .returned (.bool true) ∧ Below w.heap.size w w' := by
  by_cases h100 : l.length ≤ 100
  · have hd : decide (100 < (l.length : Int)) = false := by simp; omega
    obtain ⟨room, hroom, h1, h2⟩ : ∃ room : Nat, wrap64 (1 + wrap64 ((IntKind.u64.wrap room0).tmod 32)) = (room : Int) ∧ 1 ≤ room ∧ room ≤ 32 := by
      have h0 := wrap_u64_nonneg room0
      generalize IntKind.u64.wrap room0 = u at *
      have e : u.tmod 32 = u % 32 := by rw [Int.tmod_eq_emod_of_nonneg h0]
      rw [e, IntWalk.wrap64_in (u % 32) ⟨by omega, by omega⟩, IntWalk.wrap64_in _ ⟨by omega, by omega⟩]
      exact ⟨(1 + u % 32).toNat, by omega, by omega, by omega⟩
    go_enter Tryd.func6, Tryd.ntmps6
    go_wp2_with (go_at_call 26; refine (RgA.alive_c A _ hs).mono ?_; rintro e w1 ⟨rfl, hb1⟩)
    rw [hroom]
    refine (RgI.new_ok room _ rfl w1 h1 h2).mono ?_
    rintro e w2 ⟨p, g, rfl, hI, hp, hg, hb2⟩
    go_wp2_with fail
    refine (RgL.new_ok room _ rfl w2 h1 h2).mono ?_
    rintro e w3 ⟨p2, g2, rfl, hI2, hp2, hg2, hb3⟩
    have hS : St w w3 p g p2 g2 room 0 0 [] [] [] 0 0 0 0 := by
      have := hb1.size
      have := hb2.size
      have a1 := hI.plt
      have a2 := hI.glt
      exact ⟨hI.below hb3, hI2, Prs.nil _ _, (hb1.trans (hb2.mono hb1.size)).trans (hb3.mono (by omega)), by omega, by omega, by omega, by omega, by omega, by omega, by omega, by omega⟩
    clear hI hI2 hb1 hb2 hb3 hp hg hp2 hg2
    go_wp2
    go_loopw [10, 11, 12, 13, 42, 78] (fun _ _ _ _ i _ W => ∃ k q qb n tk f f2, k ≤ l.length ∧ i = .int .i64 (k : Nat) ∧ n + tk + q.length ≤ 2 * k ∧ St w W p g p2 g2 room f f2 q q qb n n tk tk) (fun _ _ _ _ i _ _ => l.length - (intOf i).toNat)
    case atStart => exact ⟨0, [], [], 0, 0, 0, 0, Nat.zero_le _, rfl, by simp, hS⟩
    case round =>
      obtain ⟨k, q, qb, n, tk, f, f2, hk, rfl, hn, hS⟩ := hrel
      by_cases hlt : k < l.length
      · obtain ⟨b, off, ha, hcs⟩ := (hr.keep hS.B).struct 2 (by intro z _; rfl) k hlt (by omega)
        have k0 := hcs 0 _ rfl (by omega)
        have k1 := hcs 1 _ rfl (by omega)
        clear hr hcs
        subst ha
        generalize l[k] = act at *
        obtain ⟨kd, m⟩ := act
        simp only [Nat.add_zero] at k0 k1
        rw [← Nat.add_assoc] at k1
        have hqb : qb.length = q.length := hS.pr.1
        have hzS : wr.heap.size ∉ [p, g, p2, g2] := fun hm => Nat.lt_irrefl _ (hS.lts _ hm)
        by_cases hkd : kd = 0
        · subst hkd
          have HS := Lib.hid (hS.alloc (.cells #[.int .i64 0, .int .i64 m] 50))
          have HB := Lib.hid hS.B
          clear hS
          by_cases hq : q.length < room
          · have z0 : (wr.alloc (.cells #[.int .i64 0, .int .i64 m] 50)).drew.cell? ⟨wr.heap.size, 0, none⟩ = some (.int .i64 0) := cell_block (heap_alloc_new wr _) 0
            have z1 : (wr.alloc (.cells #[.int .i64 0, .int .i64 m] 50)).drew.cell? ⟨wr.heap.size, 1, none⟩ = some (.int .i64 m) := cell_block (heap_alloc_new wr _) 1
            obtain ⟨z, hz⟩ : ∃ z, wr.heap.size = z := ⟨_, rfl⟩
            go_wp2_with fail
            rw [hz] at z0 z1 hzS
            go_region_held3 (fun w' => w'.cell? ⟨z, 0, none⟩ = some (.int .i64 0) ∧ w'.cell? ⟨z, 1, none⟩ = some (.int .i64 m))
              (first | exact ⟨z0, z1⟩ | exact keep2 y5 hzS (by assumption) | exact keep2 y5 hzS ⟨z0, z1⟩ | exact keep2 (((Mod.refl [p, g, p2, g2] (wr.alloc (.cells #[.int .i64 0, .int .i64 m] 50))).alloc _).drew) hzS ⟨z0, z1⟩ | go_keep)
              (first
                | (go_at_call 35; (with_reducible refine (putA m (by first | exact HS.out.drew | exact (HS.out.alloc _).drew) hq (by omega)).mono ?_); rintro e w5 ⟨rfl, hS5, hM5⟩
                   have y5 := hM5)
                | (go_at_call 34; (with_reducible refine (Er.num_nil _).mono ?_); rintro e w6 ⟨rfl, rfl⟩)
                | (go_at_call 36; (with_reducible refine (putB (some ⟨_, 0, none⟩, 2, 2) m (by first | exact hS5 | exact hS5.alloc _) (by first | exact ((Pr.new _ _ #[.int .i64 m, .int .i64 0] _ _ rfl HS.out.lts _ (by rw [World.size_alloc, hz])).mod ((Mod.refl _ _).drew)).mod hM5 | exact Pr.new _ _ #[.int .i64 m, .int .i64 0] _ _ rfl hS5.lts _ rfl) (by omega) (by omega)).mono ?_); rintro e w7 ⟨rfl, hS7, hM7⟩
                   have y5 := hM7))
            all_goals
              have HS7 := Lib.hid hS7
              clear hS7 hM7 hS5 hM5 z0 z1
              go_wp2
              go_roundw
              case rel => exact ⟨k + 1, q ++ [m], _, n + 1, tk, f, f2, by omega, by go_num, by simp; omega, HS7.out⟩
              case measure => simp [intOf]; omega
          · have hqr : q.length = room := by have := HS.out.a.hmany; omega
            have z0 : (wr.alloc (.cells #[.int .i64 0, .int .i64 m] 50)).drew.cell? ⟨wr.heap.size, 0, none⟩ = some (.int .i64 0) := cell_block (heap_alloc_new wr _) 0
            have z1 : (wr.alloc (.cells #[.int .i64 0, .int .i64 m] 50)).drew.cell? ⟨wr.heap.size, 1, none⟩ = some (.int .i64 m) := cell_block (heap_alloc_new wr _) 1
            obtain ⟨z, hz⟩ : ∃ z, wr.heap.size = z := ⟨_, rfl⟩
            go_wp2_with fail
            rw [hz] at z0 z1 hzS
            go_region_held3 (fun w' => w'.cell? ⟨z, 0, none⟩ = some (.int .i64 0) ∧ w'.cell? ⟨z, 1, none⟩ = some (.int .i64 m))
              (first | exact ⟨z0, z1⟩ | exact keep2 y5 hzS (by assumption) | exact keep2 y5 hzS ⟨z0, z1⟩ | exact keep2 (((Mod.refl [p, g, p2, g2] (wr.alloc (.cells #[.int .i64 0, .int .i64 m] 50))).alloc _).drew) hzS ⟨z0, z1⟩ | go_keep)
              (first
                | (go_at_call 35; (with_reducible refine (fullA hs _ (by first | exact HS.out.drew | exact (HS.out.alloc _).drew) hqr).mono ?_); rintro e w5 ⟨rfl, hS5, hM5⟩
                   have y5 := hM5)
                | (go_at_call 34; (with_reducible refine (numF hs (by first | exact hS7 | exact hS5 | exact hS5.alloc _)).mono ?_); rintro e w6 ⟨rfl, hS6, hM6⟩
                   have y5 := hM6)
                | (go_at_call 36; (with_reducible refine (fullB hs _ (by first | exact hS6 | exact hS6.alloc _) (by omega)).mono ?_); rintro e w7 ⟨rfl, hS7, hM7⟩
                   have y5 := hM7))
            all_goals
              have HS7 := Lib.hid hS6
              clear z0 z1
              go_wp2
              go_roundw
              case rel => exact ⟨k + 1, q, qb, n, tk, f, f2, by omega, by go_num, by omega, HS7.out⟩
              case measure => simp [intOf]; omega
        · have hkb : (kd == 0) = false := by simp [hkd]
          have HS := Lib.hid (hS.alloc (.cells #[.int .i64 kd, .int .i64 m] 50))
          clear hS
          obtain ⟨tl, htl⟩ : ∃ tl, (q.take m.toNat).length = tl := ⟨_, rfl⟩
          have htlb : (qb.take m.toNat).length = tl := by rw [← htl, List.length_take, List.length_take, hqb]
          have htl2 : tl + (q.drop m.toNat).length = q.length := by rw [← htl, ← List.length_append, List.take_append_drop]
          have z0 : (wr.alloc (.cells #[.int .i64 kd, .int .i64 m] 50)).drew.cell? ⟨wr.heap.size, 0, none⟩ = some (.int .i64 kd) := cell_block (heap_alloc_new wr _) 0
          have z1 : (wr.alloc (.cells #[.int .i64 kd, .int .i64 m] 50)).drew.cell? ⟨wr.heap.size, 1, none⟩ = some (.int .i64 m) := cell_block (heap_alloc_new wr _) 1
          obtain ⟨z, hz⟩ : ∃ z, wr.heap.size = z := ⟨_, rfl⟩
          go_wp2_with fail
          rw [hz] at z0 z1 hzS
          go_region_held3 (fun w' => w'.cell? ⟨z, 0, none⟩ = some (.int .i64 kd) ∧ w'.cell? ⟨z, 1, none⟩ = some (.int .i64 m))
            (first | exact ⟨z0, z1⟩ | exact keep2 y5 hzS (by assumption) | exact keep2 y5 hzS ⟨z0, z1⟩ | go_keep)
            (first
              | (go_at_call 37; (with_reducible refine (takeA m tl htl HS.out.drew (by omega)).mono ?_); rintro e w5 ⟨a5, c5, f5, rfl, r5, n5, hS5, hM5⟩
                 have y5 := hM5)
              | (go_at_call 38; (with_reducible refine (takeB m tl htlb hS5 (by omega)).mono ?_); rintro e w7 ⟨a7, c7, f7, rfl, r7, hS7, hM7, pr7⟩
                 have y5 := hM7))
          have r5' := r5.mod hM7 n5
          have hat : ∀ j, j < tl → ∃ b5 o5 b7 o7 bj v, a5 = some ⟨b5, o5, none⟩ ∧ a7 = some ⟨b7, o7, none⟩ ∧ w7.cell? ⟨b5, o5 + j, none⟩ = some (.int .i64 v) ∧ w7.cell? ⟨b7, o7 + j, none⟩ = some (.slice (some ⟨bj, 0, none⟩) 2 2) ∧ w7.cell? ⟨bj, 0, none⟩ = some (.int .i64 v) := by
            intro j hj
            have e1 : (q.take m.toNat)[j]? = some ((q.take m.toNat)[j]'(by omega)) := List.getElem?_eq_getElem _
            have e2 : (qb.take m.toNat)[j]? = some ((qb.take m.toNat)[j]'(by omega)) := List.getElem?_eq_getElem _
            obtain ⟨bj, h1, h2, _⟩ := pr7.2 j _ _ e2 e1
            obtain ⟨b5, o5, h3, h4⟩ := r5' j _ (by rw [i64s, List.getElem?_map, e1]; rfl)
            obtain ⟨b7, o7, h5, h6⟩ := r7 j _ (by rw [List.getElem?_map, e2]; rfl)
            rw [h1] at h6
            exact ⟨b5, o5, b7, o7, bj, _, h3, h5, h4, h6, h2⟩
          have Hat := Lib.hid hat
          have HS7 := Lib.hid hS7
          clear hat hS7 hS5 hM5 hM7 r5 r5' r7 pr7 z0 z1
          go_wp2
          go_loopw [13, 78] (fun _ i W => ∃ j nn : Nat, j ≤ tl ∧ i = .int .i64 j ∧ w7.drewN nn = W) (fun _ i _ => tl - (intOf i).toNat)
          case atStart => exact ⟨0, 0, Nat.zero_le _, rfl, rfl⟩
          case round =>
            obtain ⟨j, nn, hj, rfl, rfl⟩ := hrel
            by_cases hjl : j < tl
            · obtain ⟨b5, o5, b7, o7, bj, v, e5, e7, q5, q7, qj⟩ := Hat.out j hjl
              subst e5 e7
              go_wp2
              go_quiet (fail)
              go_wp2
              go_roundw
              case rel => exact ⟨j + 1, _, by omega, by go_num, rfl⟩
              case measure => simp [intOf]; omega
            · have : j = tl := by omega
              subst this
              go_wp2
              go_roundw
              case rel => exact ⟨k + 1, q.drop m.toNat, qb.drop m.toNat, n, tk + j, f5, f7, by omega, by go_num, by omega, HS7.out.drewN nn⟩
              case measure => simp [intOf]; omega
      · have HS := Lib.hid hS
        have hqb : qb.length = q.length := hS.pr.1
        clear hS hr
        go_wp2_with fail
        refine (RgI.len_c _ p g room f q n tk HS.out.a).mono ?_
        rintro e w6 ⟨rfl, n6, rfl⟩
        go_wp2_with fail
        refine (RgL.len_c _ p2 g2 room f2 qb n tk (HS.out.drewN n6).b).mono ?_
        rintro e w7 ⟨rfl, n7, rfl⟩
        rw [hqb]
        go_wp2_with fail
        refine (RgI.room_c _ p g room f q n tk (HS.out.drewN (n6 + n7)).a).mono ?_
        rintro e w7 ⟨rfl, n8, rfl⟩
        go_wp2_with fail
        refine (RgL.room_c _ p2 g2 room f2 qb n tk (HS.out.drewN (n6 + n7 + n8)).b).mono ?_
        rintro e w7 ⟨rfl, n9, rfl⟩
        rw [hqb]
        go_wp2_with fail
        go_ret
        exact ⟨rfl, below_drewN HS.out.B _⟩
  · have hd : decide (100 < (l.length : Int)) = true := by simp; omega
    go_enter Tryd.func6, Tryd.ntmps6
    go_wp2_with (go_at_call 26; refine (RgA.alive_c A _ hs).mono ?_; rintro e w1 ⟨rfl, hb1⟩)
    go_ret
    exact ⟨rfl, hb1⟩
end RgT
end Go.Proofs.YtjohljpcoodijaaDoor
