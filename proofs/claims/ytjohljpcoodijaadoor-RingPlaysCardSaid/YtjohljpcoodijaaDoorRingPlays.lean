/- dofferlaw29.RingPlays returns true. Condition: the sentinels read as laid. -/
import Derived.Test.YtjohljpcoodijaaDoorRingAll
import Derived.Test.YtjohljpcoodijaaDoorRef29
import Derived.Test.YtjohljpcoodijaaDoorSame
import Derived.Test.YtjohljpcoodijaaDoorRingActs
import Derived.Deep.RegionHeld3
namespace Go.Proofs.YtjohljpcoodijaaDoor
open Go Go.RowKit Kt Rg Rf
namespace RgP
open RgA (c2)

structure Pl (w W : World) (p g z room f : Nat) (q q2 : List Int) (na nb ta tb : Nat) : Prop where
  a : RgI.Is W p g room f q na ta
  r : Ref [p, g, z] W z room nb tb q2
  B : Below w.heap.size w W
  n1 : p ≠ z
  n2 : g ≠ z
  l1 : w.heap.size ≤ p
  l2 : w.heap.size ≤ g
  l3 : w.heap.size ≤ z
variable {w W W' : World} {p g z room f : Nat} {q q2 : List Int} {na nb ta tb : Nat}
theorem Pl.zlt (h : Pl w W p g z room f q q2 na nb ta tb) : z < W.heap.size := by
  obtain ⟨a, cap, h1, _⟩ := h.r
  exact block_lt h1
theorem Pl.lts (h : Pl w W p g z room f q q2 na nb ta tb) : ∀ k ∈ [p, g, z], k < W.heap.size := by
  intro k hk
  have := h.a.plt; have := h.a.glt; have := h.zlt
  simp at hk
  rcases hk with rfl | rfl | rfl <;> assumption
theorem Pl.below (h : Pl w W p g z room f q q2 na nb ta tb) (hb : Below W.heap.size W W') : Pl w W' p g z room f q q2 na nb ta tb :=
  ⟨h.a.below hb, h.r.below hb, h.B.trans (hb.mono h.B.size), h.n1, h.n2, h.l1, h.l2, h.l3⟩
theorem Pl.stepA (h : Pl w W p g z room f q q2 na nb ta tb) {f' : Nat} {q' : List Int} {na' ta' : Nat} (ha : RgI.Is W' p g room f' q' na' ta') (hM : Mod [p, g] W W') : Pl w W' p g z room f' q' q2 na' nb ta' tb ∧ Mod [p, g, z] W W' := by
  refine ⟨⟨ha, h.r.mod hM (by intro k hk; simp at hk ⊢; omega) (by simp; exact ⟨fun e => h.n1 e.symm, fun e => h.n2 e.symm⟩), h.B.trans (hM.toBelow h.B.size ?_), h.n1, h.n2, h.l1, h.l2, h.l3⟩, hM.sub (by intro k hk; simp at hk ⊢; omega)⟩
  intro k hk; simp at hk; have := h.l1; have := h.l2; omega
theorem Pl.stepR (h : Pl w W p g z room f q q2 na nb ta tb) {q2' : List Int} {nb' tb' : Nat} (hr : Ref [p, g, z] W' z room nb' tb' q2') (hM : Mod [z] W W') : Pl w W' p g z room f q q2' na nb' ta tb' ∧ Mod [p, g, z] W W' := by
  refine ⟨⟨h.a.mod hM (by simp; exact h.n1) (by simp; exact h.n2), hr, h.B.trans (hM.toBelow h.B.size ?_), h.n1, h.n2, h.l1, h.l2, h.l3⟩, hM.sub (by intro k hk; simp at hk ⊢; omega)⟩
  intro k hk; simp at hk; have := h.l3; omega
theorem below_drew {n : Nat} (h : W.drewN n = W') : Below W.heap.size W W' := by subst h; exact below_drewN (Below.refl _ _) n

theorem putA (x : Int) (hS : Pl w W p g z room f q q2 na nb ta tb) (hq : q.length < room) (hn : na ≤ 1000000) :
    Calls Tryd.prog 35 #[.pointer (some ⟨p, 0, none⟩), .int .i64 x] W fun e W' => e = .returned .nilIface ∧ Pl w W' p g z room f (q ++ [x]) q2 (na + 1) nb ta tb ∧ Mod [p, g, z] W W' :=
  (RgI.put_ok x W p g room f q na ta hS.a hq hn).mono fun _ _ ⟨h1, h2, h3⟩ => ⟨h1, hS.stepA h2 h3⟩
theorem addR (x : Int) (hS : Pl w W p g z room f q q2 na nb ta tb) (hq : q2.length < room) (hn : nb ≤ 1000000) :
    Calls Tryd.prog 50 #[.pointer (some ⟨z, 0, none⟩), .int .i64 x] W fun e W' => e = .returned (.bool true) ∧ Pl w W' p g z room f q (q2 ++ [x]) na (nb + 1) ta tb ∧ Mod [p, g, z] W W' :=
  (Rf.add_ok x W hS.r hq hS.a.hroom hn hS.lts).mono fun _ _ ⟨h1, h2, h3⟩ => ⟨h1, hS.stepR h2 h3⟩
theorem fullA {A : Nat → Addr} (hs : Sent 152 w A Er.egs) (v : Value) (hS : Pl w W p g z room f q q2 na nb ta tb) (hq : q.length = room) :
    Calls Tryd.prog 35 #[.pointer (some ⟨p, 0, none⟩), v] W fun e W' => e = .returned (Er.ev A 4) ∧ Pl w W' p g z room f q q2 na nb ta tb ∧ Mod [p, g, z] W W' :=
  (RgI.put_full A v W p g room f q na ta hS.a hq ((hs.keep hS.B).sub (by decide))).mono fun _ _ ⟨h1, _, h2⟩ => ⟨h1, hS.below (below_drew h2), Mod.of_below (below_drew h2) _⟩
theorem fullR (x : Int) (hS : Pl w W p g z room f q q2 na nb ta tb) (hq : q2.length = room) :
    Calls Tryd.prog 50 #[.pointer (some ⟨z, 0, none⟩), .int .i64 x] W fun e W' => e = .returned (.bool false) ∧ Pl w W' p g z room f q q2 na nb ta tb ∧ Mod [p, g, z] W W' :=
  (Rf.add_no x W hS.r hq).mono fun _ _ ⟨h1, _, h2⟩ => ⟨h1, hS.below (below_drew h2), Mod.of_below (below_drew h2) _⟩
theorem takeA (most : Int) (tl : Nat) (htl : (q.take most.toNat).length = tl) (hS : Pl w W p g z room f q q2 na nb ta tb) (hn : ta + q.length ≤ 1000000) :
    Calls Tryd.prog 37 #[.pointer (some ⟨p, 0, none⟩), .int .i64 most] W fun e W' => ∃ a c f', e = .returned (.slice a tl c) ∧ Rd W' a (i64s (q.take most.toNat)) ∧ (∀ k, a = some k → k.block ∉ [p, g, z]) ∧
      Pl w W' p g z room f' (q.drop most.toNat) q2 na nb (ta + tl) tb ∧ Mod [p, g, z] W W' :=
  (RgI.take_c most W p g room f q na ta hS.a hn).mono fun _ _ ⟨v, f', h1, own, h2, h3⟩ => by
    rw [htl] at own h2
    obtain ⟨a, c, rfl, _, _, r, hf⟩ := rd_own own
    obtain ⟨s1, s2⟩ := hS.stepA h2 h3
    refine ⟨a, c, f', h1, r, ?_, s1, s2⟩
    intro k hk hm
    subst hk
    have := (own.lt k.block rfl).1
    have := hS.lts _ hm
    omega
theorem takeR (most : Int) (tl : Nat) (htl : (q2.take most.toNat).length = tl) (hS : Pl w W p g z room f q q2 na nb ta tb) (hr : q2.length ≤ 32) (hn : tb ≤ 1000000) :
    Calls Tryd.prog 52 #[.pointer (some ⟨z, 0, none⟩), .int .i64 most] W fun e W' => ∃ a c, e = .returned (.slice a tl c) ∧ Rd W' a (i64s (q2.take most.toNat)) ∧
      Pl w W' p g z room f q (q2.drop most.toNat) na nb ta (tb + tl) ∧ Mod [p, g, z] W W' :=
  (Rf.take_c most tl W htl hS.r (by simp) hr hn).mono fun _ _ ⟨a, c, h1, r, h2, h3⟩ => ⟨a, c, h1, r, hS.stepR h2 h3⟩
theorem keep2 {S : List Nat} {W W' : World} {z : Nat} {v u : Value} (hM : Mod S W W') (hz : z ∉ S) (h : W.cell? ⟨z, 0, none⟩ = some v ∧ W.cell? ⟨z, 1, none⟩ = some u) : W'.cell? ⟨z, 0, none⟩ = some v ∧ W'.cell? ⟨z, 1, none⟩ = some u :=
  ⟨by rw [hM.cell (p := ⟨z, 0, none⟩) (lt_of_cell (p := ⟨z, 0, none⟩) h.1) hz]; exact h.1, by rw [hM.cell (p := ⟨z, 1, none⟩) (lt_of_cell (p := ⟨z, 1, none⟩) h.2) hz]; exact h.2⟩

set_option maxHeartbeats 4000000 in
set_option maxRecDepth 100000 in
theorem plays_c (A : Nat → Addr) (room0 : Int) (a : Option Addr) (cap : Nat) (l : List (Int × Int)) (w : World) (hl : l.length ≤ 9223372036854775807) (hr : Rd w a (l.flatMap c2)) (hs : Sent 152 w A Er.egs) :
    Calls Tryd.prog 8 #[.int .i64 room0, .slice a l.length cap] w fun e w' => e = .returned (.bool true) ∧ Below w.heap.size w w' := by
  by_cases h100 : l.length ≤ 100
  · have hd : decide (100 < (l.length : Int)) = false := by simp; omega
    by_cases hroom : room0 < 1 ∨ 32 < room0
    · go_enter Tryd.func8, Tryd.ntmps8
      go_wp2_with (go_at_call 26; refine (RgA.alive_c A _ hs).mono ?_; rintro e w1 ⟨rfl, hb1⟩)
      refine (RgI.new_bad A room0 w1 hroom ((hs.keep hb1).sub (by decide))).mono ?_
      rintro e w2 ⟨rfl, n2, rfl⟩
      have B2 := below_drewN hb1 n2
      rcases hroom with h | h
      · have hb : decide (room0 < 1) = true := by simp; omega
        go_wp2_with (go_at_call 34; (with_reducible refine (Er.num_at A 1 1 0 (by omega) rfl rfl _ (hs.keep B2)).mono ?_); rintro e w3 ⟨rfl, hb3⟩)
        go_ret
        exact ⟨rfl, B2.trans (hb3.mono B2.size)⟩
      · have hb : decide (room0 < 1) = false := by simp; omega
        have hb' : decide (32 < room0) = true := by simp; omega
        go_wp2_with (go_at_call 34; (with_reducible refine (Er.num_at A 1 1 0 (by omega) rfl rfl _ (hs.keep B2)).mono ?_); rintro e w3 ⟨rfl, hb3⟩)
        go_ret
        exact ⟨rfl, B2.trans (hb3.mono B2.size)⟩
    · obtain ⟨room, rfl⟩ : ∃ room : Nat, room0 = room := ⟨room0.toNat, by omega⟩
      have h1 : 1 ≤ room := by omega
      have h2 : room ≤ 32 := by omega
      clear hroom
      have hb : decide (room < 1) = false := by simp; omega
      have hb' : decide (32 < room) = false := by simp; omega
      have hbi : decide ((room : Int) < 1) = false := by simp; omega
      have hbi' : decide (32 < (room : Int)) = false := by simp; omega
      go_enter Tryd.func8, Tryd.ntmps8
      go_wp2_with (go_at_call 26; refine (RgA.alive_c A _ hs).mono ?_; rintro e w1 ⟨rfl, hb1⟩)
      refine (RgI.new_ok room _ rfl w1 h1 h2).mono ?_
      rintro e w2 ⟨p, g, rfl, hI, hp, hg, hb2⟩
      have hS : Pl w (w2.alloc (.cells #[.int .i64 room, .int .i64 0, .int .i64 0, .slice none 0 0] 83)) p g w2.heap.size room 0 [] [] 0 0 0 0 := by
        have := hb1.size
        have := hb2.size
        have a1 := hI.plt
        have a2 := hI.glt
        have b0 := (Below.refl w2.heap.size w2).alloc (Nat.le_refl _) (.cells #[.int .i64 room, .int .i64 0, .int .i64 0, .slice none 0 0] 83)
        exact ⟨hI.below b0, ⟨none, 0, heap_alloc_new _ _, Rd.nil _ _, Nat.le_refl _, by decide, fun _ => rfl, fun k hk => by cases hk⟩, (hb1.trans (hb2.mono hb1.size)).trans (b0.mono (by omega)), by omega, by omega, by omega, by omega, by omega⟩
      clear hI hb1 hb2 hp hg
      obtain ⟨z, hz⟩ : ∃ z, w2.heap.size = z := ⟨_, rfl⟩
      rw [hz] at hS
      have HS := Lib.hid hS
      clear hS
      go_wp2_with fail
      go_loopw [9, 10, 11, 46] (fun _ _ _ i W => ∃ k q n tk f, k ≤ l.length ∧ i = .int .i64 (k : Nat) ∧ n + tk + q.length ≤ 2 * k ∧ Pl w W p g z room f q q n n tk tk) (fun _ _ _ i _ => l.length - (intOf i).toNat)
      case atStart => exact ⟨0, [], 0, 0, 0, Nat.zero_le _, rfl, by simp, HS.out⟩
      case round =>
        clear HS hz
        obtain ⟨k, q, n, tk, f, hk, rfl, hn, hS⟩ := hrel
        by_cases hlt : k < l.length
        · obtain ⟨b, off, ha, hcs⟩ := (hr.keep hS.B).struct 2 (by intro z _; rfl) k hlt (by omega)
          have k0 := hcs 0 _ rfl (by omega)
          have k1 := hcs 1 _ rfl (by omega)
          clear hr hcs
          subst ha
          generalize l[k] = act at *
          obtain ⟨kd, m⟩ := act
          simp only [Nat.add_zero] at k0 k1
          rw [← Nat.add_assoc] at k1
          have hzS : wr.heap.size ∉ [p, g, z] := fun hm => Nat.lt_irrefl _ (hS.lts _ hm)
          have y0 := (Below.refl wr.heap.size wr).alloc (Nat.le_refl _) (.cells #[.int .i64 kd, .int .i64 m] 50)
          have hS1 := hS.below y0
          have z0 : (wr.alloc (.cells #[.int .i64 kd, .int .i64 m] 50)).cell? ⟨wr.heap.size, 0, none⟩ = some (.int .i64 kd) := cell_block (heap_alloc_new wr _) 0
          have z1 : (wr.alloc (.cells #[.int .i64 kd, .int .i64 m] 50)).cell? ⟨wr.heap.size, 1, none⟩ = some (.int .i64 m) := cell_block (heap_alloc_new wr _) 1
          have HS1 := Lib.hid hS1
          clear hS1 hS y0
          obtain ⟨zz, hzz⟩ : ∃ zz, wr.heap.size = zz := ⟨_, rfl⟩
          go_upto_if 52 with (fail)
          rw [hzz] at z0 z1 hzS
          have hq32 := HS1.out.a.hmany
          go_cut [] (fun W => ∃ q n tk f, n + tk + q.length ≤ 2 * (k + 1) ∧ Pl w W p g z room f q q n n tk tk)
          case first =>
            by_cases hkd : kd = 0
            · subst hkd
              by_cases hq : q.length < room
              · go_wp2_with fail
                go_region_held3 (fun w' => w'.cell? ⟨zz, 0, none⟩ = some (.int .i64 0) ∧ w'.cell? ⟨zz, 1, none⟩ = some (.int .i64 m))
                  (first | exact ⟨z0, z1⟩ | exact keep2 y5 hzS (by assumption) | exact keep2 y5 hzS ⟨z0, z1⟩ | go_keep)
                  (first
                    | (go_at_call 35; (with_reducible refine (putA m (HS1.out.below (Below.refl _ _).drew) hq (by omega)).mono ?_); rintro e w5 ⟨rfl, hS5, hM5⟩
                       have y5 := hM5)
                    | (go_at_call 50; (with_reducible refine (addR m hS5 hq (by omega)).mono ?_); rintro e w7 ⟨rfl, hS7, hM7⟩
                       have y5 := hM7))
                have HS7 := Lib.hid hS7
                clear hS7 hM7 hS5 hM5 z0 z1
                go_wp2
                go_meet
                case rel => exact ⟨q ++ [m], n + 1, tk, f, by simp; omega, HS7.out⟩
              · have hqr : q.length = room := by omega
                go_wp2_with fail
                go_region_held3 (fun w' => w'.cell? ⟨zz, 0, none⟩ = some (.int .i64 0) ∧ w'.cell? ⟨zz, 1, none⟩ = some (.int .i64 m))
                  (first | exact ⟨z0, z1⟩ | exact keep2 y5 hzS (by assumption) | exact keep2 y5 hzS ⟨z0, z1⟩ | go_keep)
                  (first
                    | (go_at_call 35; (with_reducible refine (fullA hs _ (HS1.out.below (Below.refl _ _).drew) hqr).mono ?_); rintro e w5 ⟨rfl, hS5, hM5⟩
                       unfold Er.ev
                       have y5 := hM5)
                    | (go_at_call 50; (with_reducible refine (fullR m hS5 hqr).mono ?_); rintro e w7 ⟨rfl, hS7, hM7⟩
                       have y5 := hM7))
                have HS7 := Lib.hid hS7
                clear hS7 hM7 hS5 hM5 z0 z1
                go_wp2
                go_meet
                case rel => exact ⟨q, n, tk, f, by omega, HS7.out⟩
            · have hkb : (kd == 0) = false := by simp [hkd]
              obtain ⟨tl, htl⟩ : ∃ tl, (q.take m.toNat).length = tl := ⟨_, rfl⟩
              have htl2 : tl + (q.drop m.toNat).length = q.length := by rw [← htl, ← List.length_append, List.take_append_drop]
              go_wp2_with fail
              go_region_held3 (fun w' => w'.cell? ⟨zz, 0, none⟩ = some (.int .i64 kd) ∧ w'.cell? ⟨zz, 1, none⟩ = some (.int .i64 m))
                (first | exact ⟨z0, z1⟩ | exact keep2 y5 hzS (by assumption) | exact keep2 y5 hzS ⟨z0, z1⟩ | go_keep)
                (first
                  | (go_at_call 37; (with_reducible refine (takeA m tl htl (HS1.out.below (Below.refl _ _).drew) (by omega)).mono ?_); rintro e w5 ⟨a5, c5, f5, rfl, r5, n5, hS5, hM5⟩
                     have y5 := hM5)
                  | (go_at_call 52; (with_reducible refine (takeR m tl htl hS5 (by omega) (by omega)).mono ?_); rintro e w7 ⟨a7, c7, rfl, r7, hS7, hM7⟩
                     have y5 := hM7)
                  | (go_at_call 51; (with_reducible refine (Sm.same_eq a5 a7 c5 c7 tl tl (q.take m.toNat) _ htl htl (by omega) (r5.mod hM7 n5) r7).mono ?_); rintro e w8 ⟨rfl, n8, h8⟩
                     have hS8 := hS7.below (below_drew h8)
                     have y5 := Mod.of_below (below_drew h8) [p, g, z]))
              have HS8 := Lib.hid hS8
              clear hS8 hS7 hM7 hS5 hM5 z0 z1 r5 r7 n5 y5
              go_wp2
              go_meet
              case rel => exact ⟨q.drop m.toNat, n, tk + tl, f5, by omega, HS8.out⟩
          case rest =>
            clear HS1 hq32 z0 z1 hzS
            obtain ⟨q, n, tk, f, hn, hP⟩ := hcut
            have HP := Lib.hid hP
            clear hP
            go_wp2_with fail
            refine (RgI.counts_c _ p g room f q n tk HP.out.a).mono ?_
            rintro e w6 ⟨rfl, n6, h6⟩
            have P6 := HP.out.below (below_drew h6)
            clear h6
            obtain ⟨ar, capr, h1r, rr, hcr, hmr, hnr, hbr⟩ := P6.r.h
            have sk : ∀ W, Below w6.heap.size w6 W → (W.cell? ⟨z, 3, none⟩ = some (.slice ar q.length capr) ∧ W.cell? ⟨z, 1, none⟩ = some (.int .i64 n) ∧ W.cell? ⟨z, 2, none⟩ = some (.int .i64 tk)) := by
              intro W hB
              have h2 : W.heap[z]? = _ := (hB.block z (block_lt h1r)).trans h1r
              exact ⟨cell_block h2 3, cell_block h2 1, cell_block h2 2⟩
            have y0 : Below w6.heap.size w6 w6.drew := (Below.refl _ _).drew
            have hq32 := P6.a.hmany
            have hrq : ((room : Int) - q.length) = ((room - q.length : Nat) : Int) := by omega
            clear h1r
            have HP6 := Lib.hid P6
            have HR := Lib.hid rr
            have SK := Lib.hid sk
            clear P6 rr sk hrq
            have hww : IntKind.i64.wrap ((room : Int) - q.length) = (room : Int) - q.length := IntWalk.i64_in _ ⟨by omega, by omega⟩
            go_wp2_with fail
            go_region_held3 (fun W => W.cell? ⟨z, 3, none⟩ = some (.slice ar q.length capr) ∧ W.cell? ⟨z, 1, none⟩ = some (.int .i64 n) ∧ W.cell? ⟨z, 2, none⟩ = some (.int .i64 tk))
              (first | exact SK.out _ y4 | exact SK.out _ y3 | exact SK.out _ y2 | exact SK.out _ y1 | exact SK.out _ y0)
              (first
                | (go_at_call 39; (with_reducible refine (RgI.len_c _ p g room f q n tk (HP6.out.a.below y0)).mono ?_); rintro e w7 ⟨rfl, n7, h7⟩
                   have y1 : Below w6.heap.size w6 w7 := y0.trans ((below_drew h7).mono y0.size))
                | (go_at_call 41; (with_reducible refine (RgI.room_c _ p g room f q n tk (HP6.out.a.below y1)).mono ?_); rintro e w8 ⟨rfl, n8, h8⟩
                   have y2 : Below w6.heap.size w6 w8 := y1.trans ((below_drew h8).mono y1.size))
                | (go_at_call 54; (with_reducible refine (RgI.all_c _ p g room f q n tk (HP6.out.a.below y2)).mono ?_); rintro e w9 ⟨v9, rfl, own9, hb9⟩
                   obtain ⟨a9, c9, rfl, _, _, r9, _⟩ := rd_own own9
                   have y3 : Below w6.heap.size w6 w9 := y2.trans (hb9.mono y2.size))
                | (go_at_call 51; (with_reducible refine (Sm.same_eq a9 ar c9 capr q.length q.length q _ rfl rfl (by omega) r9 (HR.out.keep y3)).mono ?_); rintro e w10 ⟨rfl, n10, h10⟩
                   have y4 : Below w6.heap.size w6 w10 := y3.trans ((below_drew h10).mono y3.size)))
            all_goals
              have HP9 := Lib.hid (HP6.out.below y4)
              clear y0 y1 y2 y3 y4 r9 own9 hb9 hww
              go_wp2
              go_roundw
              case rel => exact ⟨k + 1, q, n, tk, f, by omega, by go_num, hn, HP9.out⟩
              case measure => simp [intOf]; omega
        · go_wp2
          go_ret
          exact ⟨rfl, hS.B⟩
  · have hd : decide (100 < (l.length : Int)) = true := by simp; omega
    go_enter Tryd.func8, Tryd.ntmps8
    go_wp2_with (go_at_call 26; refine (RgA.alive_c A _ hs).mono ?_; rintro e w1 ⟨rfl, hb1⟩)
    go_ret
    exact ⟨rfl, hb1⟩
end RgP
end Go.Proofs.YtjohljpcoodijaaDoor
