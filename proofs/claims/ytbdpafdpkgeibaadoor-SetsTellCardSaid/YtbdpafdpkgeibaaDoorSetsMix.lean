/- dofferlaw01.SetsMix returns true. Condition: the table of TrailingZeros64 reads as laid. -/
import Derived.Test.YtbdpafdpkgeibaaDoorSets9
import Derived.Test.YtbdpafdpkgeibaaDoorSetsR3
namespace Go.Proofs.YtbdpafdpkgeibaaDoor
open Go Go.RowKit Kt
namespace St
open Mk
theorem exists_set (f : Nat → Bool) : ∃ rs, IsSet rs f := by
  have key : ∀ n, n ≤ 256 → ∃ rs, IsSet rs (fun q => decide (q < n) && f q) := by
    intro n
    induction n with
    | zero => intro _; exact ⟨[0, 0, 0, 0], rfl, zero_set.lt, fun c hc => by rw [zero_set.at' c hc]; simp⟩
    | succ n ih =>
      intro hn
      obtain ⟨rs, hrs⟩ := ih (by omega)
      cases hf : f n with
      | false =>
        refine ⟨rs, hrs.len, hrs.lt, fun q hq => ?_⟩
        rw [hrs.at' q hq]
        by_cases hqn : q = n
        · subst hqn; rw [hf]; simp
        · congr 1; apply decide_eq_decide.2; omega
      | true =>
        have hp := put_set hrs n (by omega)
        refine ⟨put rs n, hp.len, hp.lt, fun q hq => ?_⟩
        rw [hp.at' q hq]
        by_cases hqn : q = n
        · subst hqn; rw [hf]; simp
        · have e1 : decide (n = q) = false := by simp; omega
          rw [e1, Bool.or_false]
          congr 1
          apply decide_eq_decide.2
          omega
  obtain ⟨rs, hrs⟩ := key 256 (Nat.le_refl _)
  exact ⟨rs, hrs.len, hrs.lt, fun q hq => by rw [hrs.at' q hq]; have : decide (q < 256) = true := by simpa using hq
                                             rw [this, Bool.true_and]⟩
theorem pin {P : Program} {F : FuncId} {args : Array Value} {W : World} {f g : Nat → Bool} {r : List Nat} (h : Calls P F args W fun e w' => ∃ rs, e = .returned (sv rs) ∧ IsSet rs f ∧ Below W.heap.size W w') (hr : IsSet r g) (hfg : ∀ c, c < 256 → f c = g c) : Calls P F args W fun e w' => e = .returned (sv r) ∧ Below W.heap.size W w' := by
  refine h.mono ?_
  rintro e w' ⟨rs, rfl, hrs, hb⟩
  have : IsSet rs g := ⟨hrs.len, hrs.lt, fun c hc => by rw [hrs.at' c hc, hfg c hc]⟩
  rw [this.unique hr]
  exact ⟨rfl, hb⟩
set_option maxHeartbeats 4000000 in
set_option maxRecDepth 100000 in
theorem mix_c (ws us : List Nat) (hw : IsSet ws (has ws)) (hu : IsSet us (has us)) (w : World) (hT : Bt.Tab w) : Calls Tryd.prog 8 #[sv ws, sv us] w fun e w' => e = .returned (.bool true) ∧ Below w.heap.size w w' := by
  obtain ⟨f, hf⟩ : ∃ f, has ws = f := ⟨_, rfl⟩
  obtain ⟨g, hg⟩ : ∃ g, has us = g := ⟨_, rfl⟩
  rw [hf] at hw
  rw [hg] at hu
  clear hf hg
  obtain ⟨r1, h1⟩ := exists_set (fun c => f c || g c)
  obtain ⟨r2, h2⟩ := exists_set (fun c => f c && g c)
  obtain ⟨r3, h3⟩ := exists_set (fun c => f c && !g c)
  obtain ⟨r4, h4⟩ := exists_set (fun c => !f c)
  obtain ⟨r5, h5⟩ := exists_set (fun _ => true)
  have e1 := fun w => eq_run r1 r1 h1.len h1.len w
  have e2 := fun w => eq_run r2 r2 h2.len h2.len w
  have e3 := fun w => eq_run r3 r3 h3.len h3.len w
  have e4 := fun w => eq_run r4 r4 h4.len h4.len w
  have a1 := fun W => pin (or_c ws us f g hw hu W) h1 (fun _ _ => rfl)
  have b1 : ∀ W, Calls Tryd.prog 40 #[sv ws, sv us, .int .i64 0] W fun e w' => e = .returned (sv r1) ∧ Below W.heap.size W w' := fun W => pin (both_c 0 (by omega) ws us f g hw hu W) h1 (fun _ _ => rfl)
  have a2 := fun W => pin (and_c ws us f g hw hu W) h2 (fun _ _ => rfl)
  have b2 : ∀ W, Calls Tryd.prog 40 #[sv ws, sv us, .int .i64 1] W fun e w' => e = .returned (sv r2) ∧ Below W.heap.size W w' := fun W => pin (both_c 1 (by omega) ws us f g hw hu W) h2 (fun _ _ => rfl)
  have a3 := fun W => pin (minus_c ws us f g hw hu W) h3 (fun _ _ => rfl)
  have b3 : ∀ W, Calls Tryd.prog 40 #[sv ws, sv us, .int .i64 2] W fun e w' => e = .returned (sv r3) ∧ Below W.heap.size W w' := fun W => pin (both_c 2 (by omega) ws us f g hw hu W) h3 (fun _ _ => rfl)
  have a4 := fun W => pin (not_c ws f hw W) h4 (fun _ _ => rfl)
  have s5 : ∀ W, Calls Tryd.prog 34 #[.int .i64 0, .int .i64 255] W fun e w' => e = .returned (sv r5) ∧ Below W.heap.size W w' := fun W => pin (rspan_c 0 255 (by omega) (by omega) W) h5 (fun c hc => by simp; omega)
  have b4 : ∀ W, Calls Tryd.prog 40 #[sv r5, sv ws, .int .i64 2] W fun e w' => e = .returned (sv r4) ∧ Below W.heap.size W w' := fun W => pin (both_c 2 (by omega) r5 ws _ f h5 hw W) h4 (fun c hc => by simp [bf])
  simp only [decide_true] at e1 e2 e3 e4
  obtain ⟨p0, p1, p2, p3, rfl⟩ := four h1.len
  obtain ⟨q0, q1, q2, q3, rfl⟩ := four h2.len
  obtain ⟨r0, r1, r2, r3, rfl⟩ := four h3.len
  obtain ⟨s0, s1, s2, s3, rfl⟩ := four h4.len
  obtain ⟨t0, t1, t2, t3, rfl⟩ := four h5.len
  obtain ⟨x0, x1, x2, x3, rfl⟩ := four hw.len
  obtain ⟨y0, y1, y2, y3, rfl⟩ := four hu.len
  clear h1 h2 h3 h4 h5 hw hu
  simp only [sv, vals, List.map_cons, List.map_nil] at a1 b1 a2 b2 a3 b3 a4 b4 s5 e1 e2 e3 e4 ⊢
  have A1 := Lib.hid a1
  have B1 := Lib.hid b1
  have A2 := Lib.hid a2
  have B2 := Lib.hid b2
  have A3 := Lib.hid a3
  have B3 := Lib.hid b3
  have A4 := Lib.hid a4
  have B4 := Lib.hid b4
  have S5 := Lib.hid s5
  have HT := Lib.hid hT
  clear a1 b1 a2 b2 a3 b3 a4 b4 s5 hT
  have hX := Kt.heap_alloc2_old w (.cells #[.int .u64 (x0 : Int), .int .u64 (x1 : Int), .int .u64 (x2 : Int), .int .u64 (x3 : Int)] 54) (.cells #[.int .u64 (y0 : Int), .int .u64 (y1 : Int), .int .u64 (y2 : Int), .int .u64 (y3 : Int)] 54)
  have hY := heap_alloc2_new w (.cells #[.int .u64 (x0 : Int), .int .u64 (x1 : Int), .int .u64 (x2 : Int), .int .u64 (x3 : Int)] 54) (.cells #[.int .u64 (y0 : Int), .int .u64 (y1 : Int), .int .u64 (y2 : Int), .int .u64 (y3 : Int)] 54)
  have hB0 := ((Below.refl w.heap.size w).alloc (Nat.le_refl _) (.cells #[.int .u64 (x0 : Int), .int .u64 (x1 : Int), .int .u64 (x2 : Int), .int .u64 (x3 : Int)] 54)).alloc (by simp) (.cells #[.int .u64 (y0 : Int), .int .u64 (y1 : Int), .int .u64 (y2 : Int), .int .u64 (y3 : Int)] 54)
  have hAl := alive_c _ (HT.out.below hB0)
  have HX := Lib.hid hX
  have HY := Lib.hid hY
  have HB0 := Lib.hid hB0
  have HAl := Lib.hid hAl
  clear hX hY hB0 hAl
  go_enter Tryd.func8, Tryd.ntmps8
  go_wp2_with fail
  refine HAl.out.mono ?_
  rintro e w3 ⟨rfl, hb3⟩
  have hX3 := (hb3.block _ (block_lt HX.out)).trans HX.out
  have hY3 := (hb3.block _ (block_lt HY.out)).trans HY.out
  have HB := Lib.hid (HB0.out.trans (hb3.mono HB0.out.size))
  have sk : ∀ W, Below w3.heap.size w3 W → (W.cell? ⟨w.heap.size, 0, none⟩ = some (.int .u64 (x0 : Int)) ∧ W.cell? ⟨w.heap.size, 1, none⟩ = some (.int .u64 (x1 : Int)) ∧ W.cell? ⟨w.heap.size, 2, none⟩ = some (.int .u64 (x2 : Int)) ∧ W.cell? ⟨w.heap.size, 3, none⟩ = some (.int .u64 (x3 : Int)) ∧ W.cell? ⟨w.heap.size + 1, 0, none⟩ = some (.int .u64 (y0 : Int)) ∧ W.cell? ⟨w.heap.size + 1, 1, none⟩ = some (.int .u64 (y1 : Int)) ∧ W.cell? ⟨w.heap.size + 1, 2, none⟩ = some (.int .u64 (y2 : Int)) ∧ W.cell? ⟨w.heap.size + 1, 3, none⟩ = some (.int .u64 (y3 : Int))) := by
    intro W hb
    have h1 := (hb.block _ (block_lt hX3)).trans hX3
    have h2 := (hb.block _ (block_lt hY3)).trans hY3
    exact ⟨cell_block h1 0, cell_block h1 1, cell_block h1 2, cell_block h1 3, cell_block h2 0, cell_block h2 1, cell_block h2 2, cell_block h2 3⟩
  have SK := Lib.hid sk
  have z0 : Below w3.heap.size w3 w3.drew := (Below.refl _ _).drew
  have zr : Below w3.heap.size w3 w3 := (Below.refl _ _)
  clear sk hX3 hY3 hb3 HX HY HB0
  go_wp2_with fail
  go_region_held3 (fun W => W.cell? ⟨w.heap.size, 0, none⟩ = some (.int .u64 (x0 : Int)) ∧ W.cell? ⟨w.heap.size, 1, none⟩ = some (.int .u64 (x1 : Int)) ∧ W.cell? ⟨w.heap.size, 2, none⟩ = some (.int .u64 (x2 : Int)) ∧ W.cell? ⟨w.heap.size, 3, none⟩ = some (.int .u64 (x3 : Int)) ∧ W.cell? ⟨w.heap.size + 1, 0, none⟩ = some (.int .u64 (y0 : Int)) ∧ W.cell? ⟨w.heap.size + 1, 1, none⟩ = some (.int .u64 (y1 : Int)) ∧ W.cell? ⟨w.heap.size + 1, 2, none⟩ = some (.int .u64 (y2 : Int)) ∧ W.cell? ⟨w.heap.size + 1, 3, none⟩ = some (.int .u64 (y3 : Int)))
    (first | with_reducible exact SK.out _ zr | with_reducible exact SK.out _ z0 | with_reducible exact SK.out _ z1 | with_reducible exact SK.out _ z2 | with_reducible exact SK.out _ z3 | with_reducible exact SK.out _ z4 | with_reducible exact SK.out _ z5 | with_reducible exact SK.out _ z6 | with_reducible exact SK.out _ z7 | with_reducible exact SK.out _ z8 | with_reducible exact SK.out _ z9)
    (first
      | (go_at_call 39; (with_reducible refine (A1.out _).mono ?_); rintro e w5 ⟨rfl, hb1⟩
         have z1 := z0.trans (hb1.mono z0.size))
      | (go_at_call 40; (with_reducible refine (B1.out _).mono ?_); rintro e w5 ⟨rfl, hb2⟩
         have z2 := z1.trans (hb2.mono z1.size))
      | (go_at_call 41; (with_reducible refine (A2.out _).mono ?_); rintro e w5 ⟨rfl, hb3⟩
         have z3 := z2.trans (hb3.mono z2.size))
      | (go_at_call 40; (with_reducible refine (B2.out _).mono ?_); rintro e w5 ⟨rfl, hb4⟩
         have z4 := z3.trans (hb4.mono z3.size))
      | (go_at_call 42; (with_reducible refine (A3.out _).mono ?_); rintro e w5 ⟨rfl, hb5⟩
         have z5 := z4.trans (hb5.mono z4.size))
      | (go_at_call 40; (with_reducible refine (B3.out _).mono ?_); rintro e w5 ⟨rfl, hb6⟩
         have z6 := z5.trans (hb6.mono z5.size))
      | (go_at_call 43; (with_reducible refine (A4.out _).mono ?_); rintro e w5 ⟨rfl, hb7⟩
         have z7 := z6.trans (hb7.mono z6.size))
      | (go_at_call 34; (with_reducible refine (S5.out _).mono ?_); rintro e w5 ⟨rfl, hb8⟩
         have z8 := z7.trans (hb8.mono z7.size))
      | (go_at_call 40; (with_reducible refine (B4.out _).mono ?_); rintro e w5 ⟨rfl, hb9⟩
         have z9 := z8.trans (hb9.mono z8.size)))
  go_wp2
  go_ret
  exact ⟨by first | rfl | simp, HB.out.trans (z9.mono HB.out.size)⟩
end St
end Go.Proofs.YtbdpafdpkgeibaaDoor
