import Derived.Test.YtoeeddfinmfnoaaDoorQTreeWalk
import Derived.Test.YtoeeddfinmfnoaaDoorQActNm
import Derived.BigQuiet
import Derived.Laws.StructEq
/- (tree.Node).bare. -/
namespace Go.Proofs.YtoeeddfinmfnoaaDoor
namespace Kt
end Kt
open Go Go.RowKit Go.Shelf Kt
namespace Tr
theorem eq_zero (x0 x1 x2 x3 : Nat) (w : World) : (binOp .eql 24 (.agg #[.int .u64 (x0 : Int), .int .u64 (x1 : Int), .int .u64 (x2 : Int), .int .u64 (x3 : Int)]) (.agg #[.int .u64 0, .int .u64 0, .int .u64 0, .int .u64 0])).run Tryd.prog w = .ok (.bool (decide ([x0, x1, x2, x3] = [0, 0, 0, 0]))) w := by
  have u3 := Tryd.underlying22
  obtain ⟨i, hi⟩ : ∃ i, Tryd.prog.info? 22 = some i := Option.isSome_iff_exists.1 (by kernel_rfl)
  have hce : Tryd.prog.cellsOf 22 = 1 := by kernel_rfl
  rw [run_eql_struct, show (10000 : Nat) = 9999 + 1 from rfl, run_equalIn_array (P := Tryd.prog) w 9999 _ _ Tryd.underlying24 hi, hce]
  rw [show List.range 4 = [0, 1, 2, 3] from rfl]
  simp only [Op.eqItems]
  go_simp
  by_cases h0 : x0 = 0 <;> by_cases h1 : x1 = 0 <;> by_cases h2 : x2 = 0 <;> by_cases h3 : x3 = 0 <;> simp [h0, h1, h2, h3] <;> (intros; omega)
set_option maxRecDepth 100000 in
set_option maxHeartbeats 4000000 in
theorem bare_c0 (k mn mx : Int) (x0 x1 x2 x3 : Nat) (a : Option Addr) (nl c : Nat) (t : List UInt8) (w : World) :
    Calls Tryd.prog 83 #[.agg #[.int .i64 k, .int .u64 (x0 : Int), .int .u64 (x1 : Int), .int .u64 (x2 : Int), .int .u64 (x3 : Int), .slice a nl c, .int .i64 mn, .int .i64 mx, .string (Str t)]] w fun e W' =>
      e = .returned (.bool ((decide ([x0, x1, x2, x3] = [0, 0, 0, 0]) || decide (k = 1)) && ((decide (mn = 0) && decide (mx = 0)) || decide (k = 4)) && (decide (t = []) || decide (k = 5)))) ∧ Below w.heap.size w W' := by
  have e1 := Ac.str_nil t
  have e2 := Ac.str_emp t
  have he := fun w => eq_zero x0 x1 x2 x3 w
  have hB := (Below.refl w.heap.size w)
  generalize decide ([x0, x1, x2, x3] = [0, 0, 0, 0]) = v at *
  generalize decide (t = []) = u at *
  have hk : k = 1 ∨ k = 4 ∨ k = 5 ∨ ((k == 1) = false ∧ (k == 4) = false ∧ (k == 5) = false ∧ k ≠ 1 ∧ k ≠ 4 ∧ k ≠ 5) := by
    by_cases h1 : k = 1
    · exact .inl h1
    · by_cases h4 : k = 4
      · exact .inr (.inl h4)
      · by_cases h5 : k = 5
        · exact .inr (.inr (.inl h5))
        · exact .inr (.inr (.inr ⟨by simpa using h1, by simpa using h4, by simpa using h5, h1, h4, h5⟩))
  have hm : mn = 0 ∨ ((mn == 0) = false ∧ decide (mn = 0) = false) := by
    by_cases h : mn = 0
    · exact .inl h
    · exact .inr ⟨by simpa using h, by simpa using h⟩
  have hx : decide (mx = 0) = (mx == 0) := by by_cases h : mx = 0 <;> simp [h]
  obtain ⟨y, hy⟩ : ∃ y, (mx == 0) = y := ⟨_, rfl⟩
  rw [hx, hy]
  clear hx
  rcases hm with rfl | ⟨hmn, hmd⟩
  · go_enter Tryd.func83, Tryd.ntmps83
    go_wp2_with fail
    go_quiet (fail)
    rcases hk with rfl | rfl | rfl | ⟨k1, k4, k5, h1, h4, h5⟩
    all_goals (cases v <;> cases u <;> cases y <;> (go_wp2; go_ret; exact ⟨by first | rfl | simp [*], below_drewN (hB.alloc (Nat.le_refl _) _) _⟩))
  · rw [hmd]
    go_enter Tryd.func83, Tryd.ntmps83
    go_wp2_with fail
    go_quiet (fail)
    rcases hk with rfl | rfl | rfl | ⟨k1, k4, k5, h1, h4, h5⟩
    all_goals (cases v <;> cases u <;> (go_wp2; go_ret; exact ⟨by first | rfl | simp [*], below_drewN (hB.alloc (Nat.le_refl _) _) _⟩))
end Tr
end Go.Proofs.YtoeeddfinmfnoaaDoor

/- (tree.Node).right. -/
namespace Go.Proofs.YtoeeddfinmfnoaaDoor
open Go Go.RowKit Go.Shelf Kt
namespace Tr
theorem nine {k mn mx : Int} {x0 x1 x2 x3 : Nat} {a : Option Addr} {nl c : Nat} {t : List UInt8} {w : World} {b : Nat} (h : w.heap[b]? = some (.cells #[.int .i64 k, .int .u64 (x0 : Int), .int .u64 (x1 : Int), .int .u64 (x2 : Int), .int .u64 (x3 : Int), .slice a nl c, .int .i64 mn, .int .i64 mx, .string (Str t)] 27 (0, 0))) :
    w.cell? ⟨b, 0, none⟩ = some (.int .i64 k) ∧ w.cell? ⟨b, 5, none⟩ = some (.slice a nl c) ∧ w.cell? ⟨b, 6, none⟩ = some (.int .i64 mn) ∧ w.cell? ⟨b, 7, none⟩ = some (.int .i64 mx) ∧ w.cell? ⟨b, 8, none⟩ = some (.string (Str t)) :=
  ⟨cell_block h 0, cell_block h 5, cell_block h 6, cell_block h 7, cell_block h 8⟩
theorem nl0 (nl : Nat) : ((nl : Int) == 0) = decide (nl = 0) := by by_cases h : nl = 0 <;> simp [h]
theorem nl1 (nl : Nat) : ((nl : Int) == 1) = decide (nl = 1) := by
  by_cases h : nl = 1
  · simp [h]
  · have : ¬ (nl : Int) = 1 := by omega
    simp [h, this]
theorem nl2 (nl : Nat) : decide (2 ≤ (nl : Int)) = decide (2 ≤ nl) := by simp; omega
set_option maxRecDepth 100000 in
set_option maxHeartbeats 4000000 in
theorem one_c0 (k mn mx : Int) (x0 x1 x2 x3 : Nat) (a : Option Addr) (nl c : Nat) (t : List UInt8) (B N : Bool) (w : World)
    (hb : ∀ w, Calls Tryd.prog 83 #[.agg #[.int .i64 k, .int .u64 (x0 : Int), .int .u64 (x1 : Int), .int .u64 (x2 : Int), .int .u64 (x3 : Int), .slice a nl c, .int .i64 mn, .int .i64 mx, .string (Str t)]] w fun e W' => e = .returned (.bool B) ∧ Below w.heap.size w W')
    (hn : ∀ w, Calls Tryd.prog 84 #[.string (Str t)] w fun e w' => e = .returned (.bool N) ∧ w = w') :
    Calls Tryd.prog 59 #[.agg #[.int .i64 k, .int .u64 (x0 : Int), .int .u64 (x1 : Int), .int .u64 (x2 : Int), .int .u64 (x3 : Int), .slice a nl c, .int .i64 mn, .int .i64 mx, .string (Str t)]] w fun e W' =>
      e = .returned (.bool (B && (if k = 1 then decide (nl = 0) else if k = 2 then true else if k = 3 then decide (2 ≤ nl)
        else if k = 4 then decide (nl = 1) && (decide (0 ≤ mn) && decide (mn ≤ 40) && (decide (mx = -1) || (decide (max mn 1 ≤ mx) && decide (mx ≤ 40))))
        else decide (k = 5) && decide (nl = 0) && N))) ∧ Below w.heap.size w W' := by
  have HB := Lib.hid hb
  have HN := Lib.hid hn
  have h00 := (Below.refl w.heap.size w)
  have H0 := Lib.hid h00
  clear hb hn h00
  cases B
  · clear HN
    go_enter Tryd.func59, Tryd.ntmps59
    go_wp2_with (first | (go_at_call 83; (with_reducible refine (HB.out _).mono ?_); rintro e W1 ⟨rfl, hb1⟩; obtain ⟨z0, z5, z6, z7, z8⟩ := nine ((hb1.block _ (by simp)).trans (heap_alloc_new w (.cells #[.int .i64 k, .int .u64 (x0 : Int), .int .u64 (x1 : Int), .int .u64 (x2 : Int), .int .u64 (x3 : Int), .slice a nl c, .int .i64 mn, .int .i64 mx, .string (Str t)] 27))); have HF := Lib.hid ((H0.out.alloc (Nat.le_refl _) (.cells #[.int .i64 k, .int .u64 (x0 : Int), .int .u64 (x1 : Int), .int .u64 (x2 : Int), .int .u64 (x3 : Int), .slice a nl c, .int .i64 mn, .int .i64 mx, .string (Str t)] 27)).trans (hb1.mono (by simp))); clear hb1))
    all_goals (go_ret; exact ⟨rfl, HF.out⟩)
  · have hk : k = 1 ∨ k = 2 ∨ k = 3 ∨ k = 4 ∨ k = 5 ∨ (k ≠ 1 ∧ k ≠ 2 ∧ k ≠ 3 ∧ k ≠ 4 ∧ k ≠ 5) := by omega
    rcases hk with rfl | rfl | rfl | rfl | rfl | ⟨h1, h2, h3, h4, h5⟩
    · clear HN
      go_enter Tryd.func59, Tryd.ntmps59
      go_wp2_with (first | (go_at_call 83; (with_reducible refine (HB.out _).mono ?_); rintro e W1 ⟨rfl, hb1⟩; obtain ⟨z0, z5, z6, z7, z8⟩ := nine ((hb1.block _ (by simp)).trans (heap_alloc_new w (.cells #[.int .i64 1, .int .u64 (x0 : Int), .int .u64 (x1 : Int), .int .u64 (x2 : Int), .int .u64 (x3 : Int), .slice a nl c, .int .i64 mn, .int .i64 mx, .string (Str t)] 27))); have HF := Lib.hid ((H0.out.alloc (Nat.le_refl _) (.cells #[.int .i64 1, .int .u64 (x0 : Int), .int .u64 (x1 : Int), .int .u64 (x2 : Int), .int .u64 (x3 : Int), .slice a nl c, .int .i64 mn, .int .i64 mx, .string (Str t)] 27)).trans (hb1.mono (by simp))); clear hb1))
      go_ret
      exact ⟨by first | rfl | (simp; omega) | (simp [nl0]; done), HF.out⟩
    · clear HN
      go_enter Tryd.func59, Tryd.ntmps59
      go_wp2_with (first | (go_at_call 83; (with_reducible refine (HB.out _).mono ?_); rintro e W1 ⟨rfl, hb1⟩; obtain ⟨z0, z5, z6, z7, z8⟩ := nine ((hb1.block _ (by simp)).trans (heap_alloc_new w (.cells #[.int .i64 2, .int .u64 (x0 : Int), .int .u64 (x1 : Int), .int .u64 (x2 : Int), .int .u64 (x3 : Int), .slice a nl c, .int .i64 mn, .int .i64 mx, .string (Str t)] 27))); have HF := Lib.hid ((H0.out.alloc (Nat.le_refl _) (.cells #[.int .i64 2, .int .u64 (x0 : Int), .int .u64 (x1 : Int), .int .u64 (x2 : Int), .int .u64 (x3 : Int), .slice a nl c, .int .i64 mn, .int .i64 mx, .string (Str t)] 27)).trans (hb1.mono (by simp))); clear hb1))
      go_ret
      exact ⟨by first | rfl | (simp; omega) | (simp [nl0]; done), HF.out⟩
    · clear HN
      go_enter Tryd.func59, Tryd.ntmps59
      go_wp2_with (first | (go_at_call 83; (with_reducible refine (HB.out _).mono ?_); rintro e W1 ⟨rfl, hb1⟩; obtain ⟨z0, z5, z6, z7, z8⟩ := nine ((hb1.block _ (by simp)).trans (heap_alloc_new w (.cells #[.int .i64 3, .int .u64 (x0 : Int), .int .u64 (x1 : Int), .int .u64 (x2 : Int), .int .u64 (x3 : Int), .slice a nl c, .int .i64 mn, .int .i64 mx, .string (Str t)] 27))); have HF := Lib.hid ((H0.out.alloc (Nat.le_refl _) (.cells #[.int .i64 3, .int .u64 (x0 : Int), .int .u64 (x1 : Int), .int .u64 (x2 : Int), .int .u64 (x3 : Int), .slice a nl c, .int .i64 mn, .int .i64 mx, .string (Str t)] 27)).trans (hb1.mono (by simp))); clear hb1))
      go_ret
      exact ⟨by first | rfl | (simp; omega) | (simp [nl0]; done), HF.out⟩
    · clear HN
      have hn1 := nl1 nl
      obtain ⟨p1, hp1⟩ : ∃ p, decide (nl = 1) = p := ⟨_, rfl⟩
      obtain ⟨p2, hp2⟩ : ∃ p, decide (0 ≤ mn) = p := ⟨_, rfl⟩
      obtain ⟨p3, hp3⟩ : ∃ p, decide (mn ≤ 40) = p := ⟨_, rfl⟩
      obtain ⟨p4, hp4⟩ : ∃ p, decide (mx = -1) = p := ⟨_, rfl⟩
      obtain ⟨p6, hp6⟩ : ∃ p, decide (mx ≤ 40) = p := ⟨_, rfl⟩
      have hq4 : (mx == -1) = p4 := by rw [← hp4]; by_cases h : mx = -1 <;> simp [h]
      by_cases hlt : mn < 1
      · have hmx : max mn 1 = 1 := by omega
        rw [hmx]
        obtain ⟨p5, hp5⟩ : ∃ p, decide (1 ≤ mx) = p := ⟨_, rfl⟩
        rw [hp1] at hn1
        simp only [hp1, hp2, hp3, hp4, hp5, hp6]
        clear hmx hp1 hp4
        cases p5 <;> cases p6 <;> cases p1 <;> cases p2 <;> cases p3 <;> cases p4
        all_goals (
          go_enter Tryd.func59, Tryd.ntmps59
          go_wp2_with (first | (go_at_call 83; (with_reducible refine (HB.out _).mono ?_); rintro e W1 ⟨rfl, hb1⟩; obtain ⟨z0, z5, z6, z7, z8⟩ := nine ((hb1.block _ (by simp)).trans (heap_alloc_new w (.cells #[.int .i64 4, .int .u64 (x0 : Int), .int .u64 (x1 : Int), .int .u64 (x2 : Int), .int .u64 (x3 : Int), .slice a nl c, .int .i64 mn, .int .i64 mx, .string (Str t)] 27))); have HF := Lib.hid ((H0.out.alloc (Nat.le_refl _) (.cells #[.int .i64 4, .int .u64 (x0 : Int), .int .u64 (x1 : Int), .int .u64 (x2 : Int), .int .u64 (x3 : Int), .slice a nl c, .int .i64 mn, .int .i64 mx, .string (Str t)] 27)).trans (hb1.mono (by simp))); clear hb1))
          go_ret
          exact ⟨rfl, HF.out⟩)
      · have hmx : max mn 1 = mn := by omega
        have hp2' : decide (0 ≤ mn) = true := by simp; omega
        rw [hmx]
        obtain ⟨p5, hp5⟩ : ∃ p, decide (mn ≤ mx) = p := ⟨_, rfl⟩
        rw [hp1] at hn1
        simp only [hp1, hp2', hp3, hp4, hp5, hp6]
        clear hmx hp1 hp4 hp2
        cases p5 <;> cases p6 <;> cases p1 <;> cases p3 <;> cases p4
        all_goals (
          go_enter Tryd.func59, Tryd.ntmps59
          go_wp2_with (first | (go_at_call 83; (with_reducible refine (HB.out _).mono ?_); rintro e W1 ⟨rfl, hb1⟩; obtain ⟨z0, z5, z6, z7, z8⟩ := nine ((hb1.block _ (by simp)).trans (heap_alloc_new w (.cells #[.int .i64 4, .int .u64 (x0 : Int), .int .u64 (x1 : Int), .int .u64 (x2 : Int), .int .u64 (x3 : Int), .slice a nl c, .int .i64 mn, .int .i64 mx, .string (Str t)] 27))); have HF := Lib.hid ((H0.out.alloc (Nat.le_refl _) (.cells #[.int .i64 4, .int .u64 (x0 : Int), .int .u64 (x1 : Int), .int .u64 (x2 : Int), .int .u64 (x3 : Int), .slice a nl c, .int .i64 mn, .int .i64 mx, .string (Str t)] 27)).trans (hb1.mono (by simp))); clear hb1))
          go_ret
          exact ⟨rfl, HF.out⟩)
    · by_cases h0 : nl = 0
      · subst h0
        go_enter Tryd.func59, Tryd.ntmps59
        go_wp2_with (first | (go_at_call 83; (with_reducible refine (HB.out _).mono ?_); rintro e W1 ⟨rfl, hb1⟩; obtain ⟨z0, z5, z6, z7, z8⟩ := nine ((hb1.block _ (by simp)).trans (heap_alloc_new w (.cells #[.int .i64 5, .int .u64 (x0 : Int), .int .u64 (x1 : Int), .int .u64 (x2 : Int), .int .u64 (x3 : Int), .slice a 0 c, .int .i64 mn, .int .i64 mx, .string (Str t)] 27))); have HF := Lib.hid ((H0.out.alloc (Nat.le_refl _) (.cells #[.int .i64 5, .int .u64 (x0 : Int), .int .u64 (x1 : Int), .int .u64 (x2 : Int), .int .u64 (x3 : Int), .slice a 0 c, .int .i64 mn, .int .i64 mx, .string (Str t)] 27)).trans (hb1.mono (by simp))); clear hb1) | (go_at_call 84; (with_reducible refine (HN.out _).mono ?_); rintro e W2 ⟨rfl, rfl⟩))
        go_ret
        exact ⟨by first | rfl | simp, HF.out⟩
      · have hz0 : ((nl : Int) == 0) = false := by rw [nl0]; simp [h0]
        have hd0 : decide (nl = 0) = false := by simp [h0]
        rw [hd0]
        clear hd0 h0 HN
        go_enter Tryd.func59, Tryd.ntmps59
        go_wp2_with (first | (go_at_call 83; (with_reducible refine (HB.out _).mono ?_); rintro e W1 ⟨rfl, hb1⟩; obtain ⟨z0, z5, z6, z7, z8⟩ := nine ((hb1.block _ (by simp)).trans (heap_alloc_new w (.cells #[.int .i64 5, .int .u64 (x0 : Int), .int .u64 (x1 : Int), .int .u64 (x2 : Int), .int .u64 (x3 : Int), .slice a nl c, .int .i64 mn, .int .i64 mx, .string (Str t)] 27))); have HF := Lib.hid ((H0.out.alloc (Nat.le_refl _) (.cells #[.int .i64 5, .int .u64 (x0 : Int), .int .u64 (x1 : Int), .int .u64 (x2 : Int), .int .u64 (x3 : Int), .slice a nl c, .int .i64 mn, .int .i64 mx, .string (Str t)] 27)).trans (hb1.mono (by simp))); clear hb1))
        go_ret
        exact ⟨by first | rfl | simp, HF.out⟩
    · have g1 : (k == 1) = false := by simpa using h1
      have g2 : (k == 2) = false := by simpa using h2
      have g3 : (k == 3) = false := by simpa using h3
      have g4 : (k == 4) = false := by simpa using h4
      have g5 : (k == 5) = false := by simpa using h5
      have hres : (if k = 1 then decide (nl = 0) else if k = 2 then true else if k = 3 then decide (2 ≤ nl) else if k = 4 then decide (nl = 1) && (decide (0 ≤ mn) && decide (mn ≤ 40) && (decide (mx = -1) || (decide (max mn 1 ≤ mx) && decide (mx ≤ 40)))) else decide (k = 5) && decide (nl = 0) && N) = false := by simp [h1, h2, h3, h4, h5]
      rw [hres]
      clear hres h1 h2 h3 h4 h5 HN
      go_enter Tryd.func59, Tryd.ntmps59
      go_wp2_with (first | (go_at_call 83; (with_reducible refine (HB.out _).mono ?_); rintro e W1 ⟨rfl, hb1⟩; obtain ⟨z0, z5, z6, z7, z8⟩ := nine ((hb1.block _ (by simp)).trans (heap_alloc_new w (.cells #[.int .i64 k, .int .u64 (x0 : Int), .int .u64 (x1 : Int), .int .u64 (x2 : Int), .int .u64 (x3 : Int), .slice a nl c, .int .i64 mn, .int .i64 mx, .string (Str t)] 27))); have HF := Lib.hid ((H0.out.alloc (Nat.le_refl _) (.cells #[.int .i64 k, .int .u64 (x0 : Int), .int .u64 (x1 : Int), .int .u64 (x2 : Int), .int .u64 (x3 : Int), .slice a nl c, .int .i64 mn, .int .i64 mx, .string (Str t)] 27)).trans (hb1.mono (by simp))); clear hb1))
      go_ret
      exact ⟨rfl, HF.out⟩
end Tr
end Go.Proofs.YtoeeddfinmfnoaaDoor
