import Derived.Test.YteekonojmpihlaaDoorQTreeBnd
import Derived.Test.YteekonojmpihlaaDoorQBuildM
import Derived.Test.YteekonojmpihlaaDoorRows
import Derived.WalkKit
import Derived.BigQuiet
import Derived.Deep.RegionHeld3
/- tree.figures, (Node).often: how often a tree is there, as a text. -/
namespace Go.Proofs.YteekonojmpihlaaDoor
open Go Go.RowKit Kt St Sp Bk
namespace Tr
theorem fgs_hi (n : Nat) (h : 10 ≤ n) : fgs n = [dg (n / 10 % 10), dg (n % 10)] := by simp [fgs, h]
theorem fgs_lo (n : Nat) (h : ¬ 10 ≤ n) : fgs n = [dg (n % 10)] := by simp [fgs, h]
theorem conv_rd {P : Program} {t e dst : TypeId} (ht : P.underlying t = some (.slice e)) (he : P.underlying e = some (.int .u8)) (hd : P.underlying dst = some .string) (l : List UInt8) {w : World} {a : Option Addr} {n c : Nat} (hn : l.length = n) (hr : Rd w a (u8s l)) :
    (convert t dst (.slice a n c)).run P w = .ok (.string (Str l)) w := by
  subst hn
  exact str_run ht he hd hr c 0
theorem Rd.drew {w : World} {a : Option Addr} {xs : List Value} (h : Rd w a xs) : Rd w.drew a xs := h
theorem Rd.pre {w : World} {a : Option Addr} {xs ys : List Value} (h : Rd w a (xs ++ ys)) : Rd w a xs := by
  have := h.take xs.length
  simpa using this
set_option maxRecDepth 100000 in
set_option maxHeartbeats 2000000 in
/-- tree.figures. -/
theorem figures_c (n : Nat) (hn : n ≤ 99) (w : World) : Calls Tryd.prog 136 #[.int .i64 (n : Int)] w fun e w' => e = .returned (.string (Str (fgs n))) ∧ Below w.heap.size w w' := by
  by_cases h : 10 ≤ n
  · rw [fgs_hi n h]
    go_enter Tryd.func136, Tryd.ntmps136
    go_wp2_with fail
    rw [conv_rd Tryd.underlying129 Tryd.underlying5 Tryd.underlying9 [dg (n / 10 % 10), dg (n % 10)] (n := 2) rfl ?hr]
    case hr =>
      refine Rd.drew (Rd.pre (ys := (Builtin.zeroCells #[Value.int IntKind.u8 0] ((Question.appendCap 2 1 5).cut (w.tape w.drawn (Question.appendCap 2 1 5)) - 2)).toList) ?_)
      have hz : ((w.alloc (Obj.cells #[Value.int IntKind.u8 (48 + ↑n % 10)] 5)).alloc (Obj.cells #[Value.int IntKind.u8 (48 + ↑n / 10 % 10)] 5)).heap.size = w.heap.size + 1 + 1 := by simp
      rw [← hz]
      refine Rd.new _ _ _ _ _ ?_
      simp [u8s, dg_val _ (show n / 10 % 10 < 200 by omega), dg_val _ (show n % 10 < 200 by omega)]
    go_wp2
    go_ret
    exact ⟨rfl, ((((Below.refl _ w).alloc (Nat.le_refl _) _).alloc (by simp) _).alloc (by simp; omega) _).drew⟩
  · rw [fgs_lo n h]
    go_enter Tryd.func136, Tryd.ntmps136
    go_wp2_with fail
    rw [conv_rd Tryd.underlying129 Tryd.underlying5 Tryd.underlying9 [dg (n % 10)] (n := 1) rfl ?hr]
    case hr =>
      refine Rd.new _ _ _ _ _ ?_
      simp [u8s, dg_val _ (show n / 10 % 10 < 200 by omega), dg_val _ (show n % 10 < 200 by omega)]
    go_wp2
    go_ret
    exact ⟨rfl, (Below.refl _ w).alloc (Nat.le_refl _) _⟩
theorem add_to {P : Program} {a b c : List UInt8} (h : a ++ b = c) (hl : c.length ≤ 1000000000) (w : World) : (Op.stringOp .add (Str a) (Str b)).run P w = .ok (.string (Str c)) w := by
  subst h
  have := run_string_add_sum (P := P) w (Str a) (Str b) (by rw [Str_size, Str_size]; simp at hl; omega)
  rw [this]
  congr 2
set_option maxRecDepth 100000 in
set_option maxHeartbeats 4000000 in
/-- (Node).often. -/
theorem often_c (k mn mx : Int) (x0 x1 x2 x3 : Nat) (a : Option Addr) (nl c : Nat) (t : List UInt8) (w : World) (h0 : 0 ≤ mn) (h1 : mn ≤ 40) (h2 : mx = -1 ∨ (0 ≤ mx ∧ mx ≤ 40)) :
    Calls Tryd.prog 115 #[.agg #[.int .i64 k, .int .u64 (x0 : Int), .int .u64 (x1 : Int), .int .u64 (x2 : Int), .int .u64 (x3 : Int), .slice a nl c, .int .i64 mn, .int .i64 mx, .string (Str t)]] w fun e w' => e = .returned (.string (Str (often mn mx))) ∧ Below w.heap.size w w' := by
  obtain ⟨m, rfl⟩ : ∃ m : Nat, mn = (m : Int) := ⟨mn.toNat, by omega⟩
  have hf := fun w => figures_c m (by omega) w
  have hs := heap_alloc_new w (.cells #[.int .i64 k, .int .u64 (x0 : Int), .int .u64 (x1 : Int), .int .u64 (x2 : Int), .int .u64 (x3 : Int), .slice a nl c, .int .i64 (m : Int), .int .i64 mx, .string (Str t)] 37)
  have hB := (Below.refl w.heap.size w).alloc (Nat.le_refl _) (.cells #[.int .i64 k, .int .u64 (x0 : Int), .int .u64 (x1 : Int), .int .u64 (x2 : Int), .int .u64 (x3 : Int), .slice a nl c, .int .i64 (m : Int), .int .i64 mx, .string (Str t)] 37)
  by_cases e1 : mx = -1
  · subst e1
    by_cases z0 : m = 0
    · subst z0
      go_enter Tryd.func115, Tryd.ntmps115
      go_wp2_with fail
      go_ret
      exact ⟨rfl, hB⟩
    · by_cases z1 : m = 1
      · subst z1
        go_enter Tryd.func115, Tryd.ntmps115
        go_wp2_with fail
        go_ret
        exact ⟨rfl, hB⟩
      · have d0 : ((m : Int) == 0) = false := by simp; omega
        have d1 : ((m : Int) == 1) = false := by simp; omega
        have hfl := fgs_len m
        have ho : often (m : Int) (-1) = 123 :: (fgs m ++ [44, 125]) := by unfold often; rw [if_neg (by omega), if_neg (by omega), if_neg (by omega), if_pos rfl]; rfl
        rw [ho]
        obtain ⟨X, hX⟩ : ∃ X, fgs m = X := ⟨_, rfl⟩
        rw [hX] at hf hfl ⊢
        obtain ⟨Y, hY⟩ : ∃ Y, 123 :: X = Y := ⟨_, rfl⟩
        obtain ⟨Z, hZ⟩ : ∃ Z, 123 :: (X ++ [44, 125]) = Z := ⟨_, rfl⟩
        have a1 : ∀ w, (Op.stringOp .add ⟨#[123]⟩ (Str X)).run Tryd.prog w = .ok (.string (Str Y)) w := add_to (a := [123]) (by simpa using hY) (by rw [← hY]; simp; omega)
        have a2 : ∀ w, (Op.stringOp .add (Str Y) ⟨#[44, 125]⟩).run Tryd.prog w = .ok (.string (Str Z)) w := add_to (b := [44, 125]) (by rw [← hY, ← hZ]; rfl) (by rw [← hZ]; simp; omega)
        rw [hZ]
        have HF := Lib.hid hf
        have HB := Lib.hid hB
        clear hf hB ho z0 z1 hX hY hZ hfl
        go_enter Tryd.func115, Tryd.ntmps115
        go_wp2_with (go_at_call 136; (with_reducible refine (HF.out _).mono ?_); rintro e w2 ⟨rfl, hb2⟩)
        go_ret
        exact ⟨rfl, HB.out.trans (hb2.mono HB.out.size)⟩
  · obtain ⟨q, rfl⟩ : ∃ q : Nat, mx = (q : Int) := ⟨mx.toNat, by omega⟩
    have dm : ((q : Int) == -1) = false := by simp
    have hg := fun w => figures_c q (by omega) w
    have hfl := fgs_len m
    have hgl := fgs_len q
    by_cases zz : m = 0 ∧ q = 1
    · obtain ⟨rfl, rfl⟩ := zz
      have ho : often ((0 : Nat) : Int) ((1 : Nat) : Int) = [63] := rfl
      go_enter Tryd.func115, Tryd.ntmps115
      go_wp2_with fail
      go_ret
      exact ⟨rfl, hB⟩
    · by_cases he : m = q
      · subst he
        have ho : often (m : Int) (m : Int) = 123 :: (fgs m ++ [125]) := by unfold often; rw [if_neg (by omega), if_neg (by omega), if_neg (by omega), if_neg (by omega), if_pos rfl]; rfl
        rw [ho]
        obtain ⟨X, hX⟩ : ∃ X, fgs m = X := ⟨_, rfl⟩
        rw [hX] at hf hfl ⊢
        obtain ⟨Y, hY⟩ : ∃ Y, 123 :: X = Y := ⟨_, rfl⟩
        obtain ⟨Z, hZ⟩ : ∃ Z, 123 :: (X ++ [125]) = Z := ⟨_, rfl⟩
        have a1 : ∀ w, (Op.stringOp .add ⟨#[123]⟩ (Str X)).run Tryd.prog w = .ok (.string (Str Y)) w := add_to (a := [123]) (by simpa using hY) (by rw [← hY]; simp; omega)
        have a2 : ∀ w, (Op.stringOp .add (Str Y) ⟨#[125]⟩).run Tryd.prog w = .ok (.string (Str Z)) w := add_to (b := [125]) (by rw [← hY, ← hZ]; rfl) (by rw [← hZ]; simp; omega)
        rw [hZ]
        have HF := Lib.hid hf
        have HB := Lib.hid hB
        have g0 : m ≠ 0 ∨ m ≠ 1 := by omega
        have d2 : ((m : Int) == 0 && (m : Int) == 1) = false := by simp; omega
        by_cases z0 : m = 0
        · subst z0
          have hf0 : ∀ w, Calls Tryd.prog 136 #[.int .i64 0] w fun e w' => e = .returned (.string (Str X)) ∧ Below w.heap.size w w' := hf
          have HF := Lib.hid hf0
          clear hf0 hf hg hB ho hX hY hZ hfl hgl
          go_enter Tryd.func115, Tryd.ntmps115
          go_wp2_with (go_at_call 136; (with_reducible refine (HF.out _).mono ?_); rintro e w2 ⟨rfl, hb2⟩)
          go_ret
          exact ⟨rfl, HB.out.trans (hb2.mono HB.out.size)⟩
        · have d0 : ((m : Int) == 0) = false := by simp; omega
          clear hf hg hB ho hX hY hZ hfl hgl z0
          by_cases z1 : m = 1
          · subst z1
            have hf0 : ∀ w, Calls Tryd.prog 136 #[.int .i64 1] w fun e w' => e = .returned (.string (Str X)) ∧ Below w.heap.size w w' := HF.out
            have HF := Lib.hid hf0
            clear hf0
            go_enter Tryd.func115, Tryd.ntmps115
            go_wp2_with (go_at_call 136; (with_reducible refine (HF.out _).mono ?_); rintro e w2 ⟨rfl, hb2⟩)
            go_ret
            exact ⟨rfl, HB.out.trans (hb2.mono HB.out.size)⟩
          · have d1 : ((m : Int) == 1) = false := by simp; omega
            go_enter Tryd.func115, Tryd.ntmps115
            go_wp2_with (go_at_call 136; (with_reducible refine (HF.out _).mono ?_); rintro e w2 ⟨rfl, hb2⟩)
            go_ret
            exact ⟨rfl, HB.out.trans (hb2.mono HB.out.size)⟩
      · have ho : often (m : Int) (q : Int) = 123 :: (fgs m ++ 44 :: (fgs q ++ [125])) := by unfold often; rw [if_neg (by omega), if_neg (by omega), if_neg (by omega), if_neg (by omega), if_neg (by omega)]; rfl
        rw [ho]
        obtain ⟨X, hX⟩ : ∃ X, fgs m = X := ⟨_, rfl⟩
        obtain ⟨V, hV⟩ : ∃ V, fgs q = V := ⟨_, rfl⟩
        rw [hX] at hf hfl ⊢
        rw [hV] at hg hgl ⊢
        obtain ⟨Y, hY⟩ : ∃ Y, 123 :: X = Y := ⟨_, rfl⟩
        obtain ⟨U, hU⟩ : ∃ U, 123 :: (X ++ [44]) = U := ⟨_, rfl⟩
        obtain ⟨R, hR⟩ : ∃ R, 123 :: (X ++ 44 :: V) = R := ⟨_, rfl⟩
        obtain ⟨Z, hZ⟩ : ∃ Z, 123 :: (X ++ 44 :: (V ++ [125])) = Z := ⟨_, rfl⟩
        have a1 : ∀ w, (Op.stringOp .add ⟨#[123]⟩ (Str X)).run Tryd.prog w = .ok (.string (Str Y)) w := add_to (a := [123]) (by simpa using hY) (by rw [← hY]; simp; omega)
        have a2 : ∀ w, (Op.stringOp .add (Str Y) ⟨#[44]⟩).run Tryd.prog w = .ok (.string (Str U)) w := add_to (b := [44]) (by rw [← hY, ← hU]; rfl) (by rw [← hU]; simp; omega)
        have a3 : ∀ w, (Op.stringOp .add (Str U) (Str V)).run Tryd.prog w = .ok (.string (Str R)) w := add_to (by rw [← hU, ← hR]; simp) (by rw [← hR]; simp; omega)
        have a4 : ∀ w, (Op.stringOp .add (Str R) ⟨#[125]⟩).run Tryd.prog w = .ok (.string (Str Z)) w := add_to (b := [125]) (by rw [← hR, ← hZ]; simp) (by rw [← hZ]; simp; omega)
        rw [hZ]
        have dq : ((m : Int) == (q : Int)) = false := by simp; omega
        obtain ⟨M, hM⟩ : ∃ M : Int, (m : Int) = M := ⟨_, rfl⟩
        obtain ⟨Q, hQ⟩ : ∃ Q : Int, (q : Int) = Q := ⟨_, rfl⟩
        have hzz : ¬ (M = 0 ∧ Q = 1) := by rintro ⟨rfl, rfl⟩; exact zz ⟨by omega, by omega⟩
        rw [hM] at dq hf hs hB ⊢
        rw [hQ] at dq dm hg hs hB ⊢
        obtain ⟨W1, hW1⟩ : ∃ W1, w.alloc (.cells #[.int .i64 k, .int .u64 (x0 : Int), .int .u64 (x1 : Int), .int .u64 (x2 : Int), .int .u64 (x3 : Int), .slice a nl c, .int .i64 M, .int .i64 Q, .string (Str t)] 37) = W1 := ⟨_, rfl⟩
        rw [hW1] at hs hB
        have hkb : ∀ W, Below W1.heap.size W1 W → W.cell? ⟨w.heap.size, 7, none⟩ = some (.int .i64 Q) ∧ W.cell? ⟨w.heap.size, 6, none⟩ = some (.int .i64 M) := fun W hb => by
          have := (hb.block _ (block_lt hs)).trans hs
          rw [cell_block (show _ = some (Obj.cells _ _ _) from this), cell_block (show _ = some (Obj.cells _ _ _) from this)]
          exact ⟨rfl, rfl⟩
        obtain ⟨k7, k6⟩ := hkb W1 (Below.refl _ _)
        have HK := Lib.hid hkb
        have HF := Lib.hid hf
        have HG := Lib.hid hg
        have HB := Lib.hid hB
        have HW1 := Lib.hid hW1
        clear hf hg hB ho hX hV hY hU hR hZ hfl hgl hkb hs hW1 zz he hM hQ e1 h0 h1 h2
        by_cases z0 : M = 0
        · subst z0
          have d1 : (Q == 1) = false := by simpa using hzz
          clear hzz
          go_enter Tryd.func115, Tryd.ntmps115
          go_wp2_with fail
          rw [HW1.out]
          have y0 : Below W1.heap.size W1 W1.drew := (Below.refl _ _).drew
          (first
            | (go_region_held3 (fun W => W.cell? ⟨w.heap.size, 7, none⟩ = some (.int .i64 Q) ∧ W.cell? ⟨w.heap.size, 6, none⟩ = some (.int .i64 0))
              (first | exact HK.out _ y2 | exact HK.out _ y1 | exact HK.out _ y0)
              ((first
                  | (go_at_call 136; (with_reducible refine (HF.out _).mono ?_); rintro e w2 ⟨rfl, hb2⟩
                     have y1 := y0.trans (hb2.mono y0.size))
                  | (go_at_call 136; (with_reducible refine (HG.out _).mono ?_); rintro e w3 ⟨rfl, hb3⟩
                     have y2 := y1.trans (hb3.mono y1.size)))))
            | fail)
          go_wp2
          go_ret
          exact ⟨rfl, HB.out.trans (y2.mono HB.out.size)⟩
        · have d0 : (M == 0) = false := by simpa using z0
          clear hzz z0
          by_cases z1 : M = 1
          · subst z1
            go_enter Tryd.func115, Tryd.ntmps115
            go_wp2_with fail
            rw [HW1.out]
            have y0 : Below W1.heap.size W1 W1.drew := (Below.refl _ _).drew
            (first
              | (go_region_held3 (fun W => W.cell? ⟨w.heap.size, 7, none⟩ = some (.int .i64 Q) ∧ W.cell? ⟨w.heap.size, 6, none⟩ = some (.int .i64 1))
                (first | exact HK.out _ y2 | exact HK.out _ y1 | exact HK.out _ y0)
                ((first
                    | (go_at_call 136; (with_reducible refine (HF.out _).mono ?_); rintro e w2 ⟨rfl, hb2⟩
                       have y1 := y0.trans (hb2.mono y0.size))
                    | (go_at_call 136; (with_reducible refine (HG.out _).mono ?_); rintro e w3 ⟨rfl, hb3⟩
                       have y2 := y1.trans (hb3.mono y1.size)))))
              | fail)
            go_wp2
            go_ret
            exact ⟨rfl, HB.out.trans (y2.mono HB.out.size)⟩
          · have d1 : (M == 1) = false := by simpa using z1
            clear z1
            go_enter Tryd.func115, Tryd.ntmps115
            go_wp2_with fail
            rw [HW1.out]
            have y0 : Below W1.heap.size W1 W1.drew := (Below.refl _ _).drew
            (first
              | (go_region_held3 (fun W => W.cell? ⟨w.heap.size, 7, none⟩ = some (.int .i64 Q) ∧ W.cell? ⟨w.heap.size, 6, none⟩ = some (.int .i64 M))
                (first | exact HK.out _ y2 | exact HK.out _ y1 | exact HK.out _ y0)
                ((first
                    | (go_at_call 136; (with_reducible refine (HF.out _).mono ?_); rintro e w2 ⟨rfl, hb2⟩
                       have y1 := y0.trans (hb2.mono y0.size))
                    | (go_at_call 136; (with_reducible refine (HG.out _).mono ?_); rintro e w3 ⟨rfl, hb3⟩
                       have y2 := y1.trans (hb3.mono y1.size)))))
              | fail)
            go_wp2
            go_ret
            exact ⟨rfl, HB.out.trans (y2.mono HB.out.size)⟩
end Tr
end Go.Proofs.YteekonojmpihlaaDoor

/- dofferref07.small. -/
namespace Go.Proofs.YteekonojmpihlaaDoor
open Go Go.RowKit Kt St Sp Bk
namespace Tr
set_option maxRecDepth 100000 in
set_option maxHeartbeats 2000000 in
/-- dofferref07.small. -/
theorem small_c (n : Nat) (hn : n ≤ 99) (w : World) : Calls Tryd.prog 89 #[.int .i64 (n : Int)] w fun e w' => e = .returned (.string (Str (fgs n))) ∧ Below w.heap.size w w' := by
  by_cases h : 10 ≤ n
  · have hj : [dg (n / 10 % 10)] ++ [dg (n % 10)] = fgs n := by rw [fgs_hi n h]; rfl
    have ha : ∀ w, (Op.stringOp .add (Str [dg (n / 10 % 10)]) (Str [dg (n % 10)])).run Tryd.prog w = .ok (.string (Str (fgs n))) w := add_to hj (by rw [← hj]; simp)
    have hd : decide ((9 : Int) < (n : Int)) = true := by simp; omega
    go_enter Tryd.func89, Tryd.ntmps89
    go_wp2_with fail
    rw [conv_rd Tryd.underlying129 Tryd.underlying5 Tryd.underlying9 [dg (n % 10)] (n := 1) rfl ?hr]
    case hr =>
      refine Rd.new _ _ _ _ _ ?_
      simp [u8s, dg_val _ (show n % 10 < 200 by omega)]
    go_wp2_with fail
    rw [conv_rd Tryd.underlying129 Tryd.underlying5 Tryd.underlying9 [dg (n / 10 % 10)] (n := 1) rfl ?hr2]
    case hr2 =>
      have hz : (w.alloc (Obj.cells #[Value.int IntKind.u8 (48 + ↑n % 10)] 5)).heap.size = w.heap.size + 1 := by simp
      rw [← hz]
      refine Rd.new _ _ _ _ _ ?_
      simp [u8s, dg_val _ (show n / 10 % 10 < 200 by omega)]
      omega
    go_wp2
    go_ret
    exact ⟨rfl, ((Below.refl _ w).alloc (Nat.le_refl _) _).alloc (by simp) _⟩
  · rw [fgs_lo n h]
    have hd : decide ((9 : Int) < (n : Int)) = false := by simp; omega
    go_enter Tryd.func89, Tryd.ntmps89
    go_wp2_with fail
    rw [conv_rd Tryd.underlying129 Tryd.underlying5 Tryd.underlying9 [dg (n % 10)] (n := 1) rfl ?hr]
    case hr =>
      refine Rd.new _ _ _ _ _ ?_
      simp [u8s, dg_val _ (show n % 10 < 200 by omega)]
    go_wp2
    go_ret
    exact ⟨rfl, (Below.refl _ w).alloc (Nat.le_refl _) _⟩
end Tr
end Go.Proofs.YteekonojmpihlaaDoor
