/- The document's spellings: dofferref05. -/
import Derived.Test.YtmfcabidmacdcaaDoorSpellRead
import Derived.Laws.Concat
namespace Go.Proofs.YtmfcabidmacdcaaDoor
open Go Go.RowKit Kt
namespace Sp
/-- Two texts, one behind the other. -/
theorem add_run {P : Program} (w : World) (a b : List UInt8) (h : a.length + b.length ≤ 9223372036854775807) : (Op.stringOp .add (Str a) (Str b)).run P w = .ok (.string (Str (a ++ b))) w := by
  have := run_string_add_sum (P := P) w (Str a) (Str b) (by rw [Str_size, Str_size]; exact h)
  rw [this]
  congr 2
theorem one_run {P : Program} {t : TypeId} (ht : P.underlying t = some .string) (l : List UInt8) (k k' : IntKind) (i j : Int) (n : Nat) (x : UInt8) (hi : i = (n : Int)) (hj : j = (n : Int) + 1) (h : l[n]? = some x) (w : World) :
    (Instr.slice t (.string (Str l)) (some (.int k i)) (some (.int k' j)) none).run P w = .ok (.string (Str [x])) w := by
  subst hi hj
  obtain ⟨h1, _⟩ := List.getElem?_eq_some_iff.1 h
  rw [run_slice_string (P := P) w t (Str l) k k' (n : Int) ((n : Int) + 1) ht (by omega) (by omega) (by rw [Str_size]; omega)]
  congr 2
  rw [Lib.extract_eq, Str_toList, Int.toNat_natCast, drop_get h]
  have e : ((n : Int) + 1).toNat - n = 1 := by omega
  rw [e]
  rfl
set_option maxHeartbeats 1000000 in
set_option maxRecDepth 100000 in
theorem in_c (no : List UInt8) (c : UInt8) (hl : no.length ≤ 1000000) (w : World) : Calls Tryd.prog 155 #[.string (Str no), .int .u8 (c.toNat : Int)] w fun e w' => e = .returned (.bool (no.contains c)) ∧ w = w' := by
  have hsz : (Str no).size = no.length := Str_size no
  have hsl : (Str no).data.toList = no := Str_toList no
  obtain ⟨s, hs⟩ : ∃ s, Str no = s := ⟨_, rfl⟩
  rw [hs] at hsz hsl ⊢
  obtain ⟨n, hn⟩ : ∃ n, s.size = n := ⟨_, rfl⟩
  have hln : no.length = n := by omega
  obtain ⟨r, hr⟩ : ∃ r, no.contains c = r := ⟨_, rfl⟩
  rw [hr]
  have Hr := Lib.hid hr
  clear hr
  have Hl := Lib.hid hsl
  have Hln := Lib.hid hln
  rw [hln] at hl
  clear hs hsl hsz hln
  go_enter Tryd.func155, Tryd.ntmps155
  go_wp2
  go_loop [5] (fun i => ∃ k : Nat, k ≤ n ∧ i = .int .i64 k ∧ (no.take k).contains c = false) (fun i => n - (intOf i).toNat)
  case atStart => exact ⟨0, Nat.zero_le _, rfl, rfl⟩
  case round =>
    obtain ⟨k, hk, rfl, hno⟩ := hrel
    have Hno := Lib.hid hno
    clear hno
    by_cases hlt : k < n
    · obtain ⟨d, hd⟩ := get_lt (l := s.data.toList) (i := k) (by rw [Hl.out, Hln.out]; exact hlt)
      have ix := fun w => idx_run Tryd.underlying9 s .i64 (k : Int) k d rfl hd w
      rw [Hl.out] at hd
      have Hd := Lib.hid hd
      clear hd
      by_cases hdc : d = c
      · subst hdc
        go_wp2
        go_ret
        refine ⟨?_, rfl⟩
        have : no.contains d = true := by
          obtain ⟨h1, h2⟩ := List.getElem?_eq_some_iff.1 Hd.out
          simp
          exact h2 ▸ List.getElem_mem h1
        rw [← Hr.out, this]
        rfl
      · have hne : ((d.toNat : Int) == (c.toNat : Int)) = false := by
          simp
          intro h
          exact hdc (UInt8.toNat_inj.1 (by omega))
        have hnx : (no.take (k + 1)).contains c = false := by
          rw [List.take_add_one, Hd.out, List.contains_eq_any_beq, List.any_append, ← List.contains_eq_any_beq, Hno.out]
          simp
          exact fun h => hdc h.symm
        have Hnx := Lib.hid hnx
        clear hnx hdc
        generalize d.toNat = dn at *
        go_wp2
        go_round
        case rel => exact ⟨k + 1, by omega, by go_num, Hnx.out⟩
        case measure => simp [intOf]; omega
    · have hkn : k = n := by omega
      subst hkn
      go_wp2
      go_ret
      refine ⟨?_, rfl⟩
      have := Hno.out
      rw [List.take_of_length_le (by rw [Hln.out]; exact Nat.le_refl _)] at this
      rw [← Hr.out, this]
      rfl
set_option maxHeartbeats 1000000 in
set_option maxRecDepth 100000 in
theorem hex_c (c x y : UInt8) (hx : figs[c.toNat / 16]? = some x) (hy : figs[c.toNat % 16]? = some y) (w : World) : Calls Tryd.prog 154 #[.int .u8 (c.toNat : Int)] w fun e w' => e = .returned (.string (Str [x, y])) ∧ Below w.heap.size w w' := by
  have hlt := c.toNat_lt
  generalize c.toNat = n at *
  have ix := fun w => one_run Tryd.underlying9 figs .u8 .u8 ((n : Int) / 16) ((n : Int) / 16 + 1) (n / 16) x (by omega) (by omega) hx w
  have iy := fun w => one_run Tryd.underlying9 figs .u8 .u8 ((n : Int) % 16) ((n : Int) % 16 + 1) (n % 16) y (by omega) (by omega) hy w
  have ha := fun w => add_run (P := Tryd.prog) w [x] [y] (by simp)
  simp only [List.cons_append, List.nil_append] at ha
  simp only [Str, figs] at ix iy
  have hw1 : ((n : Int) / 16 + 1) % 256 = (n : Int) / 16 + 1 := by omega
  have hw2 : ((n : Int) % 16 + 1) % 256 = (n : Int) % 16 + 1 := by omega
  have Hb := Lib.hid (Below.refl w.heap.size w)
  clear hx hy
  go_enter Tryd.func154, Tryd.ntmps154
  go_wp2
  go_quiet (fail)
  go_wp2
  go_ret
  exact ⟨rfl, below_drewN Hb.out _⟩

set_option maxHeartbeats 2000000 in
set_option maxRecDepth 100000 in
theorem rspelled_c (no : List UInt8) (c : UInt8) (hl : no.length ≤ 1000000) (w : World) : Calls Tryd.prog 114 #[.int .u8 (c.toNat : Int), .string (Str no)] w fun e w' => e = .returned (.string (Str (sp no c))) ∧ Below w.heap.size w w' := by
  have Hb := Lib.hid (Below.refl w.heap.size w)
  unfold sp
  by_cases h : c = 10 ∨ c = 9 ∨ c = 13 ∨ c = 32
  · rcases h with rfl | rfl | rfl | rfl
    all_goals
      simp only [UInt8.reduceToNat, Int.cast_ofNat_Int]
      go_enter Tryd.func114, Tryd.ntmps114
      go_wp2
      go_ret
      exact ⟨rfl, Hb.out⟩
  · have g1 : c ≠ 10 := fun e => h (.inl e)
    have g2 : c ≠ 9 := fun e => h (.inr (.inl e))
    have g3 : c ≠ 13 := fun e => h (.inr (.inr (.inl e)))
    have g4 : c ≠ 32 := fun e => h (.inr (.inr (.inr e)))
    rw [if_neg g1, if_neg g2, if_neg g3, if_neg g4]
    have hlt := c.toNat_lt
    have k1 : ((c.toNat : Int) == 10) = false := by simp; intro e; exact g1 (UInt8.toNat_inj.1 (by simp; omega))
    have k2 : ((c.toNat : Int) == 9) = false := by simp; intro e; exact g2 (UInt8.toNat_inj.1 (by simp; omega))
    have k3 : ((c.toNat : Int) == 13) = false := by simp; intro e; exact g3 (UInt8.toNat_inj.1 (by simp; omega))
    have k4 : ((c.toNat : Int) == 32) = false := by simp; intro e; exact g4 (UInt8.toNat_inj.1 (by simp; omega))
    have hf : ∀ n, n < 16 → figs[n]? = some (figs.getD n 0) := by decide
    have HX := Lib.hid (hex_c c _ _ (hf (c.toNat / 16) (by omega)) (hf (c.toNat % 16) (by omega)) w)
    have HI := Lib.hid (in_c no c hl w)
    by_cases h5 : c.toNat < 33 ∨ 126 < c.toNat
    · rw [if_pos h5]
      generalize figs.getD (c.toNat / 16) 0 = x at *
      generalize figs.getD (c.toNat % 16) 0 = y at *
      generalize c.toNat = n at *
      have ha := fun w => add_run (P := Tryd.prog) w [92, 120] [x, y] (by simp)
      simp only [List.cons_append, List.nil_append] at ha
      have ha' : ∀ w, (Op.stringOp .add ⟨#[92, 120]⟩ (Str [x, y])).run Tryd.prog w = .ok (.string (Str [92, 120, x, y])) w := ha
      clear h g1 g2 g3 g4 hf ha HI
      rcases h5 with h5 | h5
      all_goals
        go_enter Tryd.func114, Tryd.ntmps114
        go_wp2_with fail
        refine HX.out.mono ?_
        rintro e w1 ⟨rfl, hb1⟩
        go_wp2
        go_ret
        exact ⟨rfl, hb1⟩
    · rw [if_neg h5]
      have h33 : ¬ ((c.toNat : Int) < 33) := by omega
      have h126 : ¬ (126 < (c.toNat : Int)) := by omega
      have hl1 := lit_run w [c] #[.int .u8 (c.toNat : Int)] 1 rfl rfl
      have Hb1 := Lib.hid ((Below.refl w.heap.size w).alloc (Nat.le_refl _) (.cells #[.int .u8 (c.toNat : Int)] 5))
      have ha := fun w => add_run (P := Tryd.prog) w [92] [c] (by simp)
      simp only [List.cons_append, List.nil_append] at ha
      have ha' : ∀ w, (Op.stringOp .add ⟨#[92]⟩ (Str [c])).run Tryd.prog w = .ok (.string (Str [92, c])) w := ha
      clear h g1 g2 g3 g4 hf ha HX h5
      generalize no.contains c = b at *
      generalize c.toNat = n at *
      cases b
      all_goals
        go_enter Tryd.func114, Tryd.ntmps114
        go_wp2_with fail
        refine HI.out.mono ?_
        rintro e w1 ⟨rfl, rfl⟩
        go_wp2
        go_ret
        exact ⟨rfl, Hb1.out⟩

set_option maxRecDepth 100000 in
theorem rinner_c (c : UInt8) (w : World) : Calls Tryd.prog 59 #[.int .u8 (c.toNat : Int)] w fun e w' => e = .returned (.string (Str (sp ins c))) ∧ Below w.heap.size w w' := by
  go_enter Tryd.func59, Tryd.ntmps59
  go_wp2_with fail
  refine (rspelled_c ins c (by decide) w).mono ?_
  rintro e w1 ⟨rfl, hb⟩
  go_wp2
  go_ret
  exact ⟨rfl, hb⟩
set_option maxHeartbeats 1000000 in
set_option maxRecDepth 100000 in
theorem rfigure_c (c : UInt8) (w : World) : Calls Tryd.prog 149 #[.int .u8 (c.toNat : Int)] w fun e w' => e = .returned (.int .i64 (fig c)) ∧ w = w' := by
  have hlt := c.toNat_lt
  unfold fig
  generalize c.toNat = n at *
  by_cases h1 : 48 ≤ n ∧ n ≤ 57
  · rw [if_pos h1]
    obtain ⟨h1, h2⟩ := h1
    have hw : ((n : Int) - 48) % 256 = (n : Int) - 48 := by omega
    go_enter Tryd.func149, Tryd.ntmps149
    go_wp2
    go_ret
    exact ⟨rfl, rfl⟩
  · rw [if_neg h1]
    by_cases h2 : 97 ≤ n ∧ n ≤ 102
    · rw [if_pos h2]
      obtain ⟨h2, h3⟩ := h2
      have hw : ((n : Int) - 97) % 256 = (n : Int) - 97 := by omega
      have hw2 : (n : Int) - 97 + 10 = (n : Int) - 87 := by omega
      clear h1
      go_enter Tryd.func149, Tryd.ntmps149
      go_wp2
      go_ret
      exact ⟨by first | rfl | (rw [← hw2]; rfl), rfl⟩
    · rw [if_neg h2]
      by_cases h3 : 65 ≤ n ∧ n ≤ 70
      · rw [if_pos h3]
        obtain ⟨h3, h4⟩ := h3
        have hw : ((n : Int) - 65) % 256 = (n : Int) - 65 := by omega
        have hw2 : (n : Int) - 65 + 10 = (n : Int) - 55 := by omega
        clear h1 h2
        go_enter Tryd.func149, Tryd.ntmps149
        go_wp2
        go_ret
        exact ⟨by first | rfl | (rw [← hw2]; rfl), rfl⟩
      · rw [if_neg h3]
        go_enter Tryd.func149, Tryd.ntmps149
        go_wp2
        all_goals (go_ret; exact ⟨by first | rfl | omega, rfl⟩)
end Sp
end Go.Proofs.YtmfcabidmacdcaaDoor
