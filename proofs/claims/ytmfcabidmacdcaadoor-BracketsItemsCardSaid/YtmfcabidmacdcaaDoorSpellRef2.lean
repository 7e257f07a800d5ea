/- The document's Read: dofferref05.Read answers rd. -/
import Derived.Test.YtmfcabidmacdcaaDoorSpellRef
import Derived.Deep.RegionHeld3
namespace Go.Proofs.YtmfcabidmacdcaaDoor
open Go Go.RowKit Kt
namespace Sp

def resN (r : Int × Nat × Nat) : Value := .tuple #[.int .u8 r.1, .int .i64 (r.2.1 : Int), .int .i64 (r.2.2 : Int)]
set_option maxHeartbeats 2000000 in
set_option maxRecDepth 100000 in
theorem rread_c (s : ByteArray) (i : Nat) (hsz : s.size ≤ 1000000) (w : World) :
    Calls Tryd.prog 108 #[.string s, .int .i64 i] w fun e w' => e = .returned (resN (rd s.data.toList i)) ∧ Below w.heap.size w w' := by
  have hb := Below.refl w.heap.size w
  have hsl := size_list s
  unfold rd
  rw [← hsl]
  obtain ⟨n, hn⟩ : ∃ n, s.size = n := ⟨_, rfl⟩
  rw [hn] at hsl hsz ⊢
  by_cases h0 : i < n
  · obtain ⟨c, hc⟩ := get_lt (l := s.data.toList) (i := i) (by omega)
    have ix := fun w => idx_run Tryd.underlying9 s .i64 (i : Int) i c rfl hc w
    rw [drop_get hc]
    by_cases h92 : c = 92
    · subst h92
      simp only [UInt8.reduceToNat, Int.cast_ofNat_Int] at ix
      by_cases h1 : i + 1 < n
      · obtain ⟨d, hd⟩ := get_lt (l := s.data.toList) (i := i + 1) (by omega)
        have iy := fun w => idx_run Tryd.underlying9 s .i64 ((i : Int) + 1) (i + 1) d (by omega) hd w
        rw [drop_get hd]
        have q1 : ((i : Int) == (n : Int) - 1) = false := by simp; omega
        by_cases he : d = 110 ∨ d = 116 ∨ d = 114 ∨ d = 115
        · have Hb := Lib.hid hb
          have Hn := Lib.hid hsl
          clear hb hsl hc hd
          rcases he with rfl | rfl | rfl | rfl
          all_goals
            simp only [UInt8.reduceToNat, Int.cast_ofNat_Int] at iy
            go_enter Tryd.func108, Tryd.ntmps108
            go_wp2
            go_ret3
            exact ⟨rfl, Hb.out⟩
        · have g1 : d ≠ 110 := fun h => he (.inl h)
          have g2 : d ≠ 116 := fun h => he (.inr (.inl h))
          have g3 : d ≠ 114 := fun h => he (.inr (.inr (.inl h)))
          have g4 : d ≠ 115 := fun h => he (.inr (.inr (.inr h)))
          by_cases h120 : d = 120
          · subst h120
            rw [rdt_pair _ _ _ (by rw [List.length_drop]; omega)]
            rw [show i + 1 + 1 = i + 2 by omega]
            simp only [UInt8.reduceToNat, Int.cast_ofNat_Int] at iy
            clear g1 g2 g3 g4 he
            by_cases h2 : i + 2 < n
            · obtain ⟨x, hx⟩ := get_lt (l := s.data.toList) (i := i + 2) (by omega)
              have iz := fun w => idx_run Tryd.underlying9 s .i64 ((i : Int) + 2) (i + 2) x (by omega) hx w
              have q2 : ((i : Int) + 2 == (n : Int)) = false := by simp; omega
              rw [drop_get hx]
              have HX := Lib.hid (rfigure_c x)
              by_cases hfx : fig x < 0
              · have hr : prt (i + 2) (x :: s.data.toList.drop (i + 2 + 1)) = (0, i + 2, 4) := by rw [prt.eq_def]; simp [hfx]
                rw [hr]
                have Hb := Lib.hid hb
                clear hb hsl hc hd hr hx
                generalize fig x = fx at *
                go_enter Tryd.func108, Tryd.ntmps108
                go_wp2_with fail
                refine (HX.out _).mono ?_
                rintro e w1 ⟨rfl, rfl⟩
                go_wp2
                go_ret3
                exact ⟨rfl, Hb.out⟩
              · by_cases h3 : i + 3 < n
                · obtain ⟨y, hy⟩ := get_lt (l := s.data.toList) (i := i + 3) (by omega)
                  have iw := fun w => idx_run Tryd.underlying9 s .i64 ((i : Int) + 3) (i + 3) y (by omega) hy w
                  have q3 : ((i : Int) + 3 == (n : Int)) = false := by simp; omega
                  rw [show i + 2 + 1 = i + 3 by omega, drop_get hy]
                  have HY := Lib.hid (rfigure_c y)
                  by_cases hfy : fig y < 0
                  · have hr : prt (i + 2) (x :: y :: s.data.toList.drop (i + 3 + 1)) = (0, i + 3, 4) := by simp only [prt, if_neg hfx, if_pos hfy]
                    rw [hr]
                    have Hb := Lib.hid hb
                    clear hb hsl hc hd hr hx hy
                    generalize fig x = fx at *
                    generalize fig y = fy at *
                    go_enter Tryd.func108, Tryd.ntmps108
                    go_wp2_with fail
                    refine (HX.out _).mono ?_
                    rintro e w1 ⟨rfl, rfl⟩
                    go_wp2_with fail
                    refine (HY.out _).mono ?_
                    rintro e w1 ⟨rfl, rfl⟩
                    go_wp2
                    go_ret3
                    exact ⟨rfl, Hb.out⟩
                  · have hr : prt (i + 2) (x :: y :: s.data.toList.drop (i + 3 + 1)) = (16 * fig x + fig y, i + 4, 0) := by simp only [prt, if_neg hfx, if_neg hfy]
                    rw [hr]
                    have Hb := Lib.hid hb
                    have f1 := (fig_le x).2
                    have f2 := (fig_le y).2
                    clear hb hsl hc hd hr hx hy
                    generalize fig x = fx at *
                    generalize fig y = fy at *
                    have HQX := Lib.hid (fun w => (HX.out w).mono (fun _ _ (h : _ ∧ _) => (⟨h.1, h.2.symm⟩ : _ ∧ _)))
                    have HQY := Lib.hid (fun w => (HY.out w).mono (fun _ _ (h : _ ∧ _) => (⟨h.1, h.2.symm⟩ : _ ∧ _)))
                    have hw : (16 * fx + fy) % 256 = 16 * fx + fy := by omega
                    go_enter Tryd.func108, Tryd.ntmps108
                    go_wp2_with fail
                    refine (HX.out _).mono ?_
                    rintro e w1 ⟨rfl, rfl⟩
                    go_wp2_with fail
                    refine (HY.out _).mono ?_
                    rintro e w1 ⟨rfl, rfl⟩
                    go_wp2_with fail
                    go_quiet ((go_at_call 149; first | with_reducible exact Calls.quiet_of_same (HQX.out _) | with_reducible exact Calls.quiet_of_same (HQY.out _)))
                    go_wp2
                    go_ret3
                    exact ⟨rfl, below_drewN Hb.out _⟩
                · have hnil : s.data.toList.drop (i + 2 + 1) = [] := List.drop_eq_nil_of_le (by omega)
                  have hr : prt (i + 2) [x] = (0, i + 3, 2) := by simp only [prt, if_neg hfx]
                  rw [hnil, hr]
                  have hn3 : n = i + 3 := by omega
                  have q3 : ((i : Int) + 3 == (n : Int)) = true := by simp; omega
                  have Hb := Lib.hid hb
                  have Hn3 := Lib.hid hn3
                  clear hb hsl hc hd hr hx hnil hn3
                  generalize fig x = fx at *
                  go_enter Tryd.func108, Tryd.ntmps108
                  go_wp2_with fail
                  refine (HX.out _).mono ?_
                  rintro e w1 ⟨rfl, rfl⟩
                  go_wp2
                  go_ret3
                  exact ⟨by rw [Hn3.out]; rfl, Hb.out⟩
            · have hnil : s.data.toList.drop (i + 2) = [] := List.drop_eq_nil_of_le (by omega)
              have q2 : ((i : Int) + 2 == (n : Int)) = true := by simp; omega
              have hn2 : n = i + 2 := by omega
              rw [hnil]
              have Hb := Lib.hid hb
              have Hn2 := Lib.hid hn2
              clear hb hsl hc hd hnil hn2
              go_enter Tryd.func108, Tryd.ntmps108
              go_wp2
              go_ret3
              exact ⟨by rw [Hn2.out]; rfl, Hb.out⟩
          · have hlt := d.toNat_lt
            have k1 : ((d.toNat : Int) == 110) = false := by simp; intro e; exact g1 (UInt8.toNat_inj.1 (by simp; omega))
            have k2 : ((d.toNat : Int) == 116) = false := by simp; intro e; exact g2 (UInt8.toNat_inj.1 (by simp; omega))
            have k3 : ((d.toNat : Int) == 114) = false := by simp; intro e; exact g3 (UInt8.toNat_inj.1 (by simp; omega))
            have k4 : ((d.toNat : Int) == 115) = false := by simp; intro e; exact g4 (UInt8.toNat_inj.1 (by simp; omega))
            have k5 : ((d.toNat : Int) == 120) = false := by simp; intro e; exact h120 (UInt8.toNat_inj.1 (by simp; omega))
            have HR : rdt n i (92 :: d :: s.data.toList.drop (i + 1 + 1)) = if mark d then ((d.toNat : Int), i + 2, 0) else (0, i + 1, 4) := by simp [rdt, g1, g2, g3, g4, h120]
            have Hb := Lib.hid hb
            rcases (show (33 ≤ d.toNat ∧ d.toNat ≤ 47 ∨ 58 ≤ d.toNat ∧ d.toNat ≤ 64 ∨ 91 ≤ d.toNat ∧ d.toNat ≤ 96 ∨ 123 ≤ d.toNat ∧ d.toNat ≤ 126) ∨ (d.toNat < 33 ∨ 48 ≤ d.toNat ∧ d.toNat ≤ 57 ∨ 65 ≤ d.toNat ∧ d.toNat ≤ 90 ∨ 97 ≤ d.toNat ∧ d.toNat ≤ 122 ∨ 126 < d.toNat) by omega) with hm | hm
            · have hmk : mark d = true := by unfold mark; simp; omega
              rw [HR, hmk, if_pos rfl]
              clear HR hmk g1 g2 g3 g4 he hb hsl hc hd h120
              generalize d.toNat = dn at *
              rcases hm with ⟨a1, a2⟩ | ⟨a1, a2⟩ | ⟨a1, a2⟩ | ⟨a1, a2⟩
              all_goals
                go_enter Tryd.func108, Tryd.ntmps108
                go_wp2
                go_ret3
                exact ⟨rfl, Hb.out⟩
            · have hmk : mark d = false := by unfold mark; simp; omega
              rw [HR, hmk, if_neg (by decide)]
              clear HR hmk g1 g2 g3 g4 he hb hsl hc hd h120
              generalize d.toNat = dn at *
              rcases hm with a1 | ⟨a1, a2⟩ | ⟨a1, a2⟩ | ⟨a1, a2⟩ | a1
              all_goals
                go_enter Tryd.func108, Tryd.ntmps108
                go_wp2
                go_ret3
                exact ⟨rfl, Hb.out⟩
      · have hnil : s.data.toList.drop (i + 1) = [] := List.drop_eq_nil_of_le (by omega)
        rw [hnil]
        have q1 : ((i : Int) == (n : Int) - 1) = true := by simp; omega
        have Hb := Lib.hid hb
        clear hb hsl hc hnil
        go_enter Tryd.func108, Tryd.ntmps108
        go_wp2
        go_ret3
        exact ⟨rfl, Hb.out⟩
    · have h92' : ((c.toNat : Int) == 92) = false := by
        simp
        intro h
        exact h92 (UInt8.toNat_inj.1 (by simp; omega))
      have HR : rdt n i (c :: s.data.toList.drop (i + 1)) = ((c.toNat : Int), i + 1, 0) := by rw [rdt.eq_def]; simp [h92]
      rw [HR]
      have Hb := Lib.hid hb
      clear hb hsl hc HR h92
      generalize c.toNat = m at *
      go_enter Tryd.func108, Tryd.ntmps108
      go_wp2
      go_ret3
      exact ⟨rfl, Hb.out⟩
  · have hnil : s.data.toList.drop i = [] := List.drop_eq_nil_of_le (by omega)
    rw [hnil]
    have Hb := Lib.hid hb
    clear hb hsl hnil
    go_enter Tryd.func108, Tryd.ntmps108
    go_wp2
    go_ret3
    exact ⟨rfl, Hb.out⟩
set_option maxRecDepth 100000 in
theorem rread_neg (s : ByteArray) (i : Int) (h0 : i < 0) (w : World) : Calls Tryd.prog 108 #[.string s, .int .i64 i] w fun e w' => e = .returned (resN (0, s.size, 2)) ∧ Below w.heap.size w w' := by
  have Hb := Lib.hid (Below.refl w.heap.size w)
  go_enter Tryd.func108, Tryd.ntmps108
  go_wp2
  go_ret3
  exact ⟨rfl, Hb.out⟩
end Sp
end Go.Proofs.YtmfcabidmacdcaaDoor
