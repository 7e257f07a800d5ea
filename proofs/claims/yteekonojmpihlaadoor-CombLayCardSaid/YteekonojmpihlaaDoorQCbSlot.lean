/- Package comb: slot. -/
import Derived.Test.YteekonojmpihlaaDoorQCbAt
namespace Go.Proofs.YteekonojmpihlaaDoor
namespace Kt
end Kt
open Go Go.RowKit Kt
namespace Cb
set_option maxRecDepth 100000 in
set_option maxHeartbeats 1000000 in
theorem slot_c (c : Cs) (i : Nat) (hi : i < c.check.length) (hnx : c.next.length = c.check.length) (hl : c.check.length ≤ 65536) (_hl2 : c.base.length ≤ 200) (hbs : ∀ r, r < c.base.length → 0 ≤ c.base.getD r 0 ∧ c.base.getD r 0 < 65536) (w : World) (hI : Is w c) :
    Calls Tryd.prog 81 #[cv c, .int .i64 (i : Int)] w fun e w' => e = .returned (.bool (slotOk c i)) ∧ Below w.heap.size w w' := by
  have hcv : cv c = .agg #[.int .i64 c.wide, .slice c.a1 c.base.length c.c1, .slice c.a2 c.dflt.length c.c2, .slice c.a3 c.next.length c.c3, .slice c.a4 c.check.length c.c4] := rfl
  rw [hcv]
  obtain ⟨W1, hW1⟩ : ∃ W1, w.alloc (.cells #[.int .i64 c.wide, .slice c.a1 c.base.length c.c1, .slice c.a2 c.dflt.length c.c2, .slice c.a3 c.next.length c.c3, .slice c.a4 c.check.length c.c4] 71 (0, 0)) = W1 := ⟨_, rfl⟩
  have b1 : Below w.heap.size w W1 := by rw [← hW1]; exact (Below.refl _ _).alloc (Nat.le_refl _) _
  have s1 : W1.heap[w.heap.size]? = some (.cells #[.int .i64 c.wide, .slice c.a1 c.base.length c.c1, .slice c.a2 c.dflt.length c.c2, .slice c.a3 c.next.length c.c3, .slice c.a4 c.check.length c.c4] 71 (0, 0)) := by rw [← hW1]; exact heap_alloc_new _ _
  obtain ⟨z0, z1, z2, z3, z4⟩ := box5 s1
  have hI1 := hI.below b1
  obtain ⟨n1, hn1⟩ : ∃ n1, c.base.length = n1 := ⟨_, rfl⟩
  obtain ⟨n4, hn4⟩ : ∃ n4, c.check.length = n4 := ⟨_, rfl⟩
  obtain ⟨g, o4, ha4, e4⟩ := rd_i64 hI1.r4 i hi
  obtain ⟨f, o3, ha3, e3⟩ := rd_i64 hI1.r3 i (by omega)
  obtain ⟨ck, hck⟩ : ∃ ck, c.check.getD i 0 = ck := ⟨_, rfl⟩
  obtain ⟨nx, hnxv⟩ : ∃ nx, c.next.getD i 0 = nx := ⟨_, rfl⟩
  have hso : slotOk c i = if ck = -1 then decide (nx = 0) else !outb ck n1 && (!outb ((i : Int) - c.base.getD ck.toNat 0) c.wide && !outb nx n1) := by
    unfold slotOk
    rw [hck, hnxv, hn1]
  have hr1 := hI1.r1
  rw [hck] at e4
  rw [hnxv] at e3
  rw [ha4] at z4
  rw [ha3] at z3
  rw [ha4, ha3] at hW1
  rw [ha4, ha3, hso]
  rw [hnx, hn1, hn4] at hW1
  rw [hnx, hn1, hn4]
  rw [hn1] at z1 _hl2 hbs
  rw [hnx, hn4] at z3
  rw [hn4] at z4 hi hl
  obtain ⟨wd, hwd⟩ : ∃ wd, c.wide = wd := ⟨_, rfl⟩
  rw [hwd] at z0 hW1 ⊢
  have HW1 := Lib.hid hW1
  have HB1 := Lib.hid b1
  have hii : (i : Int) < (n4 : Int) := by omega
  have hi0 : (0 : Int) ≤ (i : Int) := by omega
  by_cases hm : ck = -1
  · subst hm
    rw [if_pos rfl]
    by_cases hz : nx = 0
    · subst hz
      clear hcv hW1 hI hI1 s1 b1 hbs hr1 hso hck hnxv
      go_enter Tryd.func81, Tryd.ntmps81
      go_upto_region 1 with (fail)
      rw [HW1.out]
      go_wp2
      go_ret
      exact ⟨rfl, HB1.out⟩
    · have hzd : decide (nx = 0) = false := by simpa using hz
      have hzb : (nx == 0) = false := by simpa using hz
      rw [hzd]
      clear hcv hW1 hI hI1 s1 b1 hbs hr1 hso hck hnxv
      go_enter Tryd.func81, Tryd.ntmps81
      go_upto_region 1 with (fail)
      rw [HW1.out]
      go_wp2
      go_ret
      exact ⟨rfl, HB1.out⟩
  · rw [if_neg hm]
    have hmb : (ck == -1) = false := by simpa using hm
    have hmd : decide (ck = -1) = false := by simpa using hm
    cases hA : outb ck n1 with
    | true =>
      clear hcv hW1 hI hI1 s1 b1 hbs hr1 hso hck hnxv
      go_enter Tryd.func81, Tryd.ntmps81
      go_upto_region 1 with (fail)
      rw [HW1.out]
      go_upto_region 5 with (fail)
      go_quiet ((go_at_call 80; exact Calls.quiet_of_same ((out_c _ _ _).mono fun _ _ ⟨h1, h2⟩ => ⟨h1, h2.symm⟩)))
      go_wp2
      go_ret
      exact ⟨rfl, below_drewN HB1.out _⟩
    | false =>
      have hA2 : 0 ≤ ck ∧ ck < n1 := by simp [outb] at hA; omega
      obtain ⟨r, rfl⟩ : ∃ r : Nat, ck = (r : Int) := ⟨ck.toNat, by omega⟩
      have hrn : r < n1 := by omega
      obtain ⟨b, o, ha1, e1⟩ := rd_i64 hr1 r (by omega)
      obtain ⟨hb0, hb1⟩ := hbs r hrn
      have htn : ((r : Int)).toNat = r := by omega
      rw [htn]
      obtain ⟨B, hB⟩ : ∃ B, c.base.getD r 0 = B := ⟨_, rfl⟩
      rw [hB] at e1 hb0 hb1 ⊢
      rw [ha1] at z1 HW1 ⊢
      have hws : IntKind.i64.wrap ((i : Int) - B) = (i : Int) - B := by rw [IntKind.wrap_i64]; omega
      have hrn2 : (r : Int) < (n1 : Int) := by omega
      have hr0 : (0 : Int) ≤ (r : Int) := by omega
      clear hcv hW1 hI hI1 s1 b1 hbs hr1 hso hck hnxv hB htn ha1
      cases hBb : outb ((i : Int) - B) wd with
      | true =>
        go_enter Tryd.func81, Tryd.ntmps81
        go_upto_region 1 with (fail)
        rw [HW1.out]
        go_upto_region 5 with (fail)
        go_quiet ((go_at_call 80; exact Calls.quiet_of_same ((out_c _ _ _).mono fun _ _ ⟨h1, h2⟩ => ⟨h1, h2.symm⟩)))
        go_wp2
        go_ret
        exact ⟨rfl, below_drewN HB1.out _⟩
      | false =>
        cases hC : outb nx n1 with
        | true =>
          go_enter Tryd.func81, Tryd.ntmps81
          go_upto_region 1 with (fail)
          rw [HW1.out]
          go_upto_region 5 with (fail)
          go_quiet ((go_at_call 80; exact Calls.quiet_of_same ((out_c _ _ _).mono fun _ _ ⟨h1, h2⟩ => ⟨h1, h2.symm⟩)))
          go_wp2
          go_ret
          exact ⟨rfl, below_drewN HB1.out _⟩
        | false =>
          go_enter Tryd.func81, Tryd.ntmps81
          go_upto_region 1 with (fail)
          rw [HW1.out]
          go_upto_region 5 with (fail)
          go_quiet ((go_at_call 80; exact Calls.quiet_of_same ((out_c _ _ _).mono fun _ _ ⟨h1, h2⟩ => ⟨h1, h2.symm⟩)))
          go_wp2
          go_ret
          exact ⟨rfl, below_drewN HB1.out _⟩
end Cb
end Go.Proofs.YteekonojmpihlaaDoor
