/- The document's brackets: dofferref06.bare, one. -/
import Derived.Test.YtmfcabidmacdcaaDoorBrkPure
import Derived.Test.YtmfcabidmacdcaaDoorSpellRef2
namespace Go.Proofs.YtmfcabidmacdcaaDoor
open Go Go.RowKit Kt Sp
namespace Bk
set_option maxRecDepth 100000 in
theorem rbare_c (c : UInt8) (w : World) : Calls Tryd.prog 107 #[.int .u8 (c.toNat : Int)] w fun e w' => e = .returned (.bool (bare c)) ∧ w = w' := by
  have hk : ∀ k : UInt8, ((c.toNat : Int) == (k.toNat : Int)) = (c == k) := fun k => by
    rw [Bool.eq_iff_iff]
    simp
    constructor
    · intro h; exact UInt8.toNat_inj.1 (by omega)
    · rintro rfl; rfl
  have h1 := hk 91
  have h2 := hk 93
  have h3 := hk 45
  have h4 := hk 47
  simp only [UInt8.reduceToNat, Int.cast_ofNat_Int] at h1 h2 h3 h4
  have hb : bare c = (c == 91 || c == 93 || c == 45 || c == 47) := rfl
  rw [hb]
  clear hk hb
  generalize (c == 91) = b1 at *
  generalize (c == 93) = b2 at *
  generalize (c == 45) = b3 at *
  generalize (c == 47) = b4 at *
  generalize c.toNat = n at *
  cases b1 <;> cases b2 <;> cases b3 <;> cases b4
  all_goals
    go_enter Tryd.func107, Tryd.ntmps107
    go_wp2
    go_ret
    exact ⟨rfl, rfl⟩
set_option maxHeartbeats 1000000 in
set_option maxRecDepth 100000 in
theorem rone_c (s : ByteArray) (i : Nat) (hsz : s.size ≤ 1000000) (w : World) : Calls Tryd.prog 49 #[.string s, .int .i64 (i : Int)] w fun e w' => e = .returned (resN (one s.data.toList i)) ∧ Below w.heap.size w w' := by
  have hR := rread_c s i hsz w
  have hl := size_list s
  by_cases h0 : i < s.size
  · obtain ⟨c, hc⟩ := get_lt (l := s.data.toList) (i := i) (by omega)
    have ix := fun w => idx_run Tryd.underlying9 s .i64 (i : Int) i c rfl hc w
    have hone : one s.data.toList i = if bare c then (0, i, 4) else rd s.data.toList i := by unfold one; rw [hc]
    have HBa := Lib.hid (rbare_c c w)
    rw [hone]
    obtain ⟨b, hb⟩ : ∃ b, bare c = b := ⟨_, rfl⟩
    rw [hb] at HBa ⊢
    have HR := Lib.hid hR
    have HB := Lib.hid (Below.refl w.heap.size w)
    clear hone hR hc hl hb
    generalize c.toNat = n at *
    cases b with
    | true =>
      rw [if_pos rfl]
      go_enter Tryd.func49, Tryd.ntmps49
      go_wp2_with (go_at_call 107; (with_reducible refine HBa.out.mono ?_); rintro e w1 ⟨rfl, rfl⟩)
      go_ret3
      exact ⟨rfl, HB.out⟩
    | false =>
      rw [if_neg (by simp)]
      obtain ⟨r, hr⟩ : ∃ r, rd s.data.toList i = r := ⟨_, rfl⟩
      rw [hr] at HR ⊢
      unfold resN at HR ⊢
      clear hr
      go_enter Tryd.func49, Tryd.ntmps49
      go_wp2_with (first
        | (go_at_call 107; (with_reducible refine HBa.out.mono ?_); rintro e w1 ⟨rfl, rfl⟩)
        | (go_at_call 108; (with_reducible refine HR.out.mono ?_); rintro e w1 ⟨rfl, hb1⟩))
      go_ret3
      exact ⟨rfl, hb1⟩
  · have hone : one s.data.toList i = rd s.data.toList i := by unfold one; rw [List.getElem?_eq_none (by omega)]
    rw [hone]
    have HR := Lib.hid hR
    obtain ⟨r, hr⟩ : ∃ r, rd s.data.toList i = r := ⟨_, rfl⟩
    rw [hr] at HR ⊢
    unfold resN at HR ⊢
    clear hr hone hl hR
    go_enter Tryd.func49, Tryd.ntmps49
    go_wp2_with (go_at_call 108; (with_reducible refine HR.out.mono ?_); rintro e w1 ⟨rfl, hb1⟩)
    go_ret3
    exact ⟨rfl, hb1⟩
end Bk
end Go.Proofs.YtmfcabidmacdcaaDoor
