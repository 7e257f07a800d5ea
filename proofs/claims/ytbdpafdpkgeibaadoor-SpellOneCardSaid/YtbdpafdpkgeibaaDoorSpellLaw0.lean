/- The laws SpellWrites, SpellReads: their walks. Condition: the sentinels read as laid. -/
import Derived.Test.YtbdpafdpkgeibaaDoorSpellRef2
namespace Go.Proofs.YtbdpafdpkgeibaaDoor
open Go Go.RowKit Kt
namespace Sp
theorem rd_ex : rd [92, 120, 52, 97] 0 = (74, 4, 0) := by decide
theorem sp_ex : sp outs 10 = [92, 110] := by decide
set_option maxHeartbeats 1000000 in
set_option maxRecDepth 100000 in
theorem alive_c (A : Nat → Addr) (w : World) (hs : Sent 154 w A spks) : Calls Tryd.prog 18 #[] w fun e w' => e = .returned (.bool true) ∧ Below w.heap.size w w' := by
  have h1 := read_c A (Str [92, 120, 52, 97]) 0 (by decide) w hs
  rw [Str_toList, rd_ex] at h1
  have h2 := plain_c 10
  rw [sp_ex] at h2
  have hS := Str_list [92, 110]
  go_enter Tryd.func18, Tryd.ntmps18
  go_wp2_with fail
  refine h1.mono ?_
  rintro e w1 ⟨rfl, hb1⟩
  unfold resR evn
  clear h1
  go_wp2_with fail
  refine (h2 _).mono ?_
  rintro e w2 ⟨rfl, hb2⟩
  go_wp2
  go_ret
  exact ⟨rfl, hb1.trans (hb2.mono hb1.size)⟩

theorem prt_err (i : Nat) (t : List UInt8) : (prt i t).2.2 = 0 ∨ (prt i t).2.2 = 2 ∨ (prt i t).2.2 = 4 := by
  unfold prt
  split
  · simp
  · split
    · simp
    · split
      · simp
      · split <;> simp
theorem rdt_err (n i : Nat) (t : List UInt8) : (rdt n i t).2.2 = 0 ∨ (rdt n i t).2.2 = 2 ∨ (rdt n i t).2.2 = 4 := by
  unfold rdt
  split
  · simp
  · split
    · simp
    · split
      · simp
      · split
        · simp
        · split
          · simp
          · split
            · simp
            · split
              · simp
              · split
                · split
                  · simp
                  · split
                    · simp
                    · split
                      · simp
                      · split <;> simp
                · split <;> simp
theorem num_c (A : Nat → Addr) (g : Nat) (hg : g = 0 ∨ g = 2 ∨ g = 4) (w : World) (hs : Sent 154 w A Er.egs) :
    Calls Tryd.prog 26 #[evn A g] w fun e w' => e = .returned (.int .i64 (g : Int)) ∧ Below w.heap.size w w' := by
  rcases hg with rfl | rfl | rfl
  · exact (Er.num_nil w).mono fun _ _ ⟨h1, h2⟩ => ⟨h1, h2 ▸ Below.refl _ _⟩
  · exact Er.num_at A 1 2 1 (by omega) (by decide) (by omega) w hs
  · exact Er.num_at A 0 4 3 (by omega) (by decide) (by omega) w hs
/-- What both Reads answer. -/
theorem reads (A : Nat → Addr) (s : ByteArray) (i : Int) (hsz : s.size ≤ 1000000) : ∃ r : Int × Nat × Nat, (r.2.2 = 0 ∨ r.2.2 = 2 ∨ r.2.2 = 4) ∧
    (∀ w, Sent 154 w A spks → Calls Tryd.prog 24 #[.string s, .int .i64 i] w fun e w' => e = .returned (resR A r) ∧ Below w.heap.size w w') ∧
    (∀ w, Calls Tryd.prog 25 #[.string s, .int .i64 i] w fun e w' => e = .returned (resN r) ∧ Below w.heap.size w w') := by
  by_cases h : i < 0
  · exact ⟨(0, s.size, 2), by simp, fun w hs => read_neg A s i h w hs, fun w => rread_neg s i h w⟩
  · obtain ⟨n, rfl⟩ : ∃ n : Nat, i = (n : Int) := ⟨i.toNat, by omega⟩
    exact ⟨rd s.data.toList n, rdt_err _ _ _, fun w hs => read_c A s n hsz w hs, fun w => rread_c s n hsz w⟩
set_option maxHeartbeats 1000000 in
set_option maxRecDepth 100000 in
theorem reads_c (A : Nat → Addr) (s : ByteArray) (i : Int) (w : World) (hs : Sent 154 w A Er.egs) :
    Calls Tryd.prog 5 #[.string s, .int .i64 i] w fun e w' => e = .returned (.bool true) ∧ Below w.heap.size w w' := by
  by_cases h300 : s.size ≤ 300
  · obtain ⟨⟨v, n, g⟩, hg, h1, h2⟩ := reads A s i (by omega)
    simp only [resR, resN] at h1 h2 hg
    have hd : decide (300 < (s.size : Int)) = false := by simp; omega
    go_enter Tryd.func5, Tryd.ntmps5
    go_wp2_with fail
    refine (alive_c A w (hs.sub (by decide))).mono ?_
    rintro e w1 ⟨rfl, hb1⟩
    go_wp2_with fail
    refine (h1 w1 ((hs.keep hb1).sub (by decide))).mono ?_
    rintro e w2 ⟨rfl, hb2⟩
    have hB2 := hb1.trans (hb2.mono hb1.size)
    go_wp2_with fail
    refine (h2 w2).mono ?_
    rintro e w3 ⟨rfl, hb3⟩
    have hB3 := hB2.trans (hb3.mono hB2.size)
    clear h1 h2
    go_wp2_with fail
    refine (num_c A g hg w3 (hs.keep hB3)).mono ?_
    rintro e w4 ⟨rfl, hb4⟩
    go_wp2
    go_ret
    exact ⟨by first | rfl | simp, hB3.trans (hb4.mono hB3.size)⟩
  · have hd : decide (300 < (s.size : Int)) = true := by simp; omega
    go_enter Tryd.func5, Tryd.ntmps5
    go_wp2_with fail
    refine (alive_c A w (hs.sub (by decide))).mono ?_
    rintro e w1 ⟨rfl, hb1⟩
    go_wp2
    go_ret
    exact ⟨rfl, hb1⟩
end Sp
end Go.Proofs.YtbdpafdpkgeibaaDoor
