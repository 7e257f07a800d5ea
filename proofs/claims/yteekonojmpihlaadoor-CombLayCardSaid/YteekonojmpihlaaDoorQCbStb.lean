/- slices.SortStableFunc at Lay's closure: rows of less than 20. -/
import Derived.Test.YteekonojmpihlaaDoorQCbIns
namespace Go.Proofs.YteekonojmpihlaaDoor
namespace Kt
end Kt
open Go Go.RowKit Go.Sort Kt
namespace Cb
variable {w V : World} {g cap N : Nat} {d : Array Nat}
set_option maxRecDepth 100000 in
set_option maxHeartbeats 1000000 in
theorem stb_lt (M : Nat) (key : Nat → Nat) (hN : N < 20) (hc : CmpOK w g M N key) (h : Sr w g cap N d V) (hd : ∀ k l, k < l → l < N → d[k]! < d[l]!) :
    Calls Tryd.prog 105 #[.slice (some ⟨g, 0, none⟩) N cap, .int .i64 (N : Int), .func (.func 76) #[] #[.pointer (some ⟨M, 0, none⟩)]] V fun e w' => e = .returned (.tuple #[]) ∧ ∃ d', Sr w g cap N d' w' ∧ PermIn 0 N d d' ∧ SortedIn (lx key) 0 N d' := by
  have hi := ins_c M key 0 N (Nat.zero_le _) (Nat.le_refl _) (by omega) hc h
  have hs := insertion_key (key := key) (d := d) (Nat.zero_le N) (by rw [h.sz]; exact Nat.le_refl _) (fun k l _ h2 h3 => hd k l h2 h3)
  have HI := Lib.hid hi
  have HS := Lib.hid hs
  have i1 : ¬ (20 : Int) ≤ (N : Int) := by omega
  have i2 : ¬ (20 : Int) < (N : Int) := by omega
  clear hi hs hc h hd
  go_enter Tryd.func105, Tryd.ntmps105
  go_wp2
  refine wp_loop_rounds 1 ?_
  rw [rounds_succ]
  go_wp2_with fail
  refine HI.out.mono ?_
  rintro _ w5 ⟨rfl, hs5⟩
  have HS5 := Lib.hid hs5
  clear hs5
  go_wp2
  refine wp_loop_rounds 1 ?_
  rw [rounds_succ]
  go_wp2
  go_end0
  exact ⟨rfl, _, HS5.out, HS.out.1, HS.out.2⟩
set_option maxRecDepth 100000 in
theorem sort_lt (M : Nat) (key : Nat → Nat) (hN : N < 20) (hc : CmpOK w g M N key) (h : Sr w g cap N d V) (hd : ∀ k l, k < l → l < N → d[k]! < d[l]!) :
    Calls Tryd.prog 75 #[.slice (some ⟨g, 0, none⟩) N cap, .func (.func 76) #[] #[.pointer (some ⟨M, 0, none⟩)]] V fun e w' => e = .returned (.tuple #[]) ∧ ∃ d', Sr w g cap N d' w' ∧ PermIn 0 N d d' ∧ SortedIn (lx key) 0 N d' := by
  have HI := Lib.hid (stb_lt M key hN hc h hd)
  clear hc h hd
  go_enter Tryd.func75, Tryd.ntmps75
  go_wp2_with fail
  refine HI.out.mono ?_
  rintro _ w5 ⟨rfl, d', hs5, hp, hq⟩
  have HS := Lib.hid (And.intro hs5 (And.intro hp hq))
  clear hs5 hp hq
  go_wp2
  go_end0
  exact ⟨rfl, d', HS.out⟩
end Cb
end Go.Proofs.YteekonojmpihlaaDoor
