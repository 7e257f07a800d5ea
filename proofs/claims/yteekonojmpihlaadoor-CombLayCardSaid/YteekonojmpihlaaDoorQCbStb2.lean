/- slices.SortStableFunc at Lay's closure: rows of less than 40. -/
import Derived.Test.YteekonojmpihlaaDoorQCbStb
import Derived.Test.YteekonojmpihlaaDoorQCbSym3
namespace Go.Proofs.YteekonojmpihlaaDoor
namespace Kt
end Kt
open Go Go.RowKit Go.Sort Kt
namespace Cb
variable {w V : World} {g cap N : Nat} {d : Array Nat}
set_option maxRecDepth 100000 in
set_option maxHeartbeats 2000000 in
theorem stb_ge (M : Nat) (key : Nat → Nat) (h20 : 20 ≤ N) (hN : N < 40) (hc : CmpOK w g M N key) (h : Sr w g cap N d V) (hd : ∀ k l, k < l → l < N → d[k]! < d[l]!) :
    Calls Tryd.prog 105 #[.slice (some ⟨g, 0, none⟩) N cap, .int .i64 (N : Int), .func (.func 76) #[] #[.pointer (some ⟨M, 0, none⟩)]] V fun e w' => e = .returned (.tuple #[]) ∧ ∃ d', Sr w g cap N d' w' ∧ PermIn 0 N d d' ∧ SortedIn (lx key) 0 N d' := by
  have hi := ins_c M key 0 20 (by omega) h20 (by omega) hc h
  have hs := insertion_key (key := key) (d := d) (a := 0) (b := 20) (by omega) (by rw [h.sz]; exact h20) (fun k l _ h2 h3 => hd k l h2 (by omega))
  obtain ⟨d1, hd1⟩ : ∃ d1, insertionSort (ky key) d 0 20 = d1 := ⟨_, rfl⟩
  rw [hd1] at hi hs
  have hsz := h.sz
  have e1 : ∀ q, 20 ≤ q → d1[q]! = d[q]! := fun q hq => hs.1.2.1 q (.inr hq)
  have hz1 : d1.size = N := by rw [hs.1.1]; exact hsz
  have hs2 := insertion_key (key := key) (d := d1) (a := 20) (b := N) h20 (by omega) (fun k l h1 h2 h3 => by rw [e1 k h1, e1 l (by omega)]; exact hd k l h2 h3)
  obtain ⟨d2, hd2⟩ : ∃ d2, insertionSort (ky key) d1 20 N = d2 := ⟨_, rfl⟩
  rw [hd2] at hs2
  have e2 : ∀ q, q < 20 → d2[q]! = d1[q]! := fun q hq => hs2.1.2.1 q (.inl hq)
  have hp2 : PermIn 0 N d d2 := permIn_trans _ _ _ 0 N (permIn_mono _ _ 0 20 0 N (Nat.le_refl _) h20 (by omega) hs.1) (permIn_mono _ _ 20 N 0 N (by omega) (Nat.le_refl _) (by omega) hs2.1)
  have hl2 : SortedIn (lx key) 0 20 d2 := fun i j h1 h2 h3 => by
    rw [e2 i (by omega), e2 j h3]
    exact hs.2 i j h1 h2 h3
  have hm : 20 < N → Mg (lx key) d2 0 20 N := fun hlt => ⟨hl2, hs2.2, fun i j _ h2 h3 h4 => by
    have a1 : ∀ i, 0 ≤ i → i < 20 → d1[i]! < d[20]! := permIn_all d d1 0 20 (fun x => x < d[20]!) (by omega) hs.1 (fun q _ hq => hd q 20 hq hlt)
    have a2 : ∀ j, 20 ≤ j → j < N → d[20]! ≤ d2[j]! := permIn_all d1 d2 20 N (fun x => d[20]! ≤ x) (by omega) hs2.1 (fun q h5 h6 => by
      rw [e1 q h5]
      rcases Nat.lt_or_ge 20 q with h7 | h7
      · exact Nat.le_of_lt (hd 20 q h7 h6)
      · rw [show q = 20 by omega]; exact Nat.le_refl _)
    rw [e2 i h2]
    exact Nat.lt_of_lt_of_le (a1 i (Nat.zero_le _) h2) (a2 j h3 h4)⟩
  have hins2 : ∀ W, Sr w g cap N d1 W → Calls Tryd.prog 123 #[.slice (some ⟨g, 0, none⟩) N cap, .int .i64 20, .int .i64 (N : Int), .func (.func 76) #[] #[.pointer (some ⟨M, 0, none⟩)]] W fun e w' => e = .returned (.tuple #[]) ∧ Sr w g cap N d2 w' := fun W hW => by
    have := ins_c M key 20 N h20 (Nat.le_refl _) (by omega) hc hW
    rw [hd2] at this
    exact this
  have hsy : 20 < N → ∀ W, Sr w g cap N d2 W → Calls Tryd.prog 124 #[.slice (some ⟨g, 0, none⟩) N cap, .int .i64 0, .int .i64 20, .int .i64 (N : Int), .func (.func 76) #[] #[.pointer (some ⟨M, 0, none⟩)]] W fun e w' => e = .returned (.tuple #[]) ∧ ∃ d', Sr w g cap N d' w' ∧ PermIn 0 N d2 d' ∧ SortedIn (lx key) 0 N d' := fun hlt W hW =>
    sym_c M key (by omega) hc N 0 20 N (by omega) (by omega) hlt (Nat.le_refl _) d2 W hW (hm hlt)
  have HI := Lib.hid hi
  have HI2 := Lib.hid hins2
  have HSy := Lib.hid hsy
  have HP2 := Lib.hid hp2
  have HL2 := Lib.hid (And.intro hl2 hs2.2)
  have i1 : (20 : Int) ≤ (N : Int) := by omega
  have i2 : ¬ (40 : Int) ≤ (N : Int) := by omega
  have i3 : ¬ (40 : Int) < (N : Int) := by omega
  clear hi hs hs2 hc h hd hd1 hd2 hsz e1 e2 hz1 hp2 hl2 hm hins2 hsy
  go_enter Tryd.func105, Tryd.ntmps105
  go_wp2
  refine wp_loop_rounds 2 ?_
  rw [rounds_succ]
  go_wp2_with fail
  refine HI.out.mono ?_
  rintro _ w5 ⟨rfl, hs5⟩
  have HS5 := Lib.hid hs5
  clear hs5 HI
  go_wp2
  rw [rounds_succ]
  go_wp2_with fail
  refine (HI2.out _ HS5.out).mono ?_
  rintro _ w6 ⟨rfl, hs6⟩
  have HS6 := Lib.hid hs6
  clear hs6 HI2
  by_cases hlt : 20 < N
  · have i4 : (20 : Int) < (N : Int) := by omega
    go_wp2
    refine wp_loop_rounds 2 ?_
    rw [rounds_succ]
    go_wp2
    refine wp_loop_rounds 1 ?_
    rw [rounds_succ]
    go_wp2_with fail
    refine (HSy.out hlt _ HS6.out).mono ?_
    rintro _ w7 ⟨rfl, d', hs7, hp7, hq7⟩
    have HS7 := Lib.hid (And.intro hs7 (And.intro (permIn_trans _ _ _ 0 N HP2.out hp7) hq7))
    clear hs7 hp7 hq7
    go_wp2
    rw [rounds_succ]
    go_wp2
    go_end0
    exact ⟨rfl, d', HS7.out⟩
  · have i4 : ¬ (20 : Int) < (N : Int) := by omega
    go_wp2
    refine wp_loop_rounds 1 ?_
    rw [rounds_succ]
    go_wp2
    go_end0
    exact ⟨rfl, d2, HS6.out, HP2.out, fun i j a1 a2 a3 => HL2.out.1 i j a1 a2 (by omega)⟩
set_option maxRecDepth 100000 in
theorem sort_c (M : Nat) (key : Nat → Nat) (hN : N < 40) (hc : CmpOK w g M N key) (h : Sr w g cap N d V) (hd : ∀ k l, k < l → l < N → d[k]! < d[l]!) :
    Calls Tryd.prog 75 #[.slice (some ⟨g, 0, none⟩) N cap, .func (.func 76) #[] #[.pointer (some ⟨M, 0, none⟩)]] V fun e w' => e = .returned (.tuple #[]) ∧ ∃ d', Sr w g cap N d' w' ∧ PermIn 0 N d d' ∧ SortedIn (lx key) 0 N d' := by
  rcases Nat.lt_or_ge N 20 with h20 | h20
  · exact sort_lt M key h20 hc h hd
  have HI := Lib.hid (stb_ge M key h20 hN hc h hd)
  clear hc h hd
  go_enter Tryd.func75, Tryd.ntmps75
  go_wp2_with fail
  refine HI.out.mono ?_
  rintro _ w5 ⟨rfl, d', hs5, hp, hq⟩
  have HS := Lib.hid (And.intro hs5 (And.intro hp hq))
  clear hs5 hp hq
  go_wp2
  go_end0
  exact ⟨rfl, d', HS.out⟩
end Cb
end Go.Proofs.YteekonojmpihlaaDoor
