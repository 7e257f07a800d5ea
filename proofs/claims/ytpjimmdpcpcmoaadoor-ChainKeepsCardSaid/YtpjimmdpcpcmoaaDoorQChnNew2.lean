/- chain.New. Condition: the sentinels read as laid. -/
import Derived.Test.YtpjimmdpcpcmoaaDoorQChnNew
namespace Go.Proofs.YtpjimmdpcpcmoaaDoor
open Go Go.RowKit Kt
namespace Ch
open Po
variable {w w' w2 w3 W : World} {k p : Nat} {L L' L2 S S' M l l' : List Nat} {m m' m2 : Md} {c c' : Cn} {acc : Int} {frm many came went : Nat}
/-- The two calls ahead: is the account there? -/
theorem accs_c (x : Int) (h : PI w p L m) : Calls Tryd.prog 15 #[.pointer (some ⟨p, 0, none⟩)] w fun e w' => ∃ a n cap, e = .returned (.slice a n cap) ∧ Below w.heap.size w w' ∧
    Calls Tryd.prog 56 #[.slice a n cap, .int .i64 x] w' fun e w'' => e = .returned (.bool (crd m.acc x).isSome) ∧ w' = w'' := by
  refine (accounts_c w h).mono ?_
  rintro e w' ⟨v, zs, rfl, hp, _, _, ho, hb⟩
  obtain ⟨a, cap, rfl, _⟩ := rd_own ho
  have hlen : zs.length ≤ 64 := by rw [hp.length_eq, List.length_map]; exact h.ok.a1
  refine ⟨a, zs.length, cap, rfl, hb, (contains_c a cap zs x w' (by omega) (Rd.own ho)).mono fun _ _ ⟨h1, h2⟩ => ⟨?_, h2⟩⟩
  rw [h1]
  congr 2
  cases hc : crd m.acc x with
  | none =>
    rw [crd_none] at hc
    simp only [Option.isSome_none, decide_eq_false_iff_not]
    exact fun e => hc (hp.mem_iff.1 e)
  | some q =>
    simp only [Option.isSome_some, decide_eq_true_eq]
    exact hp.mem_iff.2 (List.mem_map.2 ⟨_, crd_mem hc, rfl⟩)
set_option maxRecDepth 100000 in
set_option maxHeartbeats 1000000 in
theorem new_yes (x : Int) (hx : (Lit.int .i64 x).wf = true) (h : PI w p L m) (hc : (crd m.acc x).isSome = true) (h0 : held m.own x = 0) :
    Calls Tryd.prog 21 #[.pointer (some ⟨p, 0, none⟩), .int .i64 x] w fun e w' => ∃ k, e = .returned (.tuple #[.pointer (some ⟨k, 0, none⟩), .nilIface]) ∧ w.heap.size ≤ k ∧ Below w.heap.size w w' ∧ CS w' p k L [] m [] ⟨x, 0, [], 0, 0⟩ := by
  have ha := accs_c x h
  rw [hc] at ha
  have hh := fun W (hb : Below w.heap.size w W) => held_c x hx W (h.below hb)
  rw [h0] at hh
  have hfin : ∀ W, Below w.heap.size w W → w.heap.size ≤ W.heap.size ∧ Below w.heap.size w (W.alloc (.cells #[.pointer (some ⟨p, 0, none⟩), .int .i64 x, .slice none 0 0, .int .i64 0, .int .i64 0, .int .i64 0, .int .i64 0] 110 (0, 0))) ∧
      CS (W.alloc (.cells #[.pointer (some ⟨p, 0, none⟩), .int .i64 x, .slice none 0 0, .int .i64 0, .int .i64 0, .int .i64 0, .int .i64 0] 110 (0, 0))) p W.heap.size L [] m [] ⟨x, 0, [], 0, 0⟩ := fun W hb => by
    have hb2 := hb.alloc hb.size (.cells #[.pointer (some ⟨p, 0, none⟩), .int .i64 x, .slice none 0 0, .int .i64 0, .int .i64 0, .int .i64 0, .int .i64 0] 110 (0, 0))
    have s1 := h.ok.s1
    refine ⟨hb.size, hb2, ⟨h.below hb2, ⟨⟨_, heap_alloc_new W _, SlO.nil _ _⟩, by simp⟩, fun y hy e => ?_, ⟨hc, by rw [h0]; rfl, by simp, by simp, by simp only; omega, by simp [need], fun _ => rfl, rfl, fun i hi => by simp at hi⟩⟩⟩
    simp only [List.mem_singleton] at hy
    subst hy
    have := h.lts _ e
    have := hb.size
    omega
  have HA := Lib.hid ha
  have HH := Lib.hid hh
  have HF := Lib.hid hfin
  clear ha hh hfin h hx hc h0
  go_enter Tryd.func21, Tryd.ntmps21
  go_wp2_with fail
  with_reducible refine HA.out.mono ?_
  rintro e w2 ⟨a, n, cap, rfl, hb2, hct⟩
  have HC := Lib.hid hct
  have HB := Lib.hid hb2
  clear hct hb2
  go_wp2_with fail
  with_reducible refine HC.out.mono ?_
  rintro e w3 ⟨rfl, rfl⟩
  go_wp2_with fail
  with_reducible refine (HH.out _ HB.out).mono ?_
  rintro e w3 ⟨rfl, rfl⟩
  have H3 := Lib.hid (HF.out _ HB.out)
  go_wp2
  go_ret2
  exact ⟨_, rfl, H3.out⟩
end Ch
end Go.Proofs.YtpjimmdpcpcmoaaDoor
