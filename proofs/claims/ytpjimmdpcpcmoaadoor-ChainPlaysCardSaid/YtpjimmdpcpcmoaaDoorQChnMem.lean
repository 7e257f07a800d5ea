import Derived.Test.YtpjimmdpcpcmoaaDoorQChnPure2
import Derived.Test.YtpjimmdpcpcmoaaDoorQSlO
import Derived.Test.YtpjimmdpcpcmoaaDoorQPoolGive2
import Derived.Test.YtpjimmdpcpcmoaaDoorQPoolTake2
import Derived.Test.YtpjimmdpcpcmoaaDoorQPoolAct
import Derived.Test.YtpjimmdpcpcmoaaDoorQPoolAcc
/- A chain in memory over a pool; the pool's calls as steps of a pool alone. -/
namespace Go.Proofs.YtpjimmdpcpcmoaaDoor
open Go Go.RowKit Kt
namespace Po
variable {w w' W W' : World} {p : Nat} {m m' : Md} {L L' : List Nat}
end Po
namespace Ch
open Po
variable {w w' : World} {k p : Nat} {L S M l : List Nat} {m : Md} {c : Cn} {acc : Int} {frm many came went : Nat}
def nats (l : List Nat) : List Value := i64s (l.map fun b : Nat => (b : Int))
theorem nats_len (l : List Nat) : (nats l).length = l.length := by simp [nats, i64s]
/-- A chain's blocks: its struct at k, and its row. -/
structure CB (w : World) (k p : Nat) (S l : List Nat) (acc : Int) (frm many came went : Nat) : Prop where
  ex : ∃ v, w.heap[k]? = some (.cells #[.pointer (some ⟨p, 0, none⟩), .int .i64 acc, v, .int .i64 (frm : Int), .int .i64 (many : Int), .int .i64 (came : Int), .int .i64 (went : Int)] 110 (0, 0)) ∧ SlO w 3 v S (nats l)
  nk : k ∉ S
theorem CB.klt (h : CB w k p S l acc frm many came went) : k < w.heap.size := by obtain ⟨v, h1, _⟩ := h.ex; exact block_lt h1
theorem CB.lts (h : CB w k p S l acc frm many came went) : ∀ x ∈ k :: S, x < w.heap.size := by
  obtain ⟨v, h1, h2⟩ := h.ex
  intro x hx
  rcases List.mem_cons.1 hx with rfl | hx
  · exact block_lt h1
  · exact h2.lt x hx
theorem CB.mod (h : CB w k p S l acc frm many came went) (hM : Mod M w w') (hd : ∀ x ∈ k :: S, x ∉ M) : CB w' k p S l acc frm many came went := by
  obtain ⟨v, h1, h2⟩ := h.ex
  exact ⟨⟨v, (hM.block k (block_lt h1) (hd k (by simp))).trans h1, h2.mod hM (fun x hx => hd x (by simp [hx]))⟩, h.nk⟩
theorem CB.below (h : CB w k p S l acc frm many came went) (hb : Below w.heap.size w w') : CB w' k p S l acc frm many came went := h.mod (Mod.of_below hb []) (by simp)
/-- A chain over a pool. -/
structure CS (w : World) (p k : Nat) (L S : List Nat) (m : Md) (l : List Nat) (c : Cn) : Prop where
  P : PI w p L m
  C : CB w k p S l c.acc c.frm c.all.length c.came c.went
  d : ∀ x ∈ k :: S, x ∉ L
  ok : Ok m l c
theorem CS.below (h : CS w p k L S m l c) (hb : Below w.heap.size w w') : CS w' p k L S m l c := ⟨h.P.below hb, h.C.below hb, h.d, h.ok⟩
theorem CS.mod (h : CS w p k L S m l c) (hM : Mod M w w') (h1 : ∀ x ∈ L, x ∉ M) (h2 : ∀ x ∈ k :: S, x ∉ M) : CS w' p k L S m l c := ⟨h.P.mod hM h1, h.C.mod hM h2, h.d, h.ok⟩
theorem CS.f62 (h : CS w p k L S m l c) : c.frm < 64 := by have := h.ok.fs; have := h.P.ok.s2; omega
theorem CS.ll (h : CS w p k L S m l c) : l.length ≤ 256 := by have := h.ok.hd; have := held_le m.own c.acc; have := h.P.ok.n2; omega
/-! ### Small calls -/
theorem len_c (h : CB w k p S l acc frm many came went) : Calls Tryd.prog 23 #[.pointer (some ⟨k, 0, none⟩)] w fun e w' => e = .returned (.int .i64 (many : Int)) ∧ w = w' := by
  obtain ⟨v, h1, _⟩ := h.ex
  have k4 := cell_block h1 4
  simp only [List.getElem?_toArray, List.getElem?_cons_zero, List.getElem?_cons_succ] at k4
  clear h1 h
  go_enter Tryd.func23, Tryd.ntmps23
  go_wp2
  go_ret
  exact ⟨rfl, rfl⟩
theorem buffers_c (h : CB w k p S l acc frm many came went) : Calls Tryd.prog 24 #[.pointer (some ⟨k, 0, none⟩)] w fun e w' => e = .returned (.int .i64 (l.length : Int)) ∧ w = w' := by
  obtain ⟨v, h1, h2⟩ := h.ex
  obtain ⟨a, cap, rfl⟩ := h2.form
  rw [nats_len] at h1
  have k2 := cell_block h1 2
  simp only [List.getElem?_toArray, List.getElem?_cons_zero, List.getElem?_cons_succ] at k2
  clear h1 h h2
  go_enter Tryd.func24, Tryd.ntmps24
  go_wp2
  go_ret
  exact ⟨rfl, rfl⟩
theorem counts_c (h : CB w k p S l acc frm many came went) : Calls Tryd.prog 45 #[.pointer (some ⟨k, 0, none⟩)] w fun e w' => e = .returned (.tuple #[.int .i64 (came : Int), .int .i64 (went : Int)]) ∧ Below w.heap.size w w' := by
  obtain ⟨v, h1, h2⟩ := h.ex
  have k5 := cell_block h1 5
  have k6 := cell_block h1 6
  simp only [List.getElem?_toArray, List.getElem?_cons_zero, List.getElem?_cons_succ] at k5 k6
  clear h1 h h2
  go_enter Tryd.func45, Tryd.ntmps45
  go_wp2_with fail
  go_quiet (fail)
  go_wp2
  go_ret2
  exact ⟨rfl, below_drewN (Below.refl _ _) _⟩
set_option maxRecDepth 100000 in
theorem place_c (h : CB w k p S l acc frm many came went) (hP : PI w p L m) (i : Nat) (hi : frm + i ≤ 1000000000000) : Calls Tryd.prog 63 #[.pointer (some ⟨k, 0, none⟩), .int .i64 (i : Int)] w fun e w' => e = .returned (.tuple #[.int .i64 (((frm + i) / m.size : Nat) : Int), .int .i64 (((frm + i) % m.size : Nat) : Int)]) ∧ Below w.heap.size w w' := by
  obtain ⟨v, h1, h2⟩ := h.ex
  have k0 := cell_block h1 0
  have k3 := cell_block h1 3
  simp only [List.getElem?_toArray, List.getElem?_cons_zero, List.getElem?_cons_succ] at k0 k3
  have hsz := fun n => size_c (w.drewN n) (hP.below (below_drewN (Below.refl _ _) n))
  have s1 := hP.ok.s1
  have s2 := hP.ok.s2
  have hdv : ((frm : Int) + (i : Int)) / (m.size : Int) = (((frm + i) / m.size : Nat) : Int) := by simp
  have hmd : ((frm : Int) + (i : Int)) % (m.size : Int) = (((frm + i) % m.size : Nat) : Int) := by simp
  generalize m.size = s at *
  have hz : (s : Int) ≠ 0 := by omega
  have HZ := Lib.hid hsz
  have HD := Lib.hid (And.intro hdv hmd)
  clear h1 h h2 hP hsz hdv hmd
  go_enter Tryd.func63, Tryd.ntmps63
  go_wp2_with fail
  go_quiet ((go_at_call 62; exact Calls.quiet_of_same ((HZ.out _).mono fun _ _ ⟨h1, h2⟩ => ⟨h1, h2.symm⟩)))
  go_wp2
  go_ret2
  refine ⟨?_, below_drewN (Below.refl _ _) _⟩
  rw [← HD.out.1, ← HD.out.2]
  rfl
end Ch
end Go.Proofs.YtpjimmdpcpcmoaaDoor
