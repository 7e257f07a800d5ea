import Derived.Test.YtoeeddfinmfnoaaDoorQBrkRead2
/- brackets.Read answers brd. Condition: the sentinels read as laid. -/
namespace Go.Proofs.YtoeeddfinmfnoaaDoor
namespace Kt
end Kt
namespace Sp
end Sp
namespace St
end St
open Go Go.RowKit Kt Sp St
namespace Bk
variable {w W W' : World} {p : Nat} {s : ByteArray} {i : Nat} {A : Nat → Addr}
/-- What Read answers, by its number. -/
def ReP (A : Nat → Addr) (w : World) (r : (Nat → Bool) × Nat × Nat) (e : Ending) (w' : World) : Prop :=
  ∃ rs, e = .returned (.tuple #[sv rs, .int .i64 (r.2.1 : Int), evb A r.2.2]) ∧ IsSet rs r.1 ∧ Below w.heap.size w w'
set_option maxHeartbeats 4000000 in
set_option maxRecDepth 100000 in
theorem read_of (i : Int) (r : (Nat → Bool) × Nat × Nat) (hr3 : r.2.2 = 0 ∨ r.2.2 = 1 ∨ r.2.2 = 2 ∨ r.2.2 = 4) (hbr : ∀ W p, Rr w W p s i → Calls Tryd.prog 159 #[.pointer (some ⟨p, 0, none⟩)] W (BrP A w W p s r)) :
    Calls Tryd.prog 149 #[.string s, .int .i64 i] w (ReP A w r) := by
  obtain ⟨f, n, g⟩ := r
  simp only at hr3 hbr
  obtain ⟨E, hE⟩ : ∃ E, evb A g = E := ⟨_, rfl⟩
  have b1 := (Below.refl w.heap.size w).alloc (Nat.le_refl _) (.cells #[.int .u64 0, .int .u64 0, .int .u64 0, .int .u64 0] 24)
  have hr0 : Ab (w.alloc (.cells #[.int .u64 0, .int .u64 0, .int .u64 0, .int .u64 0] 24)) w.heap.size 0 0 0 0 := heap_alloc_new w _
  have b2 := b1.alloc b1.size (.cells #[.string s, .int .i64 i] 193)
  have r2 : Rr w ((w.alloc (.cells #[.int .u64 0, .int .u64 0, .int .u64 0, .int .u64 0] 24)).alloc (.cells #[.string s, .int .i64 i] 193)) (w.heap.size + 1) s i :=
    ⟨by have := heap_alloc_new (w.alloc (.cells #[.int .u64 0, .int .u64 0, .int .u64 0, .int .u64 0] 24)) (.cells #[.string s, .int .i64 i] 193); rw [World.size_alloc] at this; exact this, b2, by omega⟩
  have z2 := Ab.below hr0 ((Below.refl _ _).alloc (Nat.le_refl _) (.cells #[.string s, .int .i64 i] 193))
  have R2 := Lib.hid r2
  have Z2 := Lib.hid z2
  have HBr := Lib.hid hbr
  have HE := Lib.hid hE
  clear b1 hr0 b2 r2 z2 hbr hE hr3
  go_enter Tryd.func149, Tryd.ntmps149
  go_wp2_with fail
  refine (HBr.out _ _ R2.out).mono ?_
  rintro e w3 ⟨rs, rfl, hset, r3, m3⟩
  obtain ⟨x0, x1, x2, x3, rfl⟩ := set_four hset
  simp only at hset r3
  rw [show evb A (f, n, g).2.2 = E from HE.out]
  have z3 := Z2.out.mod m3 (by simp)
  have b4 := (Below.refl w3.heap.size w3).alloc (Nat.le_refl _) (.cells #[.int .u64 (x0 : Int), .int .u64 (x1 : Int), .int .u64 (x2 : Int), .int .u64 (x3 : Int)] 24)
  have r4 := r3.below b4
  have z4 := z3.below b4
  have a4 : Ab (w3.alloc (.cells #[.int .u64 (x0 : Int), .int .u64 (x1 : Int), .int .u64 (x2 : Int), .int .u64 (x3 : Int)] 24)) w3.heap.size x0 x1 x2 x3 := heap_alloc_new w3 _
  have hne : w.heap.size ≠ w3.heap.size := by have := r3.blk; have := block_lt z3; omega
  obtain ⟨k0, k1, kf⟩ := r4.cells
  obtain ⟨⟨z0', z1', z2', z3'⟩, f0, f1, f2, f3⟩ := z4.cells
  obtain ⟨⟨a0, a1, a2, a3⟩, _, _, _, _⟩ := a4.cells
  have HZ := Lib.hid (z4.put x0 x1 x2 x3)
  have hp4 := r4.put4 (r := w.heap.size) (by omega) (Nat.le_refl _) x0 x1 x2 x3
  obtain ⟨q0, q1, _⟩ := hp4.cells
  unfold put4 at q0 q1
  have HF := Lib.hid hp4.B
  have HSet := Lib.hid hset
  try simp only [sv, vals, List.map_cons, List.map_nil]
  clear hset r3 m3 z3 b4 r4 z4 a4 hp4
  go_wp2_with fail
  go_region
  all_goals
    go_wp2
    ((try simp only [Exit.inBlock, Exit.then]); refine bodyPost_ret (Kt.results_cell3_row rfl _ _ (w.heap.size) 24 _ (0, 0) _ rfl (HZ.out) Tryd.underlying24 rfl ?hi1) rfl ?_; (case hi1 => kernel_rfl))
    exact ⟨[x0, x1, x2, x3], by rw [show evb A (f, n, g).2.2 = E from HE.out]; rfl, HSet.out, by first | exact HF.out | exact HF.out.drew⟩
theorem read_at (hsz : s.size ≤ 1000000) (hs : Sent 204 w A bks) : Calls Tryd.prog 149 #[.string s, .int .i64 (i : Int)] w (ReP A w (brd s.data.toList i)) := by
  have hl := size_list s
  by_cases h1 : s.size ≤ i
  · have e : brd s.data.toList i = (none', s.size, 2) := by unfold brd; rw [if_pos (by omega), hl]
    rw [e]
    exact read_of _ _ (by simp) fun W p h => bracket_neg h (.inr (by omega)) hs
  · by_cases h2 : s.data.toList[i]? = some 91
    · exact read_of _ _ (brd_go _ _ (by omega)).2 fun W p h => bracket_yes h (by omega) h2 hsz hs
    · have e : brd s.data.toList i = (none', i, 4) := by unfold brd; rw [if_neg (by omega), if_pos h2]
      rw [e]
      exact read_of _ _ (by simp) fun W p h => bracket_no h (by omega) h2 hsz hs
end Bk
end Go.Proofs.YtoeeddfinmfnoaaDoor
