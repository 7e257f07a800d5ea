/- The document's list of turns: Find, in, out, Add, Drop, Turn, Done. -/
import Derived.Test.YtjohljpcoodijaaDoorRobinPure
namespace Go.Proofs.YtjohljpcoodijaaDoor
open Go Go.RowKit Kt Rb
namespace R33
def snds (l : List (Int × Int)) : List Int := l.map (·.2)
/-- The document's list at block z: its two rows' blocks gr, gl. -/
structure Rf (w : World) (z : Nat) (gr gl : List Nat) (Q : Int) (l : List (Int × Int)) (on : Bool) : Prop where
  h : ∃ ra rc la lc, w.heap[z]? = some (.cells #[.int .i64 Q, .slice ra l.length rc, .slice la l.length lc, .bool on] 94 (0, 0)) ∧
    w.ownsRow 0 3 1 (.slice ra l.length rc) l.length (i64s (fsts l)) ∧ w.ownsRow 0 3 1 (.slice la l.length lc) l.length (i64s (snds l)) ∧
    (Value.slice ra l.length rc).ownBlock.toList = gr ∧ (Value.slice la l.length lc).ownBlock.toList = gl
  nr : z ∉ gr
  nl : z ∉ gl
  nrl : ∀ k ∈ gl, k ∉ gr
variable {w w' : World} {z : Nat} {gr gl : List Nat} {Q : Int} {l : List (Int × Int)} {on : Bool}
theorem Rf.zlt (h : Rf w z gr gl Q l on) : z < w.heap.size := by obtain ⟨_, _, _, _, h1, _⟩ := h.h; exact block_lt h1
theorem Rf.lts (h : Rf w z gr gl Q l on) : ∀ k ∈ z :: (gr ++ gl), k < w.heap.size := by
  obtain ⟨ra, rc, la, lc, h1, h2, h3, rfl, rfl⟩ := h.h
  intro k hk
  simp only [List.mem_cons, List.mem_append, Option.mem_toList] at hk
  rcases hk with rfl | hk | hk
  · exact block_lt h1
  · exact (h2.lt k hk).2
  · exact (h3.lt k hk).2
theorem Rf.mod {S : List Nat} (h : Rf w z gr gl Q l on) (hb : Mod S w w') (hS : ∀ k ∈ z :: (gr ++ gl), k ∉ S) : Rf w' z gr gl Q l on := by
  obtain ⟨ra, rc, la, lc, h1, h2, h3, rfl, rfl⟩ := h.h
  exact ⟨⟨ra, rc, la, lc, by rw [hb.block z (block_lt h1) (hS z (by simp))]; exact h1, own_mod h2 hb (fun k hk => hS k (by simp [hk])), own_mod h3 hb (fun k hk => hS k (by simp [hk])), rfl, rfl⟩, h.nr, h.nl, h.nrl⟩
theorem Rf.below (h : Rf w z gr gl Q l on) (hb : Below w.heap.size w w') : Rf w' z gr gl Q l on := h.mod (Mod.of_below hb []) (by simp)
theorem slice_own {w : World} {base e sz n cap : Nat} {a : Option Addr} {xs : List Value} (h : w.ownsRow base e sz (.slice a n cap) n xs) : n ≤ cap ∧ cap ≤ maxLen ∧ (a = none → cap = 0) := by
  obtain ⟨a', cap', hx, h1, h2, _⟩ := rd_own h
  simp only [Value.slice.injEq] at hx
  obtain ⟨rfl, _, rfl⟩ := hx
  exact ⟨h1, h2, fun e => by subst e; exact (own_none h).1⟩

/-- 'append(append([]int{}, xs...), x)': the two runs. -/
theorem app2 (W : World) (a : Option Addr) (m c : Nat) (xs : List Int) (x : Int) (hl : xs.length = m) (hr : Rd W a (i64s xs)) (hno : a = none → c = 0) (hm : m ≤ 1000000) :
    ∃ a1 c1 w1 a2 c2 w2, (Builtin.append_ #[32, 32] 32 #[.slice (some ⟨W.heap.size, 0, none⟩) 0 0, .slice a m c]).run Tryd.prog (W.alloc (.cells #[] 3)) = .ok (.slice a1 m c1) w1 ∧
      (Builtin.append_ #[32, 32] 32 #[.slice a1 m c1, .slice (some ⟨w1.heap.size, 0, none⟩) 1 1]).run Tryd.prog (w1.alloc (.cells #[.int .i64 x] 3)) = .ok (.slice a2 (m + 1) c2) w2 ∧
      w2.ownsRow W.heap.size 3 1 (.slice a2 (m + 1) c2) (m + 1) (i64s (xs ++ [x])) ∧ Below W.heap.size W w1 ∧ Below W.heap.size W w2 := by
  have own0 := World.ownsRow_made (base := W.heap.size) (e := 3) (size := 1) W #[] 0 (Nat.le_refl _) (by decide) rfl
  have hb0 := (Below.refl W.heap.size W).alloc (Nat.le_refl _) (.cells #[] 3)
  obtain ⟨v1, w1, hrun1, own1, gr1, _⟩ := elI.append W.heap.size (ty := 32) own0 m c (by simp [i64s, hl]) (hr.keep hb0) hno (oneCell_i64s _) (by unfold maxLen; omega) (by omega) hb0.size
  have hB1 : Below W.heap.size W w1 := hb0.grown gr1 hb0.size (fun j hj => (own0.lt j hj).1)
  simp only [Nat.zero_add] at hrun1 own1
  obtain ⟨a1, c1, rfl, _⟩ := rd_own own1
  have hb2 := hB1.alloc hB1.size (.cells #[.int .i64 x] 3)
  have own1a := own1.alloc (.cells #[.int .i64 x] 3)
  obtain ⟨v2, w2, hrun2, own2, gr2, _⟩ := elI.append W.heap.size (ty := 32) own1a 1 1 rfl (Rd.new w1 #[.int .i64 x] 3 (0, 0) [.int .i64 x] rfl) (fun h => by cases h) (by intro u hu; simp at hu; subst hu; rfl) (by unfold maxLen; omega) (by omega) hb2.size
  have hB2 : Below W.heap.size W w2 := hb2.grown gr2 hb2.size (fun j hj => (own1a.lt j hj).1)
  obtain ⟨a2, c2, rfl, _⟩ := rd_own own2
  exact ⟨a1, c1, w1, a2, c2, w2, hrun1, hrun2, by rw [i64s_append]; exact (by simpa using own2 : w2.ownsRow W.heap.size 3 1 (.slice a2 (m + 1) c2) (m + 1) (i64s xs ++ [.int .i64 x])), hB1, hB2⟩
theorem slice_block {w : World} {base e sz n cap : Nat} {a : Option Addr} {xs : List Value} (h : w.ownsRow base e sz (.slice a n cap) n xs) : ∀ k ∈ (Value.slice a n cap).ownBlock.toList, base ≤ k ∧ k < w.heap.size := by
  intro k hk
  exact h.lt k (by simpa using hk)

theorem own_set {W : World} {B e sz n i : Nat} {v : Value} {xs : List Value} (h : W.ownsRow B e sz v n xs) (hz : z < B) (u : Value) : (W.setCell ⟨z, i, none⟩ u).ownsRow B e sz v n xs :=
  own_mod h ((Mod.refl [z] W).setCell (.inl (by simp)) _) (fun k hk hm => by
    have : k = z := by simpa using hm
    have := (h.lt k hk).1
    omega)
/-- All that a list is, in plain words. -/
theorem Rf.op (h : Rf w z gr gl Q l on) : ∃ ra rc la lc, w.heap[z]? = some (.cells #[.int .i64 Q, .slice ra l.length rc, .slice la l.length lc, .bool on] 94 (0, 0)) ∧
    w.ownsRow 0 3 1 (.slice ra l.length rc) l.length (i64s (fsts l)) ∧ w.ownsRow 0 3 1 (.slice la l.length lc) l.length (i64s (snds l)) ∧
    (Value.slice ra l.length rc).ownBlock.toList = gr ∧ (Value.slice la l.length lc).ownBlock.toList = gl ∧
    (∀ k, (Value.slice ra l.length rc).ownBlock = some k → k ≠ z) ∧ (∀ k, (Value.slice la l.length lc).ownBlock = some k → k ≠ z) ∧ (∀ k k', (Value.slice ra l.length rc).ownBlock = some k → (Value.slice la l.length lc).ownBlock = some k' → k ≠ k') := by
  obtain ⟨ra, rc, la, lc, h1, h2, h3, h4, h5⟩ := h.h
  refine ⟨ra, rc, la, lc, h1, h2, h3, h4, h5, ?_, ?_, ?_⟩
  · rintro k hk rfl; exact h.nr (by rw [← h4, hk]; simp)
  · rintro k hk rfl; exact h.nl (by rw [← h5, hk]; simp)
  · rintro k k' hk hk' rfl; exact h.nrl k (by rw [← h5, hk']; simp) (by rw [← h4, hk]; simp)
theorem Rf.mk' {ra la : Option Addr} {rc lc n : Nat} (hn : l.length = n) (h1 : w.heap[z]? = some (.cells #[.int .i64 Q, .slice ra n rc, .slice la n lc, .bool on] 94 (0, 0)))
    (h2 : w.ownsRow 0 3 1 (.slice ra n rc) n (i64s (fsts l))) (h3 : w.ownsRow 0 3 1 (.slice la n lc) n (i64s (snds l)))
    (k1 : ∀ k, (Value.slice ra n rc).ownBlock = some k → k ≠ z) (k2 : ∀ k, (Value.slice la n lc).ownBlock = some k → k ≠ z) (k3 : ∀ k k', (Value.slice ra n rc).ownBlock = some k → (Value.slice la n lc).ownBlock = some k' → k ≠ k') : Rf w z (Value.slice ra n rc).ownBlock.toList (Value.slice la n lc).ownBlock.toList Q l on := by
  subst hn
  refine ⟨⟨ra, rc, la, lc, h1, h2, h3, rfl, rfl⟩, ?_, ?_, ?_⟩
  · intro hm; exact k1 z (by simpa using hm) rfl
  · intro hm; exact k2 z (by simpa using hm) rfl
  · intro k hk hm; exact k3 k k (by simpa using hm) (by simpa using hk) rfl

/-- Both rows written anew. -/
theorem both {w w2 w5 : World} {m : Nat} {l' : List (Int × Int)} {a2 a5 : Option Addr} {c2 c5 : Nat} (h : Rf w z gr gl Q l on) (hm : l'.length = m)
    (b2 : Below w.heap.size w w2) (o2 : w2.ownsRow w.heap.size 3 1 (.slice a2 m c2) m (i64s (fsts l')))
    (b5 : Below w2.heap.size (w2.setCell ⟨z, 1, none⟩ (.slice a2 m c2)) w5) (o5 : w5.ownsRow w2.heap.size 3 1 (.slice a5 m c5) m (i64s (snds l'))) :
    ∃ gr' gl', Rf (w5.setCell ⟨z, 2, none⟩ (.slice a5 m c5)) z gr' gl' Q l' on ∧ Mod [z] w (w5.setCell ⟨z, 2, none⟩ (.slice a5 m c5)) ∧ (∀ k ∈ gr' ++ gl', w.heap.size ≤ k) := by
  obtain ⟨ra, rc, la, lc, h1, h2, h3, _⟩ := h.op
  have hzl := block_lt h1
  have hzs := b2.size
  have e2 : w2.heap[z]? = _ := (b2.block z hzl).trans h1
  have e3 := block_setCell (i := 1) e2 (.slice a2 m c2)
  have e5 : w5.heap[z]? = _ := (b5.block z (by omega)).trans e3
  have o5b : w5.ownsRow w.heap.size 3 1 (.slice a2 m c2) m (i64s (fsts l')) := by
    have := own_set o2 hzl (i := 1) (.slice a2 m c2)
    refine own_mod (S := []) this ?_ (by simp)
    exact Mod.of_below (by simpa using b5) []
  have r1 := slice_block o2
  have r2 := slice_block o5
  refine ⟨_, _, Rf.mk' (ra := a2) (rc := c2) (la := a5) (lc := c5) hm ?_ (own_base (own_set o5b hzl _) (Nat.zero_le _)) (own_base (own_set o5 (by omega) _) (Nat.zero_le _)) ?_ ?_ ?_, ?_, ?_⟩
  · rw [block_setCell e5]; rfl
  · rintro k hk rfl; have := (o2.lt _ hk).1; omega
  · rintro k hk rfl; have := (o5.lt _ hk).1; omega
  · rintro k k' hk hk' rfl; have := (o2.lt _ hk).2; have := (o5.lt _ hk').1; omega
  · refine Mod.setCell (Mod.trans ((Mod.of_below b2 [z]).setCell (p := ⟨z, 1, none⟩) (.inl (by simp)) (.slice a2 m c2)) (Mod.of_below (by simpa using b5) [z]) (fun k hk => .inl hk)) (.inl (by simp)) _
  · intro k hk
    rcases List.mem_append.1 hk with h1 | h1
    · exact (r1 k h1).1
    · have := (r2 k h1).1; omega

set_option maxHeartbeats 1000000 in
set_option maxRecDepth 100000 in
theorem in_c (x d : Int) (w : World) (h : Rf w z gr gl Q l on) (hl : l.length ≤ 100000) :
    Calls Tryd.prog 89 #[.pointer (some ⟨z, 0, none⟩), .int .i64 x, .int .i64 d] w fun e w' => e = .returned (.tuple #[]) ∧ ∃ gr' gl', Rf w' z gr' gl' Q (l ++ [(x, d)]) on ∧ Mod [z] w w' ∧ (∀ k ∈ gr' ++ gl', w.heap.size ≤ k) := by
  obtain ⟨ra, rc, la, lc, h1, h2, h3, _, _, q1, q2, q3⟩ := h.op
  have hzl := block_lt h1
  obtain ⟨s1, s2, s3⟩ := slice_own h2
  obtain ⟨t1, t2, t3⟩ := slice_own h3
  obtain ⟨n, hn⟩ : ∃ n, l.length = n := ⟨_, rfl⟩
  obtain ⟨a1, c1, w1, a2, c2, w2, r1, r2, o2, b1, b2⟩ := app2 w ra n rc (fsts l) x (by simp [fsts, hn]) (Rd.own h2) s3 (by omega)
  have e1 : w1.heap[z]? = _ := (b1.block z hzl).trans h1
  have e2 : w2.heap[z]? = _ := (b2.block z hzl).trans h1
  have e3 := block_setCell (i := 1) e2 (.slice a2 (n + 1) c2)
  have h3' : (w2.setCell ⟨z, 1, none⟩ (.slice a2 (n + 1) c2)).ownsRow 0 3 1 (.slice la l.length lc) l.length (i64s (snds l)) :=
    own_mod h3 ((Mod.of_below b2 [z]).setCell (.inl (by simp)) _) (fun k hk hm => q2 k hk (by simpa using hm))
  obtain ⟨a4, c4, w4, a5, c5, w5, r4, r5, o5, b4, b5⟩ := app2 (w2.setCell ⟨z, 1, none⟩ (.slice a2 (n + 1) c2)) la n lc (snds l) d (by simp [snds, hn]) (Rd.own h3') t3 (by omega)
  have hs3 : (w2.setCell ⟨z, 1, none⟩ (.slice a2 (n + 1) c2)).heap.size = w2.heap.size := by simp
  rw [hs3] at r4 b4 b5 o5
  have hzw2 := b2.size
  have e5 : w5.heap[z]? = _ := (b5.block z (by omega)).trans e3
  have k0 := cell_block (block_alloc (x := .cells #[] 3) h1) 1
  have k2 := cell_block e2 1
  have f2 := frozen_block e2 1
  have k3 := cell_block (block_alloc (x := .cells #[] 3) e3) 2
  have k5 := cell_block e5 2
  have f5 := frozen_block e5 2
  have fin := both (l' := l ++ [(x, d)]) h (by simp [hn]) b2 (by rw [fsts_app]; exact o2) b5 (by rw [show snds (l ++ [(x, d)]) = snds l ++ [d] by simp [snds]]; exact o5)
  have Fin := Lib.hid fin
  rw [hn] at k0 k2 k3 k5
  simp at k0 k2 k3 k5
  clear fin h h1 h2 h3 h3' q1 q2 q3 o2 b1 b2 o5 b4 b5 e1 e2 e3 e5 hs3 hn
  go_enter Tryd.func89, Tryd.ntmps89
  go_wp2_with (first | (at_builtin; (with_reducible apply wpList_append_run r1); rfl; rfl; rfl; rfl; rfl) | (at_builtin; (with_reducible apply wpList_append_run r2); rfl; rfl; rfl; rfl; rfl) | (at_builtin; (with_reducible apply wpList_append_run r4); rfl; rfl; rfl; rfl; rfl) | (at_builtin; (with_reducible apply wpList_append_run r5); rfl; rfl; rfl; rfl; rfl))
  go_end0
  exact ⟨rfl, Fin.out⟩

/-- 'append(append([]int{}, xs[:i]...), xs[i+1:]...)': the two runs. -/
theorem cut2 (W : World) (a : Option Addr) (n c i m : Nat) (xs : List Int) (hl : xs.length = n) (own : W.ownsRow 0 3 1 (.slice a n c) n (i64s xs)) (hi : i < n) (hm : n = m + 1) (h63 : n ≤ 1000000) :
    ∃ g A a1 c1 w1 a2 c2 w2, a = some ⟨g, 0, none⟩ ∧ (if c = i + 1 then (some ⟨g, 0, none⟩ : Option Addr) else some ⟨g, i + 1, none⟩) = some A ∧
      (Builtin.append_ #[32, 32] 32 #[.slice (some ⟨W.heap.size, 0, none⟩) 0 0, .slice (some ⟨g, 0, none⟩) i c]).run Tryd.prog (W.alloc (.cells #[] 3)).drew = .ok (.slice a1 i c1) w1 ∧
      (Builtin.append_ #[32, 32] 32 #[.slice a1 i c1, .slice (some A) (n - (i + 1)) (c - (i + 1))]).run Tryd.prog w1 = .ok (.slice a2 m c2) w2 ∧
      w2.ownsRow W.heap.size 3 1 (.slice a2 m c2) m (i64s (xs.eraseIdx i)) ∧ Below W.heap.size W w1 ∧ Below W.heap.size W w2 := by
  obtain ⟨s1, s2, _⟩ := slice_own own
  obtain ⟨g, rfl⟩ : ∃ g, a = some ⟨g, 0, none⟩ := by
    obtain ⟨_, ⟨hx, h0⟩ | ⟨g', c', cur, hx, _⟩⟩ := own
    · omega
    · simp only [Value.slice.injEq] at hx
      exact ⟨_, hx.1⟩
  have hr := Rd.own own
  have own0 := World.ownsRow_made (base := W.heap.size) (e := 3) (size := 1) W #[] 0 (Nat.le_refl _) (by decide) rfl
  have hb0 := ((Below.refl W.heap.size W).alloc (Nat.le_refl _) (.cells #[] 3)).drew
  obtain ⟨A, hA, hrA⟩ : ∃ A : Addr, (if c = i + 1 then (some ⟨g, 0, none⟩ : Option Addr) else some ⟨g, i + 1, none⟩) = some A ∧ Rd W (some A) (i64s (xs.drop (i + 1))) := by
    by_cases h : c = i + 1
    · exact ⟨⟨g, 0, none⟩, by simp [h], by rw [List.drop_of_length_le (by omega)]; exact Rd.nil _ _⟩
    · exact ⟨⟨g, i + 1, none⟩, by simp [h], by have := hr.drop (i + 1); simpa [i64s] using this⟩
  have own0d : (W.alloc (.cells #[] 3)).drew.ownsRow W.heap.size 3 1 (.slice (some ⟨W.heap.size, 0, none⟩) 0 0) 0 [] := own_keep own0 (Below.refl _ _).drew
  obtain ⟨v1, w1, hrun1, own1, gr1, _⟩ := elI.append W.heap.size (ty := 32) own0d i c (news := i64s (xs.take i)) (by simp [i64s]; omega) (by have := (hr.take i).keep hb0; simpa [i64s] using this) (fun h => by cases h) (oneCell_i64s _) (by unfold maxLen; omega) (by omega) hb0.size
  have hB1 : Below W.heap.size W w1 := hb0.grown gr1 hb0.size (fun j hj => (own0d.lt j hj).1)
  simp only [Nat.zero_add] at hrun1 own1
  obtain ⟨a1, c1, rfl, _⟩ := rd_own own1
  obtain ⟨v2, w2, hrun2, own2, gr2, _⟩ := elI.append W.heap.size (ty := 32) own1 (n - (i + 1)) (c - (i + 1)) (by simp [i64s, hl]) (hrA.keep hB1) (fun h => by cases h) (oneCell_i64s _) (by unfold maxLen; omega) (by omega) hB1.size
  have hB2 : Below W.heap.size W w2 := hB1.grown gr2 hB1.size (fun j hj => (own1.lt j hj).1)
  rw [show i + (n - (i + 1)) = m by omega] at own2
  obtain ⟨a2, c2, rfl, _⟩ := rd_own own2
  exact ⟨g, A, a1, c1, w1, a2, c2, w2, rfl, hA, hrun1, hrun2, by rw [List.eraseIdx_eq_take_drop_succ, i64s_append]; exact (by simpa using own2 : w2.ownsRow W.heap.size 3 1 (.slice a2 m c2) m (i64s (xs.take i) ++ i64s (xs.drop (i + 1)))), hB1, hB2⟩

theorem fsts_erase (l : List (Int × Int)) (i : Nat) : fsts (l.eraseIdx i) = (fsts l).eraseIdx i := by
  induction l generalizing i with
  | nil => rfl
  | cons z l ih =>
    cases i with
    | zero => rfl
    | succ i => simp only [List.eraseIdx_cons_succ, fsts, List.map_cons]; rw [show List.map (fun x => x.1) (l.eraseIdx i) = fsts (l.eraseIdx i) from rfl, ih]; rfl
theorem snds_erase (l : List (Int × Int)) (i : Nat) : snds (l.eraseIdx i) = (snds l).eraseIdx i := by
  induction l generalizing i with
  | nil => rfl
  | cons z l ih =>
    cases i with
    | zero => rfl
    | succ i => simp only [List.eraseIdx_cons_succ, snds, List.map_cons]; rw [show List.map (fun x => x.2) (l.eraseIdx i) = snds (l.eraseIdx i) from rfl, ih]; rfl

set_option maxHeartbeats 2000000 in
set_option maxRecDepth 100000 in
theorem out_c (i : Nat) (w : World) (h : Rf w z gr gl Q l on) (hl : l.length ≤ 100000) (hi : i < l.length) :
    Calls Tryd.prog 90 #[.pointer (some ⟨z, 0, none⟩), .int .i64 i] w fun e w' => e = .returned (.tuple #[]) ∧ ∃ gr' gl', Rf w' z gr' gl' Q (l.eraseIdx i) on ∧ Mod [z] w w' ∧ (∀ k ∈ gr' ++ gl', w.heap.size ≤ k) := by
  obtain ⟨ra, rc, la, lc, h1, h2, h3, _, _, q1, q2, q3⟩ := h.op
  have hzl := block_lt h1
  obtain ⟨s1, s2, s3⟩ := slice_own h2
  obtain ⟨t1, t2, t3⟩ := slice_own h3
  obtain ⟨m, hm⟩ : ∃ m, l.length = m + 1 := ⟨l.length - 1, by omega⟩
  obtain ⟨n, hn⟩ : ∃ n, l.length = n := ⟨_, rfl⟩
  rw [hn] at h1 h2 h3 q1 q2 q3 s1 t1 hl hi hm
  obtain ⟨g, A, a1, c1, w1, a2, c2, w2, rfl, hA, r1, r2, o2, b1, b2⟩ := cut2 w ra n rc i m (fsts l) (by simp [fsts, hn]) h2 hi hm (by omega)
  have e1 : w1.heap[z]? = _ := (b1.block z hzl).trans h1
  have e2 : w2.heap[z]? = _ := (b2.block z hzl).trans h1
  have e3 := block_setCell (i := 1) e2 (.slice a2 m c2)
  have h3' : (w2.setCell ⟨z, 1, none⟩ (.slice a2 m c2)).ownsRow 0 3 1 (.slice la n lc) n (i64s (snds l)) :=
    own_mod h3 ((Mod.of_below b2 [z]).setCell (.inl (by simp)) _) (fun k hk hm => q2 k hk (by simpa using hm))
  have hs3 : (w2.setCell ⟨z, 1, none⟩ (.slice a2 m c2)).heap.size = w2.heap.size := by simp
  obtain ⟨g', A', a4, c4, w4, a5, c5, w5, rfl, hA', r4, r5, o5, b4, b5⟩ := cut2 (w2.setCell ⟨z, 1, none⟩ (.slice a2 m c2)) la n lc i m (snds l) (by simp [snds, hn]) h3' hi hm (by omega)
  rw [hs3] at r4 b4 b5 o5
  have hzw2 := b2.size
  have e5 : w5.heap[z]? = _ := (b5.block z (by omega)).trans e3
  have e4 : w4.heap[z]? = _ := (b4.block z (by omega)).trans e3
  have k0 := cell_block h1 1
  have k0a := cell_block (block_alloc (x := .cells #[] 3) h1) 1
  have k1 := cell_block e1 1
  have k2 := cell_block e2 1
  have f2 := frozen_block e2 1
  have k3 := cell_block e3 2
  have k3a := cell_block (block_alloc (x := .cells #[] 3) e3) 2
  have k4 := cell_block e4 2
  have k5 := cell_block e5 2
  have f5 := frozen_block e5 2
  have hle : (l.eraseIdx i).length = m := by rw [List.length_eraseIdx, if_pos (by omega)]; omega
  have fin := both (l' := l.eraseIdx i) h hle b2 (by rw [fsts_erase]; exact o2) b5 (by rw [snds_erase]; exact o5)
  have Fin := Lib.hid fin
  simp at k0 k0a k1 k2 k3 k3a k4 k5
  have hicr : i ≤ rc := by omega
  have hicl : i ≤ lc := by omega
  have hjcr : i + 1 ≤ rc := by omega
  have hjcl : i + 1 ≤ lc := by omega
  have hjn : (i : Int) + 1 ≤ n := by omega
  have hj0 : 0 ≤ (i : Int) + 1 := by omega
  have hrc63 : rc ≤ 9223372036854775807 := by unfold maxLen at s2; exact s2
  have hlc63 : lc ≤ 9223372036854775807 := by unfold maxLen at t2; exact t2
  clear fin h h1 h2 h3 h3' q1 q2 q3 o2 b1 b2 o5 b4 b5 e1 e2 e3 e4 e5 hs3 hn hm hle s2 t2
  have hww : IntKind.i64.wrap ((i : Int) + 1) = (i : Int) + 1 := IntWalk.i64_in _ ⟨by omega, by omega⟩
  have hwt : ((i : Int) + 1).toNat = i + 1 := by omega
  go_enter Tryd.func90, Tryd.ntmps90
  go_wp2
  go_cut [] (fun W => W = w2.setCell ⟨z, 1, none⟩ (.slice a2 m c2))
  case first =>
    go_region_law (first | ((with_reducible apply step_append_run r1); rfl; rfl; rfl; rfl; rfl) | ((with_reducible apply step_append_run r2); rfl; rfl; rfl; rfl; rfl))
    all_goals
      go_wp2
      go_meet
      case rel => rfl
  case rest =>
    subst hcut
    go_wp2
    go_region_law (first | ((with_reducible apply step_append_run r4); rfl; rfl; rfl; rfl; rfl) | ((with_reducible apply step_append_run r5); rfl; rfl; rfl; rfl; rfl))
    all_goals
      go_wp2
      go_end0
      exact ⟨rfl, Fin.out⟩
end R33
end Go.Proofs.YtjohljpcoodijaaDoor
