import Derived.Test.YtoeeddfinmfnoaaDoorQTreePure
import Derived.RangeFuncNested
import Derived.RangeFuncBound
import Derived.RangeFuncCalls
/- A range over an iterator that keeps a count in a block of its own: the iterator's word (SeqT), the statement's law (wp_rangeT). Over any program. -/
namespace Go.Proofs.YtoeeddfinmfnoaaDoor
open Go Go.RowKit
namespace Kt
/-- The iterator's word: whatever J says between two rounds, if it bears what the iterator does to blocks of its own (T) and whatever new ones it takes to them, and each round keeps those blocks and all below n₀: all of xs comes, or a round has said 'no more' behind a part of it. -/
def SeqT {α : Type} (n : Nat) (P : Program) (gf : Nat) (lb : Array Value) (encs : α → Array Value) (n₀ : Nat) (xs : List α) (w0 : World) : Prop :=
  ∀ (l : Nat) (J Jx : List Nat → List α → World → Prop) (W : World), Below w0.heap.size w0 W →
    (∀ T T' pre A A', J T pre A → Mod T A A' → (∀ b ∈ T', b ∈ T ∨ A.heap.size ≤ b) → J T' pre A') →
    (∀ T T' pre A A', Jx T pre A → Mod T A A' → (∀ b ∈ T', b ∈ T ∨ A.heap.size ≤ b) → Jx T' pre A') →
    J [] [] W →
    (∀ T pre x A, J T pre A → (∀ t ∈ T, W.heap.size ≤ t ∧ t < A.heap.size) → pre ++ [x] <+: xs → YieldAt Fence.wide (n - 1) P l (encs x) A fun e A' =>
      (e = .returned (.bool true) ∧ J T (pre ++ [x]) A' ∧ A.heap.size ≤ A'.heap.size ∧ (∀ t ∈ T, A'.heap[t]? = A.heap[t]?) ∧ Below n₀ A A') ∨ (e = .returned (.bool false) ∧ Jx T (pre ++ [x]) A')) →
    CallsIn Fence.wide n P gf (#[.func (.yield l) #[] #[]] ++ lb) W fun e W' => (∃ v, e = .returned v) ∧ (J [] xs W' ∨ (∃ pre, pre <+: xs ∧ Jx [] pre W'))
/-- How a round's body may be left. -/
def postT {α : Type} (T : List Nat) (n₀ : Nat) (I : List α → World → Prop) (Ix : Code → List α → World → Prop) (xs : List α) (W : World) : Exit → Act → World → Prop
  | .normal, _, W' => (W.heap.size ≤ W'.heap.size ∧ ∀ t ∈ T, W'.heap[t]? = W.heap[t]?) ∧ Below n₀ W W' ∧ I xs W'
  | .ret, _, W' => (W.heap.size ≤ W'.heap.size ∧ ∀ t ∈ T, W'.heap[t]? = W.heap[t]?) ∧ Ix .ret xs W'
  | .exit id, _, W' => (W.heap.size ≤ W'.heap.size ∧ ∀ t ∈ T, W'.heap[t]? = W.heap[t]?) ∧ Ix (.exit id) xs W'
  | .goto t, _, W' => (W.heap.size ≤ W'.heap.size ∧ ∀ t ∈ T, W'.heap[t]? = W.heap[t]?) ∧ Ix (.goto t) xs W'
  | .panic _, _, _ => False
  | .outgrown, _, _ => False
theorem putObj_mod {W : World} {k : Nat} {T : List Nat} (o : Obj) (hk : k ∈ T) : Mod T W (W.putObj k o) := by
  have hg := grownBy_putObj' W k o
  exact ⟨hg.os, hg.tape, hg.output, hg.size, fun j hj hn => hg.block j hj (fun e => hn (by cases e; exact hk))⟩
theorem below_put {W : World} {k n₀ : Nat} (o : Obj) (hk : n₀ ≤ k) (hlt : k < W.heap.size) : Below n₀ W (W.putObj k o) :=
  (Below.refl n₀ W).grown (grownBy_putObj' W k o) (by omega) (fun j e => by cases e; exact hk)
set_option maxHeartbeats 1000000 in
theorem wp_rangeT {α : Type} {n : Nat} {P : Program} {g : Operand} {ps : Array Tmp} {assign body : Code} {Q : Exit → Act → World → Prop} {a : Act} {w : World}
    {gf : Nat} {lb : Array Value} (hg : a.eval g = .func (.func gf) #[] lb) (eg : ∀ args w, (callFunc gf args).run P w = .ok (.enter gf args) w)
    {encs : α → Array Value} {n₀ : Nat} {xs : List α} {w0 : World} (hseq : SeqT (n - 1) P gf lb encs n₀ xs w0) (hb0 : Below w0.heap.size w0 w) (hn₀ : n₀ ≤ w.heap.size) (hps : ∀ x, (encs x).size = ps.size)
    (I : List Nat → List α → World → Prop) (Ix : Code → List Nat → List α → World → Prop)
    (hI : ∀ T T' pre A A', I T pre A → Mod T A A' → (∀ b ∈ T', b ∈ T ∨ A.heap.size ≤ b) → I T' pre A') (hIx : ∀ c T T' pre A A', Ix c T pre A → Mod T A A' → (∀ b ∈ T', b ∈ T ∨ A.heap.size ≤ b) → Ix c T' pre A')
    (h0 : ∀ T W', (∀ t ∈ T, w.heap.size ≤ t) → Below w.heap.size w W' → I T [] W') (a₁ : α → Act)
    (hassign : ∀ (l : Nat) (x : α) (W : World) (K : Act → World → Prop), K (a₁ x) W →
      assign.wpIn (Fence.wide.inRound l) (n - 1 - 1) P (Exit.then K (fun _ _ _ => False)) { tmps := (ps.zip (encs x)).foldl (fun t (p, v) => t.setIfInBounds p v) a.tmps, defers := [] } W)
    (hbody : ∀ (l : Nat) (T : List Nat) (pre : List α) (x : α) (W : World), I T pre W → (∀ t ∈ T, w.heap.size ≤ t ∧ t < W.heap.size) → pre ++ [x] <+: xs →
      body.wpIn (Fence.wide.inRound l) (n - 1 - 1) P (postT T n₀ (I T) (fun c => Ix c T) (pre ++ [x]) W) (a₁ x) W)
    (hdone : ∀ (D : Nat) (W : World), w.heap.size ≤ D → I [D] xs W → W.heap[D]? = some (.deferred (some [])) → Q .normal { a with defers := { target := .collected D, args := #[] } :: a.defers } W)
    (hstop : ∀ (D : Nat) (c : Code) (pre : List α) (W : World), w.heap.size ≤ D → pre <+: xs → Ix c [D] pre W → W.heap[D]? = some (.deferred (some [])) → c.wpIn Fence.wide n P Q { a with defers := { target := .collected D, args := #[] } :: a.defers } W) :
    (Code.rangeFunc g ps assign body).wpIn Fence.wide n P Q a w := by
  refine wpIn_rangeFunc fun fn hfn => ?_
  show ∃ l mark w₁ d w₁' f args w₂, (Instr.enterLoop fn a.tmps ps assign body none).run P w = .ok (l, mark) w₁ ∧ _
  -- the record, in each of its states
  obtain ⟨rc, hrc⟩ : ∃ rc : LoopState → Option Code → Loop, rc = fun st pe => { state := st, pending := pe, fn, tmps := a.tmps, params := ps, assign, body, defers := w.heap.size } := ⟨_, rfl⟩
  have hB1 : Below w.heap.size w ((w.alloc (.deferred (some []))).alloc (.loop (rc .ready none))) := ((Below.refl _ w).alloc (Nat.le_refl _) _).alloc (by simp) _
  have hL : ((w.alloc (.deferred (some []))).alloc (.loop (rc .ready none))).heap[w.heap.size + 1]? = some (.loop (rc .ready none)) := by
    have := World.alloc_heap_new (w.alloc (.deferred (some []))) (.loop (rc .ready none))
    rwa [World.size_alloc] at this
  have hD : ((w.alloc (.deferred (some []))).alloc (.loop (rc .ready none))).heap[w.heap.size]? = some (.deferred (some [])) :=
    (Below.heap_alloc _ _ _ (by simp)).trans (World.alloc_heap_new w _)
  have hsz : ((w.alloc (.deferred (some []))).alloc (.loop (rc .ready none))).heap.size = w.heap.size + 2 := by simp
  have hent := run_enterLoop_outer (P := P) (w := w) fn a.tmps ps assign body
  rw [show ({ state := .ready, pending := none, fn, tmps := a.tmps, params := ps, assign, body, defers := w.heap.size } : Loop) = rc .ready none by rw [hrc]] at hent
  generalize (w.alloc (.deferred (some []))).alloc (.loop (rc .ready none)) = W1 at *
  refine ⟨_, _, W1, { target := .fn (.func gf) lb, args := #[.func (.yield (w.heap.size + 1)) #[] #[]] }, W1, gf, #[.func (.yield (w.heap.size + 1)) #[] #[]] ++ lb, W1, hent, ?_, fun _ _ => trivial, ?_, fun h => (by cases h), ?_⟩
  · simp only [resolve, hg]
    simp [go_sem]
  · simp [invoke, go_sem, eg]
  have hne : w.heap.size ≠ w.heap.size + 1 := by omega
  refine (hseq (w.heap.size + 1)
    (fun T pre W => I (w.heap.size :: (w.heap.size + 1) :: T) pre W ∧ W1.heap.size ≤ W.heap.size ∧ (∀ t ∈ T, W1.heap.size ≤ t) ∧ W.heap[w.heap.size + 1]? = some (.loop (rc .ready none)) ∧ W.heap[w.heap.size]? = some (.deferred (some [])))
    (fun T pre W => ∃ c, Ix c (w.heap.size :: (w.heap.size + 1) :: T) pre W ∧ W1.heap.size ≤ W.heap.size ∧ (∀ t ∈ T, W1.heap.size ≤ t) ∧ W.heap[w.heap.size + 1]? = some (.loop (rc .done (some c))) ∧ W.heap[w.heap.size]? = some (.deferred (some [])))
    W1 (hb0.trans (hB1.mono hb0.size)) ?_ ?_ ?_ ?_).mono ?_
  · rintro T T' pre A A' ⟨h1, h2, hT, e1, e2⟩ hM hT'
    have hn : ∀ k, k < W1.heap.size → k ∉ T := fun k hk hm => by have := hT k hm; omega
    refine ⟨hI _ _ _ _ _ h1 (hM.sub (by intro k hk; simp [hk])) ?_, Nat.le_trans h2 hM.size, ?_, (hM.block _ (block_lt e1) (hn _ (by omega))).trans e1, (hM.block _ (block_lt e2) (hn _ (by omega))).trans e2⟩
    · intro b hb
      simp only [List.mem_cons] at hb ⊢
      rcases hb with h | h | h
      · exact .inl (.inl h)
      · exact .inl (.inr (.inl h))
      · rcases hT' b h with h | h
        · exact .inl (.inr (.inr h))
        · exact .inr h
    · intro b hb
      rcases hT' b hb with h | h
      · exact hT b h
      · omega
  · rintro T T' pre A A' ⟨c, h1, h2, hT, e1, e2⟩ hM hT'
    have hn : ∀ k, k < W1.heap.size → k ∉ T := fun k hk hm => by have := hT k hm; omega
    refine ⟨c, hIx _ _ _ _ _ _ h1 (hM.sub (by intro k hk; simp [hk])) ?_, Nat.le_trans h2 hM.size, ?_, (hM.block _ (block_lt e1) (hn _ (by omega))).trans e1, (hM.block _ (block_lt e2) (hn _ (by omega))).trans e2⟩
    · intro b hb
      simp only [List.mem_cons] at hb ⊢
      rcases hb with h | h | h
      · exact .inl (.inl h)
      · exact .inl (.inr (.inl h))
      · rcases hT' b h with h | h
        · exact .inl (.inr (.inr h))
        · exact .inr h
    · intro b hb
      rcases hT' b hb with h | h
      · exact hT b h
      · omega
  · exact ⟨h0 _ _ (by intro t ht; simp at ht; omega) hB1, Nat.le_refl _, by simp, hL, hD⟩
  · -- one round
    rintro T pre x A ⟨hi, hs, hTs, hl, hd⟩ hTA hpre
    have hy := run_yield (P := P) (args := encs x) hl (by rw [hrc]; exact hps x)
    have hlt := block_lt hl
    obtain ⟨A2, hA2⟩ : ∃ A2, A.putObj (w.heap.size + 1) (.loop { rc .ready none with state := .busy }) = A2 := ⟨_, rfl⟩
    obtain ⟨TT, hTT⟩ : ∃ TT, w.heap.size :: (w.heap.size + 1) :: T = TT := ⟨_, rfl⟩
    have hsub : ∀ b ∈ TT, b ∈ TT ∨ A.heap.size ≤ b := fun b hb => .inl hb
    have m0 : w.heap.size ∈ TT := by rw [← hTT]; simp
    have m1 : w.heap.size + 1 ∈ TT := by rw [← hTT]; simp
    have m2 : ∀ t ∈ T, t ∈ TT := by intro t ht; rw [← hTT]; simp [ht]
    have hTTb : ∀ t ∈ TT, w.heap.size ≤ t ∧ t < A.heap.size := by
      intro t ht
      rw [← hTT] at ht
      simp only [List.mem_cons] at ht
      rcases ht with rfl | rfl | ht
      · omega
      · omega
      · have := hTA t ht; omega
    rw [hTT] at hi
    have hM2 : Mod TT A A2 := by rw [← hA2]; exact putObj_mod _ m1
    have hl2 : A2.heap[w.heap.size + 1]? = some (.loop { rc .ready none with state := .busy }) := by rw [← hA2]; exact World.putObj_heap_same hlt
    have hd2 : A2.heap[w.heap.size]? = some (.deferred (some [])) := by rw [← hA2]; exact (World.putObj_heap_other (by omega)).trans hd
    have hp2 : ∀ t ∈ T, A2.heap[t]? = A.heap[t]? := fun t ht => by rw [← hA2]; exact World.putObj_heap_other (by have := hTs t ht; omega)
    have hb2 : Below n₀ A A2 := by rw [← hA2]; exact below_put _ (by omega) hlt
    have hround : RoundIn Fence.wide (n - 1 - 1) P (w.heap.size + 1) fn ((ps.zip (encs x)).foldl (fun t (p, v) => t.setIfInBounds p v) a.tmps) assign body A fun e A' =>
        (e = .returned (.bool true) ∧ (I TT (pre ++ [x]) A' ∧ W1.heap.size ≤ A'.heap.size ∧ (∀ t ∈ T, W1.heap.size ≤ t) ∧ A'.heap[w.heap.size + 1]? = some (.loop (rc .ready none)) ∧ A'.heap[w.heap.size]? = some (.deferred (some []))) ∧ A.heap.size ≤ A'.heap.size ∧ (∀ t ∈ T, A'.heap[t]? = A.heap[t]?) ∧ Below n₀ A A') ∨
        (e = .returned (.bool false) ∧ ∃ c, Ix c TT (pre ++ [x]) A' ∧ W1.heap.size ≤ A'.heap.size ∧ (∀ t ∈ T, W1.heap.size ≤ t) ∧ A'.heap[w.heap.size + 1]? = some (.loop (rc .done (some c))) ∧ A'.heap[w.heap.size]? = some (.deferred (some []))) := by
      refine roundIn_of_wpIn trivial (hassign _ x A _ ⟨_, run_beginRound hl (by rw [hrc]), ?_⟩)
      rw [hA2]
      refine wpIn_mono (hbody _ TT pre x A2 (hI _ _ _ _ _ hi hM2 hsub) (fun t ht => ⟨(hTTb t ht).1, Nat.lt_of_lt_of_le (hTTb t ht).2 hM2.size⟩) hpre) ?_
      -- the end of a round, whichever way it is left
      have fin : ∀ (jump : Option Code) (A3 : World), (A2.heap.size ≤ A3.heap.size ∧ ∀ t ∈ TT, A3.heap[t]? = A2.heap[t]?) →
          ∃ A4, (Instr.endRound (w.heap.size + 1) jump).run P A3 = .ok (.bool jump.isNone) A4 ∧ Mod TT A3 A4 ∧ A4.heap[w.heap.size + 1]? = some (.loop (rc (if jump.isNone then .ready else .done) jump)) ∧
            A4.heap[w.heap.size]? = some (.deferred (some [])) ∧ (∀ t ∈ T, A4.heap[t]? = A.heap[t]?) ∧ Below n₀ A3 A4 := by
        rintro jump A3 ⟨hs3, hT3⟩
        have hl3 : A3.heap[w.heap.size + 1]? = some (.loop { rc .ready none with state := .busy }) := (hT3 _ m1).trans hl2
        have he := run_endRound (P := P) jump hl3
        refine ⟨_, he, putObj_mod _ m1, ?_, ?_, ?_, below_put _ (by omega) (block_lt hl3)⟩
        · rw [World.putObj_heap_same (block_lt hl3), hrc]
        · exact (World.putObj_heap_other (by omega)).trans ((hT3 _ m0).trans hd2)
        · intro t ht
          exact (World.putObj_heap_other (by have := hTs t ht; omega)).trans ((hT3 _ (m2 t ht)).trans (hp2 t ht))
      have hsub3 : ∀ (A3 : World), ∀ b ∈ TT, b ∈ TT ∨ A3.heap.size ≤ b := fun _ b hb => .inl hb
      rintro e a3 A3 hpost
      cases e with
      | normal =>
        obtain ⟨hT, hb3, hi3⟩ := hpost
        obtain ⟨A4, he, hM4, r1, r2, r3, hb4⟩ := fin none A3 hT
        exact ⟨_, A4, he, .inl ⟨rfl, ⟨hI _ _ _ _ _ hi3 hM4 (hsub3 _), by have := hM2.size; have := hM4.size; omega, hTs, r1, r2⟩, by have := hM2.size; have := hM4.size; omega, r3, (hb2.trans hb3).trans hb4⟩⟩
      | ret =>
        obtain ⟨hT, hi3⟩ := hpost
        obtain ⟨A4, he, hM4, r1, r2, r3, hb4⟩ := fin (some .ret) A3 hT
        exact ⟨_, A4, he, .inr ⟨rfl, .ret, hIx _ _ _ _ _ _ hi3 hM4 (hsub3 _), by have := hM2.size; have := hM4.size; omega, hTs, r1, r2⟩⟩
      | exit id =>
        obtain ⟨hT, hi3⟩ := hpost
        obtain ⟨A4, he, hM4, r1, r2, r3, hb4⟩ := fin (some (.exit id)) A3 hT
        exact ⟨_, A4, he, .inr ⟨rfl, .exit id, hIx _ _ _ _ _ _ hi3 hM4 (hsub3 _), by have := hM2.size; have := hM4.size; omega, hTs, r1, r2⟩⟩
      | goto t =>
        obtain ⟨hT, hi3⟩ := hpost
        obtain ⟨A4, he, hM4, r1, r2, r3, hb4⟩ := fin (some (.goto t)) A3 hT
        exact ⟨_, A4, he, .inr ⟨rfl, .goto t, hIx _ _ _ _ _ _ hi3 hM4 (hsub3 _), by have := hM2.size; have := hM4.size; omega, hTs, r1, r2⟩⟩
      | panic ch => exact hpost.elim
      | outgrown => exact hpost.elim
    rw [hrc] at hy
    refine ⟨fn, _, assign, body, hy, ?_⟩
    rw [← hTT] at hround
    exact hround
  · -- behind the iterator
    rintro e W2 ⟨⟨v, rfl⟩, (⟨hi, hs, _, hl, hd⟩ | ⟨pre, hpre, c, hi, hs, _, hl, hd⟩)⟩
    · have he := run_endLoop (P := P) hl (by rw [hrc]; simp)
      rw [show (rc .ready none).pending = none by rw [hrc]] at he
      exact ⟨none, _, he, hdone _ _ (Nat.le_refl _) (hI _ _ _ _ _ hi (putObj_mod _ (by simp)) (by intro b hb; simp at hb; subst hb; exact .inl (by simp))) ((World.putObj_heap_other (by omega)).trans hd)⟩
    · have he := run_endLoop (P := P) hl (by rw [hrc]; simp)
      rw [show (rc .done (some c)).pending = some c by rw [hrc]] at he
      exact ⟨some c, _, he, hstop _ _ _ _ (Nat.le_refl _) hpre (hIx _ _ _ _ _ _ hi (putObj_mod _ (by simp)) (by intro b hb; simp at hb; subst hb; exact .inl (by simp))) ((World.putObj_heap_other (by omega)).trans hd)⟩
end Kt
end Go.Proofs.YtoeeddfinmfnoaaDoor

/- The law wp_rangeT for a statement whose 'assign' makes memory (a variable of each round in a box of its own). Over any program. -/
namespace Go.Proofs.YtoeeddfinmfnoaaDoor
open Go Go.RowKit
namespace Kt
set_option maxHeartbeats 1000000 in
theorem wp_rangeA {α : Type} {n : Nat} {P : Program} {g : Operand} {ps : Array Tmp} {assign body : Code} {Q : Exit → Act → World → Prop} {a : Act} {w : World}
    {gf : Nat} {lb : Array Value} (hg : a.eval g = .func (.func gf) #[] lb) (eg : ∀ args w, (callFunc gf args).run P w = .ok (.enter gf args) w)
    {encs : α → Array Value} {n₀ : Nat} {xs : List α} {w0 : World} (hseq : SeqT (n - 1) P gf lb encs n₀ xs w0) (hb0 : Below w0.heap.size w0 w) (hn₀ : n₀ ≤ w.heap.size) (hps : ∀ x, (encs x).size = ps.size)
    (I : List Nat → List α → World → Prop) (Ix : Code → List Nat → List α → World → Prop)
    (hI : ∀ T T' pre A A', I T pre A → Mod T A A' → (∀ b ∈ T', b ∈ T ∨ A.heap.size ≤ b) → I T' pre A') (hIx : ∀ c T T' pre A A', Ix c T pre A → Mod T A A' → (∀ b ∈ T', b ∈ T ∨ A.heap.size ≤ b) → Ix c T' pre A')
    (h0 : ∀ T W', (∀ t ∈ T, w.heap.size ≤ t) → Below w.heap.size w W' → I T [] W') (Asg : α → World → Act → World → Prop) (hAsg : ∀ x W a' W', Asg x W a' W' → Below W.heap.size W W')
    (hassign : ∀ (l : Nat) (x : α) (W : World) (K : Act → World → Prop), x ∈ xs → (∀ a' W', Asg x W a' W' → K a' W') →
      assign.wpIn (Fence.wide.inRound l) (n - 1 - 1) P (Exit.then K (fun _ _ _ => False)) { tmps := (ps.zip (encs x)).foldl (fun t (p, v) => t.setIfInBounds p v) a.tmps, defers := [] } W)
    (hbody : ∀ (l : Nat) (T : List Nat) (pre : List α) (x : α) (W0 W1 W : World) (a' : Act), I T pre W → Asg x W0 a' W1 → Mod T W1 W → (∀ t ∈ T, w.heap.size ≤ t ∧ t < W0.heap.size) → w.heap.size ≤ W0.heap.size → pre ++ [x] <+: xs →
      body.wpIn (Fence.wide.inRound l) (n - 1 - 1) P (postT T n₀ (I T) (fun c => Ix c T) (pre ++ [x]) W) a' W)
    (hdone : ∀ (D : Nat) (W : World), w.heap.size ≤ D → I [D] xs W → W.heap[D]? = some (.deferred (some [])) → Q .normal { a with defers := { target := .collected D, args := #[] } :: a.defers } W)
    (hstop : ∀ (D : Nat) (c : Code) (pre : List α) (W : World), w.heap.size ≤ D → pre <+: xs → Ix c [D] pre W → W.heap[D]? = some (.deferred (some [])) → c.wpIn Fence.wide n P Q { a with defers := { target := .collected D, args := #[] } :: a.defers } W) :
    (Code.rangeFunc g ps assign body).wpIn Fence.wide n P Q a w := by
  refine wpIn_rangeFunc fun fn hfn => ?_
  show ∃ l mark w₁ d w₁' f args w₂, (Instr.enterLoop fn a.tmps ps assign body none).run P w = .ok (l, mark) w₁ ∧ _
  -- the record, in each of its states
  obtain ⟨rc, hrc⟩ : ∃ rc : LoopState → Option Code → Loop, rc = fun st pe => { state := st, pending := pe, fn, tmps := a.tmps, params := ps, assign, body, defers := w.heap.size } := ⟨_, rfl⟩
  have hB1 : Below w.heap.size w ((w.alloc (.deferred (some []))).alloc (.loop (rc .ready none))) := ((Below.refl _ w).alloc (Nat.le_refl _) _).alloc (by simp) _
  have hL : ((w.alloc (.deferred (some []))).alloc (.loop (rc .ready none))).heap[w.heap.size + 1]? = some (.loop (rc .ready none)) := by
    have := World.alloc_heap_new (w.alloc (.deferred (some []))) (.loop (rc .ready none))
    rwa [World.size_alloc] at this
  have hD : ((w.alloc (.deferred (some []))).alloc (.loop (rc .ready none))).heap[w.heap.size]? = some (.deferred (some [])) :=
    (Below.heap_alloc _ _ _ (by simp)).trans (World.alloc_heap_new w _)
  have hsz : ((w.alloc (.deferred (some []))).alloc (.loop (rc .ready none))).heap.size = w.heap.size + 2 := by simp
  have hent := run_enterLoop_outer (P := P) (w := w) fn a.tmps ps assign body
  rw [show ({ state := .ready, pending := none, fn, tmps := a.tmps, params := ps, assign, body, defers := w.heap.size } : Loop) = rc .ready none by rw [hrc]] at hent
  generalize (w.alloc (.deferred (some []))).alloc (.loop (rc .ready none)) = W1 at *
  refine ⟨_, _, W1, { target := .fn (.func gf) lb, args := #[.func (.yield (w.heap.size + 1)) #[] #[]] }, W1, gf, #[.func (.yield (w.heap.size + 1)) #[] #[]] ++ lb, W1, hent, ?_, fun _ _ => trivial, ?_, fun h => (by cases h), ?_⟩
  · simp only [resolve, hg]
    simp [go_sem]
  · simp [invoke, go_sem, eg]
  have hne : w.heap.size ≠ w.heap.size + 1 := by omega
  refine (hseq (w.heap.size + 1)
    (fun T pre W => I (w.heap.size :: (w.heap.size + 1) :: T) pre W ∧ W1.heap.size ≤ W.heap.size ∧ (∀ t ∈ T, W1.heap.size ≤ t) ∧ W.heap[w.heap.size + 1]? = some (.loop (rc .ready none)) ∧ W.heap[w.heap.size]? = some (.deferred (some [])))
    (fun T pre W => ∃ c, Ix c (w.heap.size :: (w.heap.size + 1) :: T) pre W ∧ W1.heap.size ≤ W.heap.size ∧ (∀ t ∈ T, W1.heap.size ≤ t) ∧ W.heap[w.heap.size + 1]? = some (.loop (rc .done (some c))) ∧ W.heap[w.heap.size]? = some (.deferred (some [])))
    W1 (hb0.trans (hB1.mono hb0.size)) ?_ ?_ ?_ ?_).mono ?_
  · rintro T T' pre A A' ⟨h1, h2, hT, e1, e2⟩ hM hT'
    have hn : ∀ k, k < W1.heap.size → k ∉ T := fun k hk hm => by have := hT k hm; omega
    refine ⟨hI _ _ _ _ _ h1 (hM.sub (by intro k hk; simp [hk])) ?_, Nat.le_trans h2 hM.size, ?_, (hM.block _ (block_lt e1) (hn _ (by omega))).trans e1, (hM.block _ (block_lt e2) (hn _ (by omega))).trans e2⟩
    · intro b hb
      simp only [List.mem_cons] at hb ⊢
      rcases hb with h | h | h
      · exact .inl (.inl h)
      · exact .inl (.inr (.inl h))
      · rcases hT' b h with h | h
        · exact .inl (.inr (.inr h))
        · exact .inr h
    · intro b hb
      rcases hT' b hb with h | h
      · exact hT b h
      · omega
  · rintro T T' pre A A' ⟨c, h1, h2, hT, e1, e2⟩ hM hT'
    have hn : ∀ k, k < W1.heap.size → k ∉ T := fun k hk hm => by have := hT k hm; omega
    refine ⟨c, hIx _ _ _ _ _ _ h1 (hM.sub (by intro k hk; simp [hk])) ?_, Nat.le_trans h2 hM.size, ?_, (hM.block _ (block_lt e1) (hn _ (by omega))).trans e1, (hM.block _ (block_lt e2) (hn _ (by omega))).trans e2⟩
    · intro b hb
      simp only [List.mem_cons] at hb ⊢
      rcases hb with h | h | h
      · exact .inl (.inl h)
      · exact .inl (.inr (.inl h))
      · rcases hT' b h with h | h
        · exact .inl (.inr (.inr h))
        · exact .inr h
    · intro b hb
      rcases hT' b hb with h | h
      · exact hT b h
      · omega
  · exact ⟨h0 _ _ (by intro t ht; simp at ht; omega) hB1, Nat.le_refl _, by simp, hL, hD⟩
  · -- one round
    rintro T pre x A ⟨hi, hs, hTs, hl, hd⟩ hTA hpre
    have hy := run_yield (P := P) (args := encs x) hl (by rw [hrc]; exact hps x)
    have hlt := block_lt hl
    obtain ⟨TT, hTT⟩ : ∃ TT, w.heap.size :: (w.heap.size + 1) :: T = TT := ⟨_, rfl⟩
    have hsub : ∀ b ∈ TT, b ∈ TT ∨ A.heap.size ≤ b := fun b hb => .inl hb
    have m0 : w.heap.size ∈ TT := by rw [← hTT]; simp
    have m1 : w.heap.size + 1 ∈ TT := by rw [← hTT]; simp
    have m2 : ∀ t ∈ T, t ∈ TT := by intro t ht; rw [← hTT]; simp [ht]
    have hTTb : ∀ t ∈ TT, w.heap.size ≤ t ∧ t < A.heap.size := by
      intro t ht
      rw [← hTT] at ht
      simp only [List.mem_cons] at ht
      rcases ht with rfl | rfl | ht
      · omega
      · omega
      · have := hTA t ht; omega
    rw [hTT] at hi
    have hround : RoundIn Fence.wide (n - 1 - 1) P (w.heap.size + 1) fn ((ps.zip (encs x)).foldl (fun t (p, v) => t.setIfInBounds p v) a.tmps) assign body A fun e A' =>
        (e = .returned (.bool true) ∧ (I TT (pre ++ [x]) A' ∧ W1.heap.size ≤ A'.heap.size ∧ (∀ t ∈ T, W1.heap.size ≤ t) ∧ A'.heap[w.heap.size + 1]? = some (.loop (rc .ready none)) ∧ A'.heap[w.heap.size]? = some (.deferred (some []))) ∧ A.heap.size ≤ A'.heap.size ∧ (∀ t ∈ T, A'.heap[t]? = A.heap[t]?) ∧ Below n₀ A A') ∨
        (e = .returned (.bool false) ∧ ∃ c, Ix c TT (pre ++ [x]) A' ∧ W1.heap.size ≤ A'.heap.size ∧ (∀ t ∈ T, W1.heap.size ≤ t) ∧ A'.heap[w.heap.size + 1]? = some (.loop (rc .done (some c))) ∧ A'.heap[w.heap.size]? = some (.deferred (some []))) := by
      refine roundIn_of_wpIn trivial (hassign _ x A _ (hpre.subset (by simp)) fun a' A1 hA1 => ?_)
      have hbA := hAsg x A a' A1 hA1
      have hl1 := (hbA.block _ hlt).trans hl
      have hd1 := (hbA.block _ (block_lt hd)).trans hd
      refine ⟨_, run_beginRound hl1 (by rw [hrc]), ?_⟩
      obtain ⟨A2, hA2⟩ : ∃ A2, A1.putObj (w.heap.size + 1) (.loop { rc .ready none with state := .busy }) = A2 := ⟨_, rfl⟩
      rw [hA2]
      have hM12 : Mod TT A1 A2 := by rw [← hA2]; exact putObj_mod _ m1
      have hM2 : Mod TT A A2 := (Mod.of_below hbA TT).trans hM12 (fun b hb => .inl hb)
      have hlt1 := block_lt hl1
      have hl2 : A2.heap[w.heap.size + 1]? = some (.loop { rc .ready none with state := .busy }) := by rw [← hA2]; exact World.putObj_heap_same hlt1
      have hd2 : A2.heap[w.heap.size]? = some (.deferred (some [])) := by rw [← hA2]; exact (World.putObj_heap_other (by omega)).trans hd1
      have hp2 : ∀ t ∈ T, A2.heap[t]? = A.heap[t]? := fun t ht => by rw [← hA2]; exact (World.putObj_heap_other (by have := hTs t ht; omega)).trans (hbA.block t (hTA t ht).2)
      have hb2 : Below n₀ A A2 := by rw [← hA2]; exact (hbA.mono (by omega)).trans (below_put _ (by omega) hlt1)
      refine wpIn_mono (hbody _ TT pre x A A1 A2 a' (hI _ _ _ _ _ hi hM2 hsub) hA1 hM12 hTTb (by omega) hpre) ?_
      -- the end of a round, whichever way it is left
      have fin : ∀ (jump : Option Code) (A3 : World), (A2.heap.size ≤ A3.heap.size ∧ ∀ t ∈ TT, A3.heap[t]? = A2.heap[t]?) →
          ∃ A4, (Instr.endRound (w.heap.size + 1) jump).run P A3 = .ok (.bool jump.isNone) A4 ∧ Mod TT A3 A4 ∧ A4.heap[w.heap.size + 1]? = some (.loop (rc (if jump.isNone then .ready else .done) jump)) ∧
            A4.heap[w.heap.size]? = some (.deferred (some [])) ∧ (∀ t ∈ T, A4.heap[t]? = A.heap[t]?) ∧ Below n₀ A3 A4 := by
        rintro jump A3 ⟨hs3, hT3⟩
        have hl3 : A3.heap[w.heap.size + 1]? = some (.loop { rc .ready none with state := .busy }) := (hT3 _ m1).trans hl2
        have he := run_endRound (P := P) jump hl3
        refine ⟨_, he, putObj_mod _ m1, ?_, ?_, ?_, below_put _ (by omega) (block_lt hl3)⟩
        · rw [World.putObj_heap_same (block_lt hl3), hrc]
        · exact (World.putObj_heap_other (by omega)).trans ((hT3 _ m0).trans hd2)
        · intro t ht
          exact (World.putObj_heap_other (by have := hTs t ht; omega)).trans ((hT3 _ (m2 t ht)).trans (hp2 t ht))
      have hsub3 : ∀ (A3 : World), ∀ b ∈ TT, b ∈ TT ∨ A3.heap.size ≤ b := fun _ b hb => .inl hb
      rintro e a3 A3 hpost
      cases e with
      | normal =>
        obtain ⟨hT, hb3, hi3⟩ := hpost
        obtain ⟨A4, he, hM4, r1, r2, r3, hb4⟩ := fin none A3 hT
        exact ⟨_, A4, he, .inl ⟨rfl, ⟨hI _ _ _ _ _ hi3 hM4 (hsub3 _), by have := hM2.size; have := hM4.size; omega, hTs, r1, r2⟩, by have := hM2.size; have := hM4.size; omega, r3, (hb2.trans hb3).trans hb4⟩⟩
      | ret =>
        obtain ⟨hT, hi3⟩ := hpost
        obtain ⟨A4, he, hM4, r1, r2, r3, hb4⟩ := fin (some .ret) A3 hT
        exact ⟨_, A4, he, .inr ⟨rfl, .ret, hIx _ _ _ _ _ _ hi3 hM4 (hsub3 _), by have := hM2.size; have := hM4.size; omega, hTs, r1, r2⟩⟩
      | exit id =>
        obtain ⟨hT, hi3⟩ := hpost
        obtain ⟨A4, he, hM4, r1, r2, r3, hb4⟩ := fin (some (.exit id)) A3 hT
        exact ⟨_, A4, he, .inr ⟨rfl, .exit id, hIx _ _ _ _ _ _ hi3 hM4 (hsub3 _), by have := hM2.size; have := hM4.size; omega, hTs, r1, r2⟩⟩
      | goto t =>
        obtain ⟨hT, hi3⟩ := hpost
        obtain ⟨A4, he, hM4, r1, r2, r3, hb4⟩ := fin (some (.goto t)) A3 hT
        exact ⟨_, A4, he, .inr ⟨rfl, .goto t, hIx _ _ _ _ _ _ hi3 hM4 (hsub3 _), by have := hM2.size; have := hM4.size; omega, hTs, r1, r2⟩⟩
      | panic ch => exact hpost.elim
      | outgrown => exact hpost.elim
    rw [hrc] at hy
    refine ⟨fn, _, assign, body, hy, ?_⟩
    rw [← hTT] at hround
    exact hround
  · -- behind the iterator
    rintro e W2 ⟨⟨v, rfl⟩, (⟨hi, hs, _, hl, hd⟩ | ⟨pre, hpre, c, hi, hs, _, hl, hd⟩)⟩
    · have he := run_endLoop (P := P) hl (by rw [hrc]; simp)
      rw [show (rc .ready none).pending = none by rw [hrc]] at he
      exact ⟨none, _, he, hdone _ _ (Nat.le_refl _) (hI _ _ _ _ _ hi (putObj_mod _ (by simp)) (by intro b hb; simp at hb; subst hb; exact .inl (by simp))) ((World.putObj_heap_other (by omega)).trans hd)⟩
    · have he := run_endLoop (P := P) hl (by rw [hrc]; simp)
      rw [show (rc .done (some c)).pending = some c by rw [hrc]] at he
      exact ⟨some c, _, he, hstop _ _ _ _ (Nat.le_refl _) hpre (hIx _ _ _ _ _ _ hi (putObj_mod _ (by simp)) (by intro b hb; simp at hb; subst hb; exact .inl (by simp))) ((World.putObj_heap_other (by omega)).trans hd)⟩
end Kt
end Go.Proofs.YtoeeddfinmfnoaaDoor
