/- The model's pool (dofferref30): Open. -/
import Derived.Test.YtpjimmdpcpcmoaaDoorQPoolRef3
import Derived.Test.YtpjimmdpcpcmoaaDoorQApp
namespace Go.Proofs.YtpjimmdpcpcmoaaDoor
open Go Go.RowKit Kt
namespace Po
variable {w w' : World} {z ob oc bb bc ak : Nat} {aa : Option Addr} {G : List Nat} {m : Md} {L : List Nat}
theorem elAcc : El Tryd.prog 56 114 (.agg #[.int .i64 0, .int .i64 0]) 2 16 := ⟨Tryd.underlying56, info_parts (by kernel_rfl), rfl, by decide⟩
theorem a2_len (acc : List (Int × Int)) : (acc.flatMap a2).length = acc.length * 2 := by
  induction acc with
  | nil => rfl
  | cons q acc ih => simp only [List.flatMap_cons, List.length_append, ih, List.length_cons]; simp [a2]; omega
theorem a2_one (acc : List (Int × Int)) : ∀ u ∈ acc.flatMap a2, u.oneCell' = true := by
  intro u hu
  obtain ⟨q, _, hq⟩ := List.mem_flatMap.1 hu
  simp only [a2, List.mem_cons, List.not_mem_nil, or_false] at hq
  rcases hq with rfl | rfl <;> rfl
theorem sown {w : World} {base e sz n cap : Nat} {a : Option Addr} {xs : List Value} (h : w.ownsRow base e sz (.slice a n cap) n xs) : n ≤ cap ∧ cap ≤ maxLen ∧ (a = none → cap = 0) ∧ ∀ k ∈ sb a, base ≤ k ∧ k < w.heap.size := by
  obtain ⟨a', cap', hx, h1, h2, _⟩ := rd_own h
  simp only [Value.slice.injEq] at hx
  obtain ⟨rfl, _, rfl⟩ := hx
  refine ⟨h1, h2, fun e => by subst e; exact (own_none h).1, fun k hk => ?_⟩
  obtain ⟨_, ⟨hx, _⟩ | ⟨g', c', cur, hx, _⟩⟩ := id h
  · simp only [Value.slice.injEq] at hx
    rw [hx.1] at hk
    simp [sb] at hk
  · simp only [Value.slice.injEq] at hx
    rw [hx.1] at hk
    have e : g' = k := by simpa [sb, eq_comm] using hk
    subst e
    exact h.lt _ (by rw [hx.1]; rfl)
/-- 'append(append([]Account{}, xs...), x)': the two runs. -/
theorem app2a (W : World) (a : Option Addr) (m c : Nat) (xs : List (Int × Int)) (q : Int × Int) (hl : xs.length = m) (hr : Rd W a (xs.flatMap a2)) (hno : a = none → c = 0) (hm : m ≤ 1000000) :
    ∃ a1 c1 w1 av c2 w2, (Builtin.append_ #[56, 56] 56 #[.slice (some ⟨W.heap.size, 0, none⟩) 0 0, .slice a m c]).run Tryd.prog (W.alloc (.cells #[] 114)) = .ok (.slice a1 m c1) w1 ∧
      (Builtin.append_ #[56, 56] 56 #[.slice a1 m c1, .slice (some ⟨w1.heap.size, 0, none⟩) 1 1]).run Tryd.prog (w1.alloc (.cells #[.int .i64 q.1, .int .i64 q.2] 114)) = .ok (.slice av (m + 1) c2) w2 ∧
      w2.ownsRow W.heap.size 114 2 (.slice av (m + 1) c2) (m + 1) ((xs ++ [q]).flatMap a2) ∧ Below W.heap.size W w1 ∧ Below W.heap.size W w2 := by
  have own0 := World.ownsRow_made (base := W.heap.size) (e := 114) (size := 2) W #[] 0 (Nat.le_refl _) (by decide) rfl
  have hb0 := (Below.refl W.heap.size W).alloc (Nat.le_refl _) (.cells #[] 114)
  obtain ⟨v1, w1, hrun1, own1, gr1, _⟩ := elAcc.append W.heap.size (ty := 56) own0 m c (by rw [a2_len, hl]) (hr.keep hb0) hno (a2_one _) (by unfold maxLen; omega) (by omega) hb0.size
  have hB1 : Below W.heap.size W w1 := hb0.grown gr1 hb0.size (fun j hj => (own0.lt j hj).1)
  simp only [Nat.zero_add] at hrun1 own1
  obtain ⟨a1, c1, rfl, _⟩ := rd_own own1
  have hb2 := hB1.alloc hB1.size (.cells #[.int .i64 q.1, .int .i64 q.2] 114)
  have own1a := own1.alloc (.cells #[.int .i64 q.1, .int .i64 q.2] 114)
  obtain ⟨v2, w2, hrun2, own2, gr2, _⟩ := elAcc.append W.heap.size (ty := 56) own1a 1 1 rfl (Rd.new w1 #[.int .i64 q.1, .int .i64 q.2] 114 (0, 0) [.int .i64 q.1, .int .i64 q.2] rfl) (fun h => by cases h) (by intro u hu; simp at hu; rcases hu with rfl | rfl <;> rfl) (by unfold maxLen; omega) (by omega) hb2.size
  have hB2 : Below W.heap.size W w2 := hb2.grown gr2 hb2.size (fun j hj => (own1a.lt j hj).1)
  obtain ⟨av, c2, rfl, _⟩ := rd_own own2
  exact ⟨a1, c1, w1, av, c2, w2, hrun1, hrun2, by rw [List.flatMap_append]; exact (by simpa [a2] using own2 : w2.ownsRow W.heap.size 114 2 (.slice av (m + 1) c2) (m + 1) (xs.flatMap a2 ++ [q].flatMap a2)), hB1, hB2⟩
/-- The model behind new accounts. -/
theorem RB.accs (h : RB w z ob oc bb bc aa ak G m) {acc' : List (Int × Int)} {n c2 : Nat} {av : Option Addr} {w2 : World} (hn : acc'.length = n)
    (ho : w2.ownsRow w.heap.size 114 2 (.slice av n c2) n (acc'.flatMap a2)) (hb : Below w.heap.size w w2) :
    RB (w2.setCell ⟨z, 3, none⟩ (.slice av n c2)) z ob oc bb bc av c2 G { m with acc := acc' } ∧ Mod [z] w (w2.setCell ⟨z, 3, none⟩ (.slice av n c2)) ∧ Fr (z :: ob :: bb :: (sb av ++ G)) (z :: ob :: bb :: (sb aa ++ G)) w.heap.size := by
  subst hn
  obtain ⟨s1, s2, s3, s4⟩ := sown ho
  have hnd := h.nd
  have hlt := h.lts
  have hz := block_lt h.hp
  have hM : Mod [z] w (w2.setCell ⟨z, 3, none⟩ (.slice av acc'.length c2)) := (Mod.of_below hb [z]).setCell (.inl (by simp)) _
  have hMs : Mod [z] w2 (w2.setCell ⟨z, 3, none⟩ (.slice av acc'.length c2)) := (Mod.refl [z] w2).setCell (.inl (by simp)) _
  have hno : ∀ k, k ≠ z → k ∉ [z] := fun k hk => by simpa using hk
  have hnd1 := List.nodup_cons.1 hnd
  have h2 : ∀ k ∈ ob :: bb :: (sb aa ++ G), k ≠ z := fun k hk e => hnd1.1 (e ▸ hk)
  have hp := block_setCell (i := 3) ((hb.block z hz).trans h.hp) (.slice av acc'.length c2)
  refine ⟨⟨by simpa using hp, h.ho.mod hM (hno _ (h2 _ (by simp))), h.ock, h.hb.mod hM (hno _ (h2 _ (by simp))), h.bck, (Rd.own ho).mod hMs (fun q hq => hno _ ?_), s1, s2, s3, fun k hk => Nat.lt_of_lt_of_le (s4 k hk).2 hMs.size, h.hG, fun j g x h3 h4 => (h.hg j g x h3 h4).mod hM (hno _ (h2 _ (by simp [List.mem_of_getElem? h3]))), fun g hg => Nat.lt_of_lt_of_le (h.hl g hg) hM.size, ?_⟩, hM, fun k hk => ?_⟩
  · have := (s4 q.block (by subst hq; simp [sb])).1
    omega
  · have hs : ∀ k ∈ sb av, k ∉ z :: ob :: bb :: G := fun k hk hm => by
      have h5 := (s4 k hk).1
      have h6 := hlt k (by simp only [List.mem_cons, List.mem_append] at hm ⊢; rcases hm with h | h | h | h <;> simp [h])
      omega
    have hsn : (sb av).Nodup := by cases av <;> simp [sb]
    have hnd2 : (z :: ob :: bb :: G).Nodup := hnd.sublist (.cons_cons _ (.cons_cons _ (.cons_cons _ (List.sublist_append_right _ _))))
    simp only [List.nodup_cons, List.mem_cons, List.mem_append, not_or, List.nodup_append] at hnd2 hs ⊢
    refine ⟨⟨hnd2.1.1, hnd2.1.2.1, fun h7 => (hs z h7).1 rfl, hnd2.1.2.2⟩, ⟨hnd2.2.1.1, fun h7 => (hs ob h7).2.1 rfl, hnd2.2.1.2⟩, ⟨fun h7 => (hs bb h7).2.2.1 rfl, hnd2.2.2.1⟩, hsn, hnd2.2.2.2, fun a ha b hb e => (hs a ha).2.2.2 (e ▸ hb)⟩
  · simp only [List.mem_cons, List.mem_append] at hk ⊢
    rcases hk with h7 | h7 | h7 | h7 | h7
    · exact .inl (.inl h7)
    · exact .inl (.inr (.inl h7))
    · exact .inl (.inr (.inr (.inl h7)))
    · exact .inr (s4 k h7).1
    · exact .inl (.inr (.inr (.inr (.inr h7))))
end Po
end Go.Proofs.YtpjimmdpcpcmoaaDoor
