/- The document's ring: Add and Take. -/
import Derived.Test.YtjohljpcoodijaaDoorRingI
namespace Go.Proofs.YtjohljpcoodijaaDoor
open Go Go.RowKit Kt Rg
namespace Rf
/-- The document's ring at block z holds q; its numbers lie in no block of S. -/
structure Ref (S : List Nat) (W : World) (z room put taken : Nat) (q : List Int) : Prop where
  h : ∃ a cap, W.heap[z]? = some (.cells #[.int .i64 room, .int .i64 put, .int .i64 taken, .slice a q.length cap] 83 (0, 0)) ∧ Rd W a (i64s q) ∧ q.length ≤ cap ∧ cap ≤ maxLen ∧ (a = none → cap = 0) ∧ ∀ k, a = some k → k.block ∉ S
variable {S : List Nat} {W W' : World} {z room put taken : Nat} {q : List Int}
theorem Ref.mod (h : Ref S W z room put taken q) {S' : List Nat} (hM : Mod S' W W') (hS : ∀ k ∈ S', k ∈ S) (hz : z ∉ S') : Ref S W' z room put taken q := by
  obtain ⟨a, cap, h1, h2, h3, h4, h5, h6⟩ := h
  exact ⟨a, cap, by rw [hM.block z (block_lt h1) hz]; exact h1, h2.mod hM (fun p hp hm => h6 p hp (hS _ hm)), h3, h4, h5, h6⟩
theorem Ref.below (h : Ref S W z room put taken q) (hb : Below W.heap.size W W') : Ref S W' z room put taken q := h.mod (Mod.of_below hb []) (by simp) (by simp)

set_option maxHeartbeats 1000000 in
set_option maxRecDepth 100000 in
theorem add_ok (x : Int) (w : World) (h : Ref S w z room put taken q) (hq : q.length < room) (hr : room ≤ 32) (hp : put ≤ 1000000) (hS : ∀ k ∈ S, k < w.heap.size) :
    Calls Tryd.prog 50 #[.pointer (some ⟨z, 0, none⟩), .int .i64 x] w fun e w' => e = .returned (.bool true) ∧ Ref S w' z room (put + 1) taken (q ++ [x]) ∧ Mod [z] w w' := by
  obtain ⟨a, cap, h1, h2, h3, h4, h5, h6⟩ := h
  have k0 := cell_block h1 0
  have k3 := cell_block h1 3
  simp at k0 k3
  have hge : decide (room ≤ q.length) = false := by simp; omega
  have hzl := block_lt h1
  go_enter Tryd.func50, Tryd.ntmps50
  go_wp2
  go_quiet (fail)
  have hB := below_drewN (Below.refl w.heap.size w) nq
  have g1 : (w.drewN nq).heap[z]? = _ := h1
  have r1 := h2.keep hB
  generalize w.drewN nq = w1 at *
  clear k0 k3
  have k3 := cell_block (block_alloc (x := .cells #[] 3) g1) 3
  simp at k3
  have own0 := own_new w1 w1.heap.size 3 1 0 #[] (Nat.le_refl _) (by unfold maxLen; omega) rfl
  have b1 := (Below.refl w1.heap.size w1).alloc (Nat.le_refl _) (.cells #[] 3)
  obtain ⟨v2, w2, hrun2, own2, gr2, _⟩ := RgI.el.append w1.heap.size (ty := 32) own0 q.length cap (by simp [i64s]) (r1.keep b1) h5 (by intro u hu; simp [i64s] at hu; obtain ⟨y, _, rfl⟩ := hu; rfl) (by unfold maxLen; omega) (by omega) (by simp)
  have b2 : Below w1.heap.size w1 w2 := b1.grown gr2 (by simp) (fun j hj => by simp [Value.ownBlock] at hj; omega)
  simp only [Nat.zero_add, List.nil_append] at own2
  obtain ⟨a2, c2, rfl, y1, y2, y3, y4⟩ := rd_own own2
  have b3 := b2.alloc b2.size (.cells #[.int .i64 x] 3)
  have b3' := (Below.refl w2.heap.size w2).alloc (Nat.le_refl _) (.cells #[.int .i64 x] 3)
  obtain ⟨v4, w4, hrun4, own4, gr4, _⟩ := RgI.el.append w1.heap.size (ty := 32) (own_keep own2 b3') 1 1 rfl (Rd.new w2 #[.int .i64 x] 3 (0, 0) [.int .i64 x] rfl) (fun h => by cases h) (by intro u hu; simp at hu; subst hu; rfl) (by unfold maxLen; omega) (by omega) b3.size
  have b4 : Below w1.heap.size w1 w4 := b3.grown gr4 b3.size (fun j hj => ((own_keep own2 b3').lt j hj).1)
  obtain ⟨a4, c4, rfl, x1, x2, x3, x4⟩ := rd_own own4
  have g4 : w4.heap[z]? = _ := (b4.block z (block_lt g1)).trans g1
  have e1 := cell_block g4 1
  have e3 := cell_block g4 3
  have f1 := frozen_block g4 1
  have f3 := frozen_block g4 3
  simp at e1 e3
  go_wp2_with (first | (at_builtin; (with_reducible apply wpList_append_run hrun2); rfl; rfl; rfl; rfl; rfl) | (at_builtin; (with_reducible apply wpList_append_run hrun4); rfl; rfl; rfl; rfl; rfl))
  go_ret
  refine ⟨rfl, ⟨a4, c4, ?_, ?_, by simpa using x1, x2, ?_, ?_⟩, (((Mod.refl [z] w).below hB).below b4 |>.setCell (.inl (by simp)) _).setCell (.inl (by simp)) _⟩
  · rw [block_setCell (block_setCell g4 (.slice a4 (q.length + 1) c4)) (.int .i64 ((put : Int) + 1))]
    simp
  · have hM : Mod [z] w4 ((w4.setCell ⟨z, 3, none⟩ (.slice a4 (q.length + 1) c4)).setCell ⟨z, 1, none⟩ (.int .i64 ((put : Int) + 1))) := ((Mod.refl [z] w4).setCell (.inl (by simp)) _).setCell (.inl (by simp)) _
    have x3' : Rd w4 a4 (i64s (q ++ [x])) := by rw [i64s, List.map_append]; exact x3
    refine x3'.mod hM (fun p hp hm => ?_)
    have := (x4 p hp).1
    have := hB.size
    simp at hm
    omega
  · intro h
    subst h
    exact (own_none own4).1
  · intro k hk
    have := x4 k hk
    intro hm
    have := hS _ hm
    have := hB.size
    omega
theorem add_no (x : Int) (w : World) (h : Ref S w z room put taken q) (hq : q.length = room) :
    Calls Tryd.prog 50 #[.pointer (some ⟨z, 0, none⟩), .int .i64 x] w fun e w' => e = .returned (.bool false) ∧ ∃ n, w.drewN n = w' := by
  obtain ⟨a, cap, h1, h2, h3, h4, h5, h6⟩ := h
  have k0 := cell_block h1 0
  have k3 := cell_block h1 3
  simp at k0 k3
  have hge : decide (room ≤ q.length) = true := by simp; omega
  go_enter Tryd.func50, Tryd.ntmps50
  go_wp2
  go_quiet (fail)
  go_wp2
  go_ret
  exact ⟨rfl, _, rfl⟩

theorem add_block (b : Addr) (m : Nat) : (b.add m).block = b.block := by
  obtain ⟨b, off, spot⟩ := b
  unfold Addr.add
  split <;> rfl
theorem drop_rd {w : World} {a : Option Addr} {xs : List Value} (h : Rd w a xs) (n : Nat) : Rd w (a.map (fun x => x.add n)) (xs.drop n) := by
  intro i x hi
  have hi2 := hi
  rw [List.getElem?_drop] at hi2
  obtain ⟨b, off, rfl, _⟩ := h _ x hi2
  have := h.drop n i x hi
  have e : (⟨b, off, none⟩ : Addr).add n = ⟨b, off + n, none⟩ := by
    unfold Addr.add
    split
    · subst n; rfl
    · rfl
  rw [Option.map_some, e]
  exact this
theorem took {w : World} {a a' : Option Addr} {cap c' l' m : Nat} {T : Int} {tk' : Nat} (h1 : w.heap[z]? = some (.cells #[.int .i64 room, .int .i64 put, .int .i64 taken, .slice a q.length cap] 83 (0, 0))) (h2 : Rd w a (i64s q))
    (h6 : ∀ k, a = some k → k.block ∉ S) (hz : z ∈ S) (ha : a' = a ∨ a' = a.map (fun x => x.add m)) (hr : Rd w a' (i64s (q.drop m))) (hl : l' = (q.drop m).length) (hT : T = (tk' : Nat)) (hc : l' ≤ c') (hm : c' ≤ maxLen) (hn : a' = none → c' = 0) :
    Rd ((w.setCell ⟨z, 3, none⟩ (.slice a' l' c')).setCell ⟨z, 2, none⟩ (.int .i64 T)) a (i64s (q.take m)) ∧ Ref S ((w.setCell ⟨z, 3, none⟩ (.slice a' l' c')).setCell ⟨z, 2, none⟩ (.int .i64 T)) z room put tk' (q.drop m) ∧
      Mod [z] w ((w.setCell ⟨z, 3, none⟩ (.slice a' l' c')).setCell ⟨z, 2, none⟩ (.int .i64 T)) := by
  subst hl hT
  have hM : Mod [z] w ((w.setCell ⟨z, 3, none⟩ (.slice a' (q.drop m).length c')).setCell ⟨z, 2, none⟩ (.int .i64 tk')) := ((Mod.refl [z] w).setCell (.inl (by simp)) _).setCell (.inl (by simp)) _
  have hb : ∀ k, a' = some k → k.block ∉ S := by
    rcases ha with rfl | rfl
    · exact h6
    · intro k hk
      cases a with
      | none => cases hk
      | some b => simp at hk; subst hk; rw [add_block]; exact h6 b rfl
  refine ⟨?_, ⟨a', c', ?_, ?_, hc, hm, hn, hb⟩, hM⟩
  · have ht : Rd w a (i64s (q.take m)) := by
      have := h2.take m
      simpa [i64s, List.map_take] using this
    exact ht.mod hM (fun p hp h => h6 p hp (by simp at h; rw [h]; exact hz))
  · rw [block_setCell (block_setCell h1 (.slice a' (q.drop m).length c')) (.int .i64 tk')]
    simp
  · exact hr.mod hM (fun p hp h => hb p hp (by simp at h; rw [h]; exact hz))

set_option maxHeartbeats 1000000 in
set_option maxRecDepth 100000 in
theorem take_c (most : Int) (tl : Nat) (w : World) (htl : (q.take most.toNat).length = tl) (h : Ref S w z room put taken q) (hz : z ∈ S) (hr : q.length ≤ 32) (hp : taken ≤ 1000000) :
    Calls Tryd.prog 52 #[.pointer (some ⟨z, 0, none⟩), .int .i64 most] w fun e w' => ∃ a c, e = .returned (.slice a tl c) ∧ Rd w' a (i64s (q.take most.toNat)) ∧ Ref S w' z room put (taken + tl) (q.drop most.toNat) ∧ Mod [z] w w' := by
  obtain ⟨a, cap, h1, h2, h3, h4, h5, h6⟩ := h
  have e2 := cell_block h1 2
  have e3 := cell_block h1 3
  have f2 := frozen_block h1 2
  have f3 := frozen_block h1 3
  simp at e2 e3
  rw [List.length_take] at htl
  by_cases hm : most < (q.length : Int)
  · by_cases hn : most < 0
    · have : tl = 0 := by omega
      subst this
      have hm0 : most.toNat = 0 := by omega
      rw [hm0]
      have F := took (a' := a) (c' := cap) (l' := q.length) (m := 0) (T := taken) (tk' := taken + 0) h1 h2 h6 hz (.inl rfl) (by simpa using h2) (by simp) (by simp) h3 h4 h5
      have HF := Lib.hid F
      clear F
      go_enter Tryd.func52, Tryd.ntmps52
      go_wp2
      go_ret
      first | exact ⟨_, ⟨_, rfl⟩, HF.out⟩ | exact ⟨_, _, rfl, HF.out⟩
    · obtain ⟨m, rfl⟩ : ∃ m : Nat, most = m := ⟨most.toNat, by omega⟩
      have : tl = m := by omega
      subst this
      have F := took (a' := a.map (fun x => x.add tl)) (c' := cap - tl) (l' := q.length - tl) (m := tl) (T := (taken : Int) + tl) (tk' := taken + tl) h1 h2 h6 hz (.inr rfl) (by simpa [i64s, List.map_drop] using drop_rd h2 tl) (by simp) (by simp) (by omega) (by omega) (by
        intro h
        cases a with
        | none => have := h5 rfl; omega
        | some b => cases h)
      have HF := Lib.hid F
      clear F
      go_enter Tryd.func52, Tryd.ntmps52
      go_wp2
      go_ret
      first | exact ⟨_, ⟨_, rfl⟩, HF.out⟩ | exact ⟨_, _, rfl, HF.out⟩
  · have : tl = q.length := by omega
    subst this
    have F1 : cap = q.length → _ := fun hc => took (a' := a) (c' := 0) (l' := 0) (m := most.toNat) (T := (taken : Int) + q.length) (tk' := taken + q.length) h1 h2 h6 hz (.inl rfl) (by rw [List.drop_of_length_le (by omega)]; exact Rd.nil _ _) (by simp; omega) (by simp) (by omega) (by omega) (fun _ => rfl)
    have F2 := took (a' := a.map (fun x => x.add q.length)) (c' := cap - q.length) (l' := 0) (m := q.length) (T := (taken : Int) + q.length) (tk' := taken + q.length) h1 h2 h6 hz (.inr rfl) (by rw [List.drop_of_length_le (by omega)]; exact Rd.nil _ _) (by simp) (by simp) (by omega) (by omega) (by
        intro h
        cases a with
        | none => have := h5 rfl; omega
        | some b => cases h)
    have hd : q.drop most.toNat = [] ∧ q.take most.toNat = q := ⟨List.drop_of_length_le (by omega), List.take_of_length_le (by omega)⟩
    have hd2 : q.drop q.length = [] ∧ q.take q.length = q := ⟨List.drop_of_length_le (Nat.le_refl _), List.take_of_length_le (Nat.le_refl _)⟩
    rw [hd.1, hd.2] at F1 ⊢
    rw [hd2.1, hd2.2] at F2
    clear hd2
    have HF1 := Lib.hid F1
    have HF2 := Lib.hid F2
    clear F1 F2 hd
    go_enter Tryd.func52, Tryd.ntmps52
    go_wp2
    · go_ret
      exact ⟨_, ⟨_, rfl⟩, HF1.out (by omega)⟩
    · go_ret
      exact ⟨_, ⟨_, rfl⟩, HF2.out⟩
end Rf
end Go.Proofs.YtjohljpcoodijaaDoor
