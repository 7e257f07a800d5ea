/- Two rings beside one another: one of numbers, one of slices of numbers. -/
import Derived.Test.YtjohljpcoodijaaDoorRingI
import Derived.Test.YtjohljpcoodijaaDoorRingL
namespace Go.Proofs.YtjohljpcoodijaaDoor
open Go Go.RowKit Kt Rg
namespace RgT

/-- A slice of two numbers of which the first one is v, in a block of its own that is none of S. -/
def Pr (W : World) (S : List Nat) (x : Option Addr × Nat × Nat) (v : Int) : Prop := ∃ b, x = (some ⟨b, 0, none⟩, 2, 2) ∧ W.cell? ⟨b, 0, none⟩ = some (.int .i64 v) ∧ b ∉ S
theorem Pr.mod {W W' : World} {S : List Nat} {x v} (h : Pr W S x v) (hM : Mod S W W') : Pr W' S x v := by
  obtain ⟨b, h1, h2, h3⟩ := h
  exact ⟨b, h1, by rw [hM.cell (p := ⟨b, 0, none⟩) (lt_of_cell (p := ⟨b, 0, none⟩) h2) h3]; exact h2, h3⟩
def Prs (W : World) (S : List Nat) (l : List (Option Addr × Nat × Nat)) (q : List Int) : Prop := l.length = q.length ∧ ∀ (j : Nat) x v, l[j]? = some x → q[j]? = some v → Pr W S x v
theorem Prs.mod {W W' : World} {S : List Nat} {l q} (h : Prs W S l q) (hM : Mod S W W') : Prs W' S l q := ⟨h.1, fun j x v h1 h2 => (h.2 j x v h1 h2).mod hM⟩
theorem Prs.nil (W : World) (S : List Nat) : Prs W S [] [] := ⟨rfl, fun j x v h => by simp at h⟩
theorem Prs.snoc {W : World} {S : List Nat} {l q x v} (h : Prs W S l q) (hx : Pr W S x v) : Prs W S (l ++ [x]) (q ++ [v]) := by
  refine ⟨by simp [h.1], fun j y u h1 h2 => ?_⟩
  by_cases hj : j < l.length
  · rw [List.getElem?_append_left hj] at h1
    rw [List.getElem?_append_left (by rw [← h.1]; exact hj)] at h2
    exact h.2 j y u h1 h2
  · rw [List.getElem?_append_right (by omega)] at h1
    rw [List.getElem?_append_right (by rw [← h.1]; omega)] at h2
    have e : j - q.length = j - l.length := by rw [h.1]
    rw [e] at h2
    cases hk : j - l.length with
    | zero => rw [hk] at h1 h2; simp at h1 h2; subst h1 h2; exact hx
    | succ n => rw [hk] at h1; simp at h1
theorem Prs.drop {W : World} {S : List Nat} {l q} (h : Prs W S l q) (m : Nat) : Prs W S (l.drop m) (q.drop m) := by
  refine ⟨by simp [h.1], fun j x v h1 h2 => ?_⟩
  rw [List.getElem?_drop] at h1 h2
  exact h.2 _ _ _ h1 h2
theorem Prs.take {W : World} {S : List Nat} {l q} (h : Prs W S l q) (m : Nat) : Prs W S (l.take m) (q.take m) := by
  refine ⟨by simp [h.1], fun j x v h1 h2 => ?_⟩
  rw [List.getElem?_take] at h1 h2
  split at h1
  · rw [if_pos ‹_›] at h2; exact h.2 _ _ _ h1 h2
  · cases h1
theorem Pr.new (W : World) (S : List Nat) (c : Array Value) (T : TypeId) (v : Int) (h : c[0]? = some (.int .i64 v)) (hS : ∀ k ∈ S, k < W.heap.size) (b : Nat) (hb : W.heap.size = b) : Pr (W.alloc (.cells c T)) S (some ⟨b, 0, none⟩, 2, 2) v := by
  subst hb
  exact ⟨_, rfl, by rw [cell_block (heap_alloc_new W _)]; exact h, fun hm => Nat.lt_irrefl _ (hS _ hm)⟩

/-- Two rings in W; all that they hold is new since w. -/
structure St (w W : World) (p g p2 g2 room f f2 : Nat) (q qp : List Int) (qb : List (Option Addr × Nat × Nat)) (na nb ta tb : Nat) : Prop where
  a : RgI.Is W p g room f q na ta
  b : RgL.Is W p2 g2 room f2 qb nb tb
  pr : Prs W [p, g, p2, g2] qb qp
  B : Below w.heap.size w W
  n1 : p ≠ p2
  n2 : p ≠ g2
  n3 : g ≠ p2
  n4 : g ≠ g2
  l1 : w.heap.size ≤ p
  l2 : w.heap.size ≤ g
  l3 : w.heap.size ≤ p2
  l4 : w.heap.size ≤ g2

variable {w W W' : World} {p g p2 g2 room f f2 : Nat} {q qp : List Int} {qb : List (Option Addr × Nat × Nat)} {na nb ta tb : Nat}
theorem St.lts (h : St w W p g p2 g2 room f f2 q qp qb na nb ta tb) : ∀ k ∈ [p, g, p2, g2], k < W.heap.size := by
  intro k hk
  have := h.a.plt; have := h.a.glt; have := h.b.plt; have := h.b.glt
  simp at hk
  rcases hk with rfl | rfl | rfl | rfl <;> assumption
theorem St.below (h : St w W p g p2 g2 room f f2 q qp qb na nb ta tb) (hb : Below W.heap.size W W') : St w W' p g p2 g2 room f f2 q qp qb na nb ta tb :=
  ⟨h.a.below hb, h.b.below hb, h.pr.mod (Mod.of_below hb _), h.B.trans (hb.mono h.B.size), h.n1, h.n2, h.n3, h.n4, h.l1, h.l2, h.l3, h.l4⟩
theorem St.drew (h : St w W p g p2 g2 room f f2 q qp qb na nb ta tb) : St w W.drew p g p2 g2 room f f2 q qp qb na nb ta tb := h.below (Below.refl _ _).drew
theorem St.drewN (h : St w W p g p2 g2 room f f2 q qp qb na nb ta tb) (n : Nat) : St w (W.drewN n) p g p2 g2 room f f2 q qp qb na nb ta tb := h.below (below_drewN (Below.refl _ _) n)
theorem St.alloc (h : St w W p g p2 g2 room f f2 q qp qb na nb ta tb) (o : Obj) : St w (W.alloc o) p g p2 g2 room f f2 q qp qb na nb ta tb := h.below ((Below.refl _ _).alloc (Nat.le_refl _) o)
theorem St.stepA (h : St w W p g p2 g2 room f f2 q qp qb na nb ta tb) {f' : Nat} {q' : List Int} {na' ta' : Nat} (ha : RgI.Is W' p g room f' q' na' ta') (hM : Mod [p, g] W W') : St w W' p g p2 g2 room f' f2 q' qp qb na' nb ta' tb ∧ Mod [p, g, p2, g2] W W' := by
  have hM4 : Mod [p, g, p2, g2] W W' := hM.sub (by intro k hk; simp at hk ⊢; omega)
  refine ⟨⟨ha, h.b.mod hM ?_ ?_, h.pr.mod hM4, h.B.trans (hM.toBelow h.B.size ?_), h.n1, h.n2, h.n3, h.n4, h.l1, h.l2, h.l3, h.l4⟩, hM4⟩
  · simp; exact ⟨fun e => h.n1 e.symm, fun e => h.n3 e.symm⟩
  · simp; exact ⟨fun e => h.n2 e.symm, fun e => h.n4 e.symm⟩
  · intro k hk; simp at hk; have := h.l1; have := h.l2; omega
theorem St.stepB (h : St w W p g p2 g2 room f f2 q qp qb na nb ta tb) {f' : Nat} {qb' : List (Option Addr × Nat × Nat)} {qp' : List Int} {nb' tb' : Nat} (hb : RgL.Is W' p2 g2 room f' qb' nb' tb') (hM : Mod [p2, g2] W W')
    (hp : Prs W [p, g, p2, g2] qb' qp') : St w W' p g p2 g2 room f f' q qp' qb' na nb' ta tb' ∧ Mod [p, g, p2, g2] W W' := by
  have hM4 : Mod [p, g, p2, g2] W W' := hM.sub (by intro k hk; simp at hk ⊢; omega)
  refine ⟨⟨h.a.mod hM ?_ ?_, hb, hp.mod hM4, h.B.trans (hM.toBelow h.B.size ?_), h.n1, h.n2, h.n3, h.n4, h.l1, h.l2, h.l3, h.l4⟩, hM4⟩
  · simp; exact ⟨h.n1, h.n2⟩
  · simp; exact ⟨h.n3, h.n4⟩
  · intro k hk; simp at hk; have := h.l3; have := h.l4; omega

theorem putA (x : Int) (hS : St w W p g p2 g2 room f f2 q qp qb na nb ta tb) (hq : q.length < room) (hn : na ≤ 1000000) :
    Calls Tryd.prog 35 #[.pointer (some ⟨p, 0, none⟩), .int .i64 x] W fun e W' => e = .returned .nilIface ∧ St w W' p g p2 g2 room f f2 (q ++ [x]) qp qb (na + 1) nb ta tb ∧ Mod [p, g, p2, g2] W W' :=
  (RgI.put_ok x W p g room f q na ta hS.a hq hn).mono fun _ _ ⟨h1, h2, h3⟩ => ⟨h1, hS.stepA h2 h3⟩
theorem putB (x : Option Addr × Nat × Nat) (v : Int) (hS : St w W p g p2 g2 room f f2 q qp qb na nb ta tb) (hx : Pr W [p, g, p2, g2] x v) (hq : qb.length < room) (hn : nb ≤ 1000000) :
    Calls Tryd.prog 36 #[.pointer (some ⟨p2, 0, none⟩), .slice x.1 x.2.1 x.2.2] W fun e W' => e = .returned .nilIface ∧ St w W' p g p2 g2 room f f2 q (qp ++ [v]) (qb ++ [x]) na (nb + 1) ta tb ∧ Mod [p, g, p2, g2] W W' :=
  (RgL.put_ok x W p2 g2 room f2 qb nb tb hS.b hq hn).mono fun _ _ ⟨h1, h2, h3⟩ => ⟨h1, hS.stepB h2 h3 (hS.pr.snoc hx)⟩
theorem fullA {A : Nat → Addr} (hs : Sent 152 w A Er.egs) (v : Value) (hS : St w W p g p2 g2 room f f2 q qp qb na nb ta tb) (hq : q.length = room) :
    Calls Tryd.prog 35 #[.pointer (some ⟨p, 0, none⟩), v] W fun e W' => e = .returned (Er.ev A 4) ∧ St w W' p g p2 g2 room f f2 q qp qb na nb ta tb ∧ Mod [p, g, p2, g2] W W' :=
  (RgI.put_full A v W p g room f q na ta hS.a hq ((hs.keep hS.B).sub (by decide))).mono fun _ _ ⟨h1, n, h2⟩ => by subst h2; exact ⟨h1, hS.drewN n, (Mod.refl _ _).drewN n⟩
theorem fullB {A : Nat → Addr} (hs : Sent 152 w A Er.egs) (v : Value) (hS : St w W p g p2 g2 room f f2 q qp qb na nb ta tb) (hq : qb.length = room) :
    Calls Tryd.prog 36 #[.pointer (some ⟨p2, 0, none⟩), v] W fun e W' => e = .returned (Er.ev A 4) ∧ St w W' p g p2 g2 room f f2 q qp qb na nb ta tb ∧ Mod [p, g, p2, g2] W W' :=
  (RgL.put_full A v W p2 g2 room f2 qb nb tb hS.b hq ((hs.keep hS.B).sub (by decide))).mono fun _ _ ⟨h1, n, h2⟩ => by subst h2; exact ⟨h1, hS.drewN n, (Mod.refl _ _).drewN n⟩
theorem numF {A : Nat → Addr} (hs : Sent 152 w A Er.egs) (hS : St w W p g p2 g2 room f f2 q qp qb na nb ta tb) :
    Calls Tryd.prog 34 #[Er.ev A 4] W fun e W' => e = .returned (.int .i64 13) ∧ St w W' p g p2 g2 room f f2 q qp qb na nb ta tb ∧ Mod [p, g, p2, g2] W W' :=
  (Er.num_at A 4 13 12 (by omega) rfl rfl _ (hs.keep hS.B)).mono fun _ _ ⟨h1, hb⟩ => ⟨h1, hS.below hb, Mod.of_below hb _⟩
theorem takeA (most : Int) (tl : Nat) (htl : (q.take most.toNat).length = tl) (hS : St w W p g p2 g2 room f f2 q qp qb na nb ta tb) (hn : ta + q.length ≤ 1000000) :
    Calls Tryd.prog 37 #[.pointer (some ⟨p, 0, none⟩), .int .i64 most] W fun e W' => ∃ a c f', e = .returned (.slice a tl c) ∧ Rd W' a (i64s (q.take most.toNat)) ∧ (∀ k, a = some k → k.block ∉ [p, g, p2, g2]) ∧
      St w W' p g p2 g2 room f' f2 (q.drop most.toNat) qp qb na nb (ta + tl) tb ∧ Mod [p, g, p2, g2] W W' :=
  (RgI.take_c most W p g room f q na ta hS.a hn).mono fun _ _ ⟨v, f', h1, own, h2, h3⟩ => by
    rw [htl] at own h2
    obtain ⟨a, c, rfl, _, _, r, hf⟩ := rd_own own
    obtain ⟨s1, s2⟩ := hS.stepA h2 h3
    refine ⟨a, c, f', h1, r, ?_, s1, s2⟩
    intro k hk hm
    subst hk
    have := (own.lt k.block rfl).1
    have := hS.lts _ hm
    omega
theorem takeB (most : Int) (tl : Nat) (htl : (qb.take most.toNat).length = tl) (hS : St w W p g p2 g2 room f f2 q qp qb na nb ta tb) (hn : tb + qb.length ≤ 1000000) :
    Calls Tryd.prog 38 #[.pointer (some ⟨p2, 0, none⟩), .int .i64 most] W fun e W' => ∃ a c f', e = .returned (.slice a tl c) ∧ Rd W' a ((qb.take most.toNat).map RgL.fv) ∧
      St w W' p g p2 g2 room f f' q (qp.drop most.toNat) (qb.drop most.toNat) na nb ta (tb + tl) ∧ Mod [p, g, p2, g2] W W' ∧ Prs W' [p, g, p2, g2] (qb.take most.toNat) (qp.take most.toNat) :=
  (RgL.take_c most W p2 g2 room f2 qb nb tb hS.b hn).mono fun _ _ ⟨v, f', h1, own, h2, h3⟩ => by
    rw [htl] at own h2
    obtain ⟨a, c, rfl, _, _, r, _⟩ := rd_own own
    obtain ⟨s1, s2⟩ := hS.stepB h2 h3 (hS.pr.drop most.toNat)
    exact ⟨a, c, f', h1, r, s1, s2, (hS.pr.take most.toNat).mod s2⟩
end RgT
end Go.Proofs.YtjohljpcoodijaaDoor
