/- Package comb: Lay's memory while the rows are looked through. -/
import Derived.Test.YteekonojmpihlaaDoorQCbMapS
import Derived.Test.YteekonojmpihlaaDoorQCbPut3
namespace Go.Proofs.YteekonojmpihlaaDoor
namespace Kt
end Kt
open Go Go.RowKit Kt
namespace Cb
def nilR : IRow := ⟨none, 0, []⟩
def svr (r : IRow) : SV := ⟨r.a.map (·.block), r.l.length, r.cap⟩
/-- What the map answers. -/
def fL (L : List IRow) (x : Int) : SV := if 0 ≤ x then svr (L.getD x.toNat nilR) else ⟨none, 0, 0⟩
theorem fL_nil : fL [] = fun _ => ⟨none, 0, 0⟩ := by
  funext x
  unfold fL
  split <;> rfl
theorem fL_snoc (L : List IRow) (r : IRow) : (fun y => if y = (L.length : Int) then svr r else fL L y) = fL (L ++ [r]) := by
  funext y
  unfold fL
  by_cases h0 : 0 ≤ y
  · simp only [h0, if_true]
    by_cases h1 : y = (L.length : Int)
    · rw [if_pos h1, h1]
      simp [List.getD_eq_getElem?_getD]
    · rw [if_neg h1]
      congr 1
      rw [List.getD_eq_getElem?_getD, List.getD_eq_getElem?_getD]
      by_cases h2 : y.toNat < L.length
      · rw [List.getElem?_append_left h2]
      · rw [List.getElem?_eq_none (by omega), List.getElem?_eq_none (by simp; omega)]
  · have h1 : ¬ y = (L.length : Int) := by omega
    simp only [h0, if_false, h1]
theorem sv_svr {r : IRow} (h : ∀ p, r.a = some p → p.off = 0 ∧ p.spot = none) : sv (svr r) = r.v := by
  obtain ⟨a, c, l⟩ := r
  cases a with
  | none => rfl
  | some p =>
    obtain ⟨h1, h2⟩ := h p rfl
    obtain ⟨b, o, s⟩ := p
    simp only at h1 h2
    subst h1 h2
    rfl
structure Lx (wZ : World) (C B Mb Mp n : Nat) (wd : Int) (rows : List (List Int)) (k2 km k5 : Nat) (a2 : Option Addr) (c2 : Nat) (a5 : Option Addr) (c5 : Nat) (L : List IRow) (V : World) : Prop where
  box : V.heap[C]? = some (.cells #[.int .i64 wd, .slice (some ⟨B, 0, none⟩) n n, .slice a2 k2 c2, .slice none 0 0, .slice none 0 0] 71 (0, 0))
  row : Rx V B 3 n (i64s (List.replicate n 0))
  mbox : V.heap[Mb]? = some (.cells #[.map (some Mp)] 123 (0, 0))
  mp : MapS V Mp km (fL L)
  own2 : V.ownsRow wZ.heap.size 3 1 (.slice a2 k2 c2) k2 (i64s ((rows.take k2).map cmn))
  own5 : V.ownsRow wZ.heap.size 3 1 (.slice a5 k5 c5) k5 (i64s (ints (List.range k5)))
  many : L.length = km
  ls : L.map (·.l) = (rows.take km).map fun r => ints (ownL r)
  ok : ∀ r ∈ L, r.ok V
  loc : ∀ r ∈ L, ∀ p, r.a = some p → p.off = 0 ∧ p.spot = none ∧ wZ.heap.size ≤ p.block ∧ p.block < V.heap.size ∧ p.block ∉ bk a2 ∧ p.block ∉ bk a5
  ap : ∀ x, x ∈ bk a2 → x ∉ bk a5
  mod : Mod [C, Mp] wZ V
  lt : C < wZ.heap.size ∧ B < wZ.heap.size ∧ Mb < wZ.heap.size ∧ Mp < wZ.heap.size
  ne : B ≠ C ∧ Mb ≠ C ∧ Mp ≠ C ∧ B ≠ Mp ∧ Mb ≠ Mp
variable {wZ V V' : World} {C B Mb Mp n k2 km k5 c2 c5 : Nat} {wd : Int} {rows : List (List Int)} {a2 a5 : Option Addr} {L : List IRow}
theorem Lx.b2 (h : Lx wZ C B Mb Mp n wd rows k2 km k5 a2 c2 a5 c5 L V) : ∀ x ∈ bk a2, wZ.heap.size ≤ x ∧ x < V.heap.size := fun x hx => h.own2.lt x (by rw [(mem_bk h.own2).1 hx]; rfl)
theorem Lx.b5 (h : Lx wZ C B Mb Mp n wd rows k2 km k5 a2 c2 a5 c5 L V) : ∀ x ∈ bk a5, wZ.heap.size ≤ x ∧ x < V.heap.size := fun x hx => h.own5.lt x (by rw [(mem_bk h.own5).1 hx]; rfl)
theorem Lx.below (h : Lx wZ C B Mb Mp n wd rows k2 km k5 a2 c2 a5 c5 L V) (hb : Below V.heap.size V V') : Lx wZ C B Mb Mp n wd rows k2 km k5 a2 c2 a5 c5 L V' :=
  ⟨(hb.block _ (block_lt h.box)).trans h.box, h.row.below hb, (hb.block _ (block_lt h.mbox)).trans h.mbox, h.mp.below hb, own_keep h.own2 hb, own_keep h.own5 hb, h.many, h.ls, fun r hr => (h.ok r hr).keep hb, fun r hr p hp => by
    obtain ⟨e1, e2, e3, e4, e5⟩ := h.loc r hr p hp
    exact ⟨e1, e2, e3, Nat.lt_of_lt_of_le e4 hb.size, e5⟩, h.ap, h.mod.below hb, h.lt, h.ne⟩
theorem irow_mod {S : List Nat} {r : IRow} (h : r.ok V) (hM : Mod S V V') (hn : ∀ p, r.a = some p → p.block ∉ S) : r.ok V' := ⟨h.cap, h.max, h.nil, h.rd.mod hM hn⟩
/-- One more default. -/
theorem Lx.push2 {g c' : Nat} (h : Lx wZ C B Mb Mp n wd rows k2 km k5 a2 c2 a5 c5 L V) (hk : k2 < rows.length) (hM : Mod (bk a2) V V') (o : V'.ownsRow wZ.heap.size 3 1 (.slice (some ⟨g, 0, none⟩) (k2 + 1) c') (k2 + 1) (i64s ((rows.take k2).map cmn ++ [cmn rows[k2]]))) (hg : a2 = some ⟨g, 0, none⟩ ∨ V.heap.size ≤ g) :
    Lx wZ C B Mb Mp n wd rows (k2 + 1) km k5 (some ⟨g, 0, none⟩) c' a5 c5 L (V'.setCell ⟨C, 2, none⟩ (.slice (some ⟨g, 0, none⟩) (k2 + 1) c')) := by
  have hM2 : Mod [C] V' (V'.setCell ⟨C, 2, none⟩ (.slice (some ⟨g, 0, none⟩) (k2 + 1) c')) := (Mod.refl [C] V').setCell (.inl (by simp)) _
  obtain ⟨l1, l2, l3, l4⟩ := h.lt
  obtain ⟨n1, n2, n3, n4, n5⟩ := h.ne
  have hs := h.mod.size
  have nb : ∀ x, x < wZ.heap.size → x ∉ bk a2 := fun x hx hm => by have := h.b2 x hm; omega
  have hbx := (hM.block C (block_lt h.box) (nb C l1)).trans h.box
  have hgz : wZ.heap.size ≤ g := (o.lt g rfl).1
  have h25 : ∀ x, x ∈ bk a5 → x ∉ bk a2 := fun x h1 h2 => h.ap x h2 h1
  have hb5 := h.b5
  refine ⟨?_, (h.row.mod hM (nb B l2)).mod hM2 (by simpa using n1), (hM2.block _ (Nat.lt_of_lt_of_le (block_lt h.mbox) hM.size) (by simpa using n2)).trans ((hM.block _ (block_lt h.mbox) (nb Mb l3)).trans h.mbox), (h.mp.mod hM (nb Mp l4)).mod hM2 (by simpa using n3), ?_, ?_, h.many, h.ls, fun r hr => ?_, fun r hr p hp => ?_, fun x hx => ?_, (h.mod.trans hM (fun x hx => .inr (h.b2 x hx).1)).trans hM2 (fun x hx => .inl (by simp at hx; simp [hx])), h.lt, h.ne⟩
  · rw [block_setCell hbx]
    rfl
  · have e : (rows.take (k2 + 1)).map cmn = (rows.take k2).map cmn ++ [cmn rows[k2]] := by
      rw [← List.take_append_getElem hk, List.map_append]
      rfl
    rw [e]
    exact own_mod o hM2 (fun k hk hm => by
      have e2 : g = k := by simpa [Value.ownBlock] using hk
      simp at hm
      omega)
  · exact own_mod (own_mod h.own5 hM (fun k hk => h25 k ((mem_bk h.own5).2 ((ownB h.own5).1 hk)))) hM2 (fun k hk hm => by
      have := hb5 k ((mem_bk h.own5).2 ((ownB h.own5).1 hk))
      simp at hm
      omega)
  · refine irow_mod (irow_mod (h.ok r hr) hM (fun p hp => (h.loc r hr p hp).2.2.2.2.1)) hM2 (fun p hp hm => ?_)
    have := (h.loc r hr p hp).2.2.1
    simp at hm
    omega
  · obtain ⟨e1, e2, e3, e4, e5, e6⟩ := h.loc r hr p hp
    refine ⟨e1, e2, e3, Nat.lt_of_lt_of_le e4 (Nat.le_trans hM.size hM2.size), fun hm => ?_, e6⟩
    have e7 : p.block = g := by simpa [bk] using hm
    rcases hg with h1 | h1
    · exact e5 (by rw [h1]; simp [bk, e7])
    · omega
  · have e7 : x = g := by simpa [bk] using hx
    subst e7
    rcases hg with h1 | h1
    · exact h.ap x (by rw [h1]; simp [bk])
    · intro hm
      have := (h.b5 x hm).2
      omega
/-- One more number of the order. -/
theorem Lx.push5 {g c' : Nat} (h : Lx wZ C B Mb Mp n wd rows k2 km k5 a2 c2 a5 c5 L V) (hM : Mod (bk a5) V V') (o : V'.ownsRow wZ.heap.size 3 1 (.slice (some ⟨g, 0, none⟩) (k5 + 1) c') (k5 + 1) (i64s (ints (List.range k5) ++ [(k5 : Int)]))) (hg : a5 = some ⟨g, 0, none⟩ ∨ V.heap.size ≤ g) :
    Lx wZ C B Mb Mp n wd rows k2 km (k5 + 1) a2 c2 (some ⟨g, 0, none⟩) c' L V' := by
  obtain ⟨l1, l2, l3, l4⟩ := h.lt
  have nb : ∀ x, x < wZ.heap.size → x ∉ bk a5 := fun x hx hm => by have := h.b5 x hm; omega
  refine ⟨(hM.block C (block_lt h.box) (nb C l1)).trans h.box, h.row.mod hM (nb B l2), (hM.block _ (block_lt h.mbox) (nb Mb l3)).trans h.mbox, h.mp.mod hM (nb Mp l4), own_mod h.own2 hM (fun k hk => h.ap k ((mem_bk h.own2).2 ((ownB h.own2).1 hk))), ?_, h.many, h.ls, fun r hr => irow_mod (h.ok r hr) hM (fun p hp => (h.loc r hr p hp).2.2.2.2.2), fun r hr p hp => ?_, fun x hx hm => ?_, h.mod.trans hM (fun x hx => .inr (h.b5 x hx).1), h.lt, h.ne⟩
  · have e : ints (List.range (k5 + 1)) = ints (List.range k5) ++ [(k5 : Int)] := by
      unfold ints
      rw [List.range_succ, List.map_append]
      rfl
    rw [e]
    exact o
  · obtain ⟨e1, e2, e3, e4, e5, e6⟩ := h.loc r hr p hp
    refine ⟨e1, e2, e3, Nat.lt_of_lt_of_le e4 hM.size, e5, fun hm => ?_⟩
    have e7 : p.block = g := by simpa [bk] using hm
    rcases hg with h1 | h1
    · exact e6 (by rw [h1]; simp [bk, e7])
    · omega
  · have e7 : x = g := by simpa [bk] using hm
    subst e7
    rcases hg with h1 | h1
    · exact h.ap x hx (by rw [h1]; simp [bk])
    · have := (h.b2 x hx).2
      omega
/-- One more row's own places. -/
theorem Lx.pushM {r : IRow} (h : Lx wZ C B Mb Mp n wd rows k2 km k5 a2 c2 a5 c5 L V) (hk : km < rows.length) (hr : r.ok V) (hl : r.l = ints (ownL rows[km])) (hp : ∀ p, r.a = some p → p.off = 0 ∧ p.spot = none ∧ wZ.heap.size ≤ p.block ∧ p.block < V.heap.size ∧ p.block ∉ bk a2 ∧ p.block ∉ bk a5) (hm : MapS V' Mp (km + 1) (fun y => if y = (km : Int) then svr r else fL L y)) (hM : Mod [Mp] V V') :
    Lx wZ C B Mb Mp n wd rows k2 (km + 1) k5 a2 c2 a5 c5 (L ++ [r]) V' := by
  obtain ⟨l1, l2, l3, l4⟩ := h.lt
  obtain ⟨n1, n2, n3, n4, n5⟩ := h.ne
  have hloc : ∀ q ∈ L ++ [r], ∀ p, q.a = some p → p.off = 0 ∧ p.spot = none ∧ wZ.heap.size ≤ p.block ∧ p.block < V.heap.size ∧ p.block ∉ bk a2 ∧ p.block ∉ bk a5 := fun q hq => by
    rcases List.mem_append.1 hq with h1 | h1
    · exact h.loc q h1
    · simp only [List.mem_singleton] at h1
      subst h1
      exact hp
  refine ⟨(hM.block C (block_lt h.box) (by simp; omega)).trans h.box, h.row.mod hM (by simpa using n4), (hM.block _ (block_lt h.mbox) (by simpa using n5)).trans h.mbox, ?_, own_mod h.own2 hM (fun k hk hx => ?_), own_mod h.own5 hM (fun k hk hx => ?_), by rw [List.length_append, h.many]; rfl, ?_, fun q hq => ?_, fun q hq p hp => ?_, h.ap, h.mod.trans hM (fun x hx => .inl (by simp at hx; simp [hx])), h.lt, h.ne⟩
  · have e := fL_snoc L r
    rw [h.many] at e
    rw [← e]
    exact hm
  · have := (h.b2 k ((mem_bk h.own2).2 ((ownB h.own2).1 hk))).1
    simp at hx
    omega
  · have := (h.b5 k ((mem_bk h.own5).2 ((ownB h.own5).1 hk))).1
    simp at hx
    omega
  · rw [List.map_append, h.ls, ← List.take_append_getElem hk, List.map_append]
    simp [hl]
  · have hq2 : q.ok V := by
      rcases List.mem_append.1 hq with h1 | h1
      · exact h.ok q h1
      · simp only [List.mem_singleton] at h1
        subst h1
        exact hr
    refine irow_mod hq2 hM (fun p hp hx => ?_)
    have := (hloc q hq p hp).2.2.1
    simp at hx
    omega
  · obtain ⟨e1, e2, e3, e4, e5⟩ := hloc q hq p hp
    exact ⟨e1, e2, e3, Nat.lt_of_lt_of_le e4 hM.size, e5⟩
end Cb
end Go.Proofs.YteekonojmpihlaaDoor
