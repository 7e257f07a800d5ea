import Derived.Test.YtoeeddfinmfnoaaDoorQTreeBnd
import Derived.Test.YtoeeddfinmfnoaaDoorQSets4
import Derived.ChangeMaps5
import Derived.ChangeArms
/- A tree that came in, opened. -/
namespace Go.Proofs.YtoeeddfinmfnoaaDoor
namespace Kt
end Kt
namespace St
end St
namespace Sp
end Sp
namespace Bk
end Bk
open Go Go.RowKit Go.ChangeShapes Go.WideShapes Kt St Sp Bk
namespace Tr
section
variable {H : Type} {enc : TypeId × Value → H} {P : Program} {w : World} {base : Nat} {spare : Nat → Bool} {held : Bool}
/-- A slice of structs that came in; the elements at less fuel. -/
theorem open_structsN {α : Type} [Inhabited α] {t e : TypeId} {fuel sz : Nat} {v : Value} {x : DataW H × List MemPlace} (f : α → List Value) (Q : α → Prop) (ht : P.underlying t = some (.slice e)) (hc : P.cellsOf e = sz) (hsz : 0 < sz)
    (hel : ∀ n cs y, n < fuel → DataW.trod enc P w base spare held n e cs = some y → ∃ z : α, cs = f z ∧ (f z).length = sz ∧ Q z) (h : DataW.trod enc P w base spare held fuel t [v] = some x) :
    ∃ a cap, ∃ l : List α, v = .slice a l.length cap ∧ l.length ≤ cap ∧ cap ≤ maxLen ∧ (a = none → cap = 0) ∧ Rd w a (l.flatMap f) ∧ ∀ z ∈ l, (f z).length = sz ∧ Q z := by
  rcases DataW.trod_slice ht h with ⟨hv, _⟩ | ⟨a, len, cap, elems, rest, n, hn, hv, _, _, hl, hm, hlen', hx, _, _⟩
  · simp at hv; subst hv
    exact ⟨none, 0, [], rfl, Nat.le_refl _, by decide, fun _ => rfl, Rd.nil _ _, by simp⟩
  · simp at hv; subst hv
    rw [hc] at hx
    obtain ⟨g, hg⟩ := Deep.choose_lt (n := len) (p := fun i (z : α) => w.cells? base (a.add (i * sz)) sz = some (f z) ∧ (f z).length = sz ∧ Q z) (fun i hi => by
      have hxi := hx i hi
      rw [List.getElem?_eq_getElem (by rw [hlen']; exact hi)] at hxi
      obtain ⟨cs, h1, h2⟩ := Option.bind_eq_some_iff.1 hxi
      obtain ⟨z, rfl, h3, h4⟩ := hel n _ _ (by omega) h2
      exact ⟨z, h1, h3, h4⟩)
    have hQ : ∀ z ∈ (List.range len).map g, (f z).length = sz ∧ Q z := by
      intro z hz
      obtain ⟨i, hi, rfl⟩ := List.mem_map.1 hz
      exact (hg i (by simpa using hi)).2
    refine ⟨some a, cap, (List.range len).map g, by simp, by simpa using hl, hm, (fun h => by cases h), ?_, hQ⟩
    intro i u hi
    have hlen : ((List.range len).map g).length = len := by simp
    have htot : (((List.range len).map g).flatMap f).length = len * sz := by
      have : ∀ l : List α, (∀ z ∈ l, (f z).length = sz) → (l.flatMap f).length = l.length * sz := by
        intro l
        induction l with
        | nil => intro _; simp
        | cons z l ih => intro hz; rw [List.flatMap_cons, List.length_append, hz z (by simp), ih (fun z' hz' => hz z' (by simp [hz'])), List.length_cons, Nat.succ_mul]; omega
      rw [this _ (fun z hz => (hQ z hz).1), hlen]
    have hil : i < len * sz := by rw [← htot]; exact (List.getElem?_eq_some_iff.1 hi).1
    have hk : i / sz < len := Nat.div_lt_of_lt_mul (by rw [Nat.mul_comm]; exact hil)
    have hj : i % sz < sz := Nat.mod_lt _ hsz
    have hij : i / sz * sz + i % sz = i := by rw [Nat.mul_comm]; exact Nat.div_add_mod i sz
    have hfa := flat_at f sz ((List.range len).map g) (fun z hz => (hQ z hz).1) (i / sz) (i % sz) (by rw [hlen]; exact hk) hj
    rw [hij, hi] at hfa
    simp only [List.getElem_map, List.getElem_range] at hfa
    obtain ⟨_, hcl, hcc⟩ := World.cells?_some (hg (i / sz) hk).1
    have h0 := hcc (i % sz) hj
    rw [Deep.add_add, hij, ← hfa] at h0
    have hl0 : 0 < len := Nat.lt_of_le_of_lt (Nat.zero_le _) hk
    obtain ⟨_, hcl2, hcc2⟩ := World.cells?_some (hg 0 hl0).1
    have hfl0 := (hg 0 hl0).2.1
    have hz0 := hcc2 0 hsz
    have hx0 : (f (g 0))[0]? = some ((f (g 0))[0]'(by omega)) := List.getElem?_eq_getElem _
    rw [Deep.add_add, hx0] at hz0
    obtain ⟨b, off, spot⟩ := a
    have hs := World.cell?_spot hz0
    simp [Addr.add] at hs
    subst hs
    refine ⟨b, off, rfl, ?_⟩
    by_cases h00 : i = 0
    · subst h00; simpa [Addr.add] using h0
    · simpa [Addr.add, h00] using h0
end
theorem nd_cellsOf : Tryd.prog.cellsOf 27 = 9 := by kernel_rfl
mutual
/-- Each text is as long as Go's may be. -/
def tl : Nd → Prop
  | .mk _ _ _ _ t _ _ ks => t.length ≤ 9223372036854775807 ∧ tls ks
def tls : List Nd → Prop
  | [] => True
  | n :: r => tl n ∧ tls r
end
theorem tls.of : ∀ {ks : List Nd}, (∀ n ∈ ks, tl n) → tls ks
  | [], _ => trivial
  | _ :: _, h => ⟨h _ (by simp), tls.of fun n hn => h n (by simp [hn])⟩
mutual
theorem tl_full : ∀ (lv : Nat) (n : Nd), tl n → ∀ x ∈ full lv n, x.1.text.length ≤ 9223372036854775807
  | lv, .mk k s m x t a c ks, h, y, hy => by
    rw [full] at hy
    rcases List.mem_cons.1 hy with rfl | hy
    · exact h.1
    · split at hy
      · cases hy
      · exact tls_full (lv + 1) ks h.2 y hy
theorem tls_full : ∀ (lv : Nat) (ks : List Nd), tls ks → ∀ x ∈ fulls lv ks, x.1.text.length ≤ 9223372036854775807
  | _, [], _, y, hy => by cases hy
  | lv, n :: r, h, y, hy => by
    rw [fulls, List.mem_append] at hy
    rcases hy with hy | hy
    · exact tl_full lv n h.1 y hy
    · exact tls_full lv r h.2 y hy
end
theorem tl_walk {n : Nd} (h : tl n) : ∀ x ∈ walk n, x.1.text.length ≤ 9223372036854775807 := fun x hx => tl_full 1 n h x (List.mem_of_mem_take hx)
set_option maxRecDepth 100000 in
/-- A node that came in is a tree. -/
theorem open_nd {H : Type} {enc : TypeId × Value → H} {w : World} {base : Nat} {spare : Nat → Bool} {held : Bool} : ∀ (fuel : Nat) (cs : List Value) (y : DataW H × List MemPlace), DataW.trod enc Tryd.prog w base spare held fuel 27 cs = some y → ∃ n : Nd, cs = cells n ∧ (cells n).length = 9 ∧ Is w.heap.size w n ∧ wd n ∧ tl n := by
  intro fuel
  induction fuel using Nat.strongRecOn with
  | ind fuel ih =>
  intro cs y hy
  have ci : Tryd.prog.cellsOf 3 = 1 := by kernel_rfl
  have cu : Tryd.prog.cellsOf 22 = 1 := by kernel_rfl
  have c4 : Tryd.prog.cellsOf 24 = 4 := by kernel_rfl
  have cn : Tryd.prog.cellsOf 25 = 1 := by kernel_rfl
  have ct : Tryd.prog.cellsOf 9 = 1 := by kernel_rfl
  obtain ⟨xs, n, hn, _, hl, hxl, hf⟩ := DataW.trod_struct Tryd.underlying27 hy
  rw [nd_cellsOf] at hl
  match cs, hl, xs, hxl with
  | [u0, u1, u2, u3, u4, u5, u6, u7, u8], _, [y0, y1, y2, y3, y4, y5], _ =>
    have h0 : DataW.trod enc Tryd.prog w base spare held n 3 [u0] = some y0 := by
      have h : DataW.trod enc Tryd.prog w base spare held n 3 (List.take (Tryd.prog.cellsOf 3) (List.drop 0 [u0, u1, u2, u3, u4, u5, u6, u7, u8])) = some y0 := hf 0 _ rfl
      rw [ci] at h
      exact h
    have h1 : DataW.trod enc Tryd.prog w base spare held n 24 [u1, u2, u3, u4] = some y1 := by
      have h : DataW.trod enc Tryd.prog w base spare held n 24 (List.take (Tryd.prog.cellsOf 24) (List.drop 1 [u0, u1, u2, u3, u4, u5, u6, u7, u8])) = some y1 := hf 1 _ rfl
      rw [c4] at h
      exact h
    have h2 : DataW.trod enc Tryd.prog w base spare held n 25 [u5] = some y2 := by
      have h : DataW.trod enc Tryd.prog w base spare held n 25 (List.take (Tryd.prog.cellsOf 25) (List.drop 5 [u0, u1, u2, u3, u4, u5, u6, u7, u8])) = some y2 := hf 2 _ rfl
      rw [cn] at h
      exact h
    have h3 : DataW.trod enc Tryd.prog w base spare held n 3 [u6] = some y3 := by
      have h : DataW.trod enc Tryd.prog w base spare held n 3 (List.take (Tryd.prog.cellsOf 3) (List.drop 6 [u0, u1, u2, u3, u4, u5, u6, u7, u8])) = some y3 := hf 3 _ rfl
      rw [ci] at h
      exact h
    have h4 : DataW.trod enc Tryd.prog w base spare held n 3 [u7] = some y4 := by
      have h : DataW.trod enc Tryd.prog w base spare held n 3 (List.take (Tryd.prog.cellsOf 3) (List.drop 7 [u0, u1, u2, u3, u4, u5, u6, u7, u8])) = some y4 := hf 4 _ rfl
      rw [ci] at h
      exact h
    have h5 : DataW.trod enc Tryd.prog w base spare held n 9 [u8] = some y5 := by
      have h : DataW.trod enc Tryd.prog w base spare held n 9 (List.take (Tryd.prog.cellsOf 9) (List.drop 8 [u0, u1, u2, u3, u4, u5, u6, u7, u8])) = some y5 := hf 5 _ rfl
      rw [ct] at h
      exact h
    clear hf hy
    obtain ⟨k, e0, _⟩ := DataW.trod_int Tryd.underlying3 h0
    obtain ⟨z0, z1, z2, z3, m, _, s0, s1, s2, s3⟩ := Go.ChangeShapes.trod_array4 Tryd.underlying24 cu h1
    obtain ⟨n0, f0, _, g0⟩ := DataW.trod_int Tryd.underlying22 s0
    obtain ⟨n1, f1, _, g1⟩ := DataW.trod_int Tryd.underlying22 s1
    obtain ⟨n2, f2, _, g2⟩ := DataW.trod_int Tryd.underlying22 s2
    obtain ⟨n3, f3, _, g3⟩ := DataW.trod_int Tryd.underlying22 s3
    obtain ⟨x0, rfl, l0⟩ := wf_u64 g0
    obtain ⟨x1, rfl, l1⟩ := wf_u64 g1
    obtain ⟨x2, rfl, l2⟩ := wf_u64 g2
    obtain ⟨x3, rfl, l3⟩ := wf_u64 g3
    obtain ⟨mn, e3, _⟩ := DataW.trod_int Tryd.underlying3 h3
    obtain ⟨mx, e4, _⟩ := DataW.trod_int Tryd.underlying3 h4
    obtain ⟨t, e5, _, lt⟩ := DataW.trod_string Tryd.underlying9 h5
    obtain ⟨a, cap, ks, e2, a1, a2, a3, a4, a5⟩ := open_structsN (α := Nd) cells (fun z => Is w.heap.size w z ∧ wd z ∧ tl z) Tryd.underlying25 nd_cellsOf (by omega) (fun i cs y hi hy => by
      obtain ⟨z, e, hl, hI, hw⟩ := ih i (by omega) cs y hy
      exact ⟨z, e, hl, hI, hw⟩) h2
    simp only [List.cons.injEq, and_true] at e0 f0 f1 f2 f3 e3 e4 e5
    subst e0 f0 f1 f2 f3 e3 e4 e5 e2
    refine ⟨.mk k [x0, x1, x2, x3] mn mx t.data.toList a cap ks, rfl, rfl, ⟨rfl, a1, a2, a3, a4, fun p hp hne => ?_, IsAll.of fun z hz => (a5 z hz).2.1⟩, ⟨isSet_self rfl (by intro x hx; simp at hx; omega), wds.of fun z hz => (a5 z hz).2.2.1⟩, ?_, tls.of fun z hz => (a5 z hz).2.2.2⟩
    · obtain ⟨q, hq, hlt⟩ := Rd.lt a4 hne
      rw [hp] at hq
      cases hq
      exact hlt
    · have h1 : t.size ≤ 9223372036854775807 := lt
      have h2 : t.size = t.data.toList.length := (Array.length_toList (xs := t.data)).symm
      omega
set_option maxRecDepth 100000 in
/-- An argument of the type tree.Node is a tree. -/
theorem open_nodeT {H : Type} {enc : TypeId × Value → H} {W : World} {r : Reach} {b0 base : Nat} {spare : Nat → Bool} {held : Bool} {v : Value} {d : DataW H} {ps : List MemPlace} (hval : Value.okWide Tryd.prog W r b0 27 v)
    (h : DataW.Trod enc Tryd.prog W base spare held 27 v d ps) : ∃ n : Nd, v = nv n ∧ Is W.heap.size W n ∧ wd n ∧ tl n := by
  obtain ⟨cs, rfl, hsz⟩ := okWide_struct Tryd.underlying27 hval
  obtain ⟨fuel, hf⟩ := h
  obtain ⟨n, hn, _, hI, hw⟩ := open_nd fuel cs.toList (d, ps) hf
  refine ⟨n, ?_, hI, hw⟩
  unfold nv
  congr 1
  apply Array.toList_inj.1
  rw [hn]
end Tr
end Go.Proofs.YtoeeddfinmfnoaaDoor
