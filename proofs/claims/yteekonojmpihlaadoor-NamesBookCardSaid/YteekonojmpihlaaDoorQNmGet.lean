import Derived.Test.YteekonojmpihlaaDoorQNmBook
import Derived.Test.YteekonojmpihlaaDoorQRetCell
/- Package names: Get. -/
namespace Go.Proofs.YteekonojmpihlaaDoor
namespace Kt
end Kt
namespace St
end St
namespace Sp
end Sp
namespace Bk
end Bk
namespace Tr
end Tr
open Go Go.RowKit Go.Shelf Kt St Sp Bk Tr
namespace Bo
theorem frz9 {W : World} {b T : Nat} {c : Array Value} (h : W.heap[b]? = some (.cells c T (0, 0))) : W.frozen? ⟨b, 0, none⟩ = false ∧ W.frozen? ⟨b, 1, none⟩ = false ∧ W.frozen? ⟨b, 2, none⟩ = false ∧ W.frozen? ⟨b, 3, none⟩ = false ∧ W.frozen? ⟨b, 4, none⟩ = false ∧ W.frozen? ⟨b, 5, none⟩ = false ∧ W.frozen? ⟨b, 6, none⟩ = false ∧ W.frozen? ⟨b, 7, none⟩ = false ∧ W.frozen? ⟨b, 8, none⟩ = false :=
  ⟨frozen_block h 0, frozen_block h 1, frozen_block h 2, frozen_block h 3, frozen_block h 4, frozen_block h 5, frozen_block h 6, frozen_block h 7, frozen_block h 8⟩
set_option maxRecDepth 100000 in
theorem zeroN (w : World) : (zeroValue 37).run Tryd.prog w = .ok (nv nil0) w := by kernel_rfl
theorem NB.look {w : World} {p mb n c : Nat} {g : Option Addr} {Ts : Bks} (h : NB w p g c mb n Ts) (s : List UInt8) (hs : s.length ≤ 9223372036854775807) :
    (Instr.lookup 107 (.map (some mb)) (.string (Str s)) true).run Tryd.prog w = .ok (.tuple #[nv ((lkS Ts s).getD nil0), .bool (lkS Ts s).isSome]) w :=
  h.hm.get_ok enc_nv Tryd.underlying107 Tryd.underlying9 (zeroN w) s hs
theorem rgt_texts {n : Nd} (h : rgt n = true) : ∀ x ∈ walk n, x.1.text.length ≤ 9223372036854775807 := by
  obtain ⟨hw, hf⟩ := rgt_full h
  intro x hx
  rw [hw] at hx
  have h1 := (hf x hx).2
  obtain ⟨⟨k, s, mn, mx, t, a, c, ks⟩, lv⟩ := x
  by_cases h5 : k = 5
  · subst h5
    simp only [Tr.one, Nd.kind, Nd.text] at h1
    simp at h1
    have := h1.2.2
    simp only [Ac.nm, Bool.and_eq_true, decide_eq_true_eq] at this
    have h12 := this.2.2
    simp only [Nd.text]
    omega
  · have := one_text h1 h5
    subst this
    simp [Nd.text]
/-- What Get answers. -/
def GeP (B : Bks) (s : List UInt8) (w : World) (e : Ending) (w' : World) : Prop := ∃ m, e = .returned (.tuple #[nv m, .bool (lkS B s).isSome]) ∧ (∀ m0, lkS B s = some m0 → er m = m0) ∧ (lkS B s = none → m = nil0) ∧ Is w'.heap.size w' m ∧ Below w.heap.size w w'
set_option maxRecDepth 100000 in
set_option maxHeartbeats 1000000 in
theorem get_c (p : Nat) (L X : List Nat) (B : Bks) (s : List UInt8) (hs : s.length ≤ 9223372036854775807) (w : World) (h : BK w p L X B) :
    Calls Tryd.prog 18 #[.pointer (some ⟨p, 0, none⟩), .string (Str s)] w (GeP B s w) := by
  obtain ⟨g, c, mb, n, Ts, h1, rfl, h3, rfl⟩ := h.ex
  obtain ⟨m1, hm1⟩ : ∃ m1, (lkS Ts s).getD nil0 = m1 := ⟨_, rfl⟩
  have hi1 : Is w.heap.size w m1 := by
    rw [← hm1]
    cases hk : lkS Ts s with
    | none => exact ⟨rfl, Nat.le_refl _, by decide, fun _ => rfl, Rd.nil _ _, (fun p hp => by cases hp), trivial⟩
    | some m0 => exact (h3 _ (lkS_mem hk)).1
  have hr1 : (lkS Ts s).isSome = true → rgt m1 = true := by
    rw [← hm1]
    cases hk : lkS Ts s with
    | none => intro h; cases h
    | some m0 => intro _; exact (h3 _ (lkS_mem hk)).2.1
  have he1 : (lkS Ts s).isSome = true → ∀ m0, (lkS Ts s).map er = some m0 → er m1 = m0 := by
    rw [← hm1]
    cases hk : lkS Ts s with
    | none => intro h; cases h
    | some m0 => intro _ m h; simpa using h
  obtain ⟨x0, x1, x2, x3, hx⟩ := four' hi1.len
  obtain ⟨k, mn, mx, a, nl, cc, t, hnv, _⟩ := nv_explicit hx
  obtain ⟨B4, hB4⟩ : ∃ B4, Obj.cells #[.int .i64 0, .int .u64 0, .int .u64 0, .int .u64 0, .int .u64 0, .slice none 0 0, .int .i64 0, .int .i64 0, .string ⟨#[]⟩] 37 (0, 0) = B4 := ⟨_, rfl⟩
  obtain ⟨B6, hB6⟩ : ∃ B6, Obj.cells #[.int .i64 k, .int .u64 (x0 : Int), .int .u64 (x1 : Int), .int .u64 (x2 : Int), .int .u64 (x3 : Int), .slice a nl cc, .int .i64 mn, .int .i64 mx, .string (Str t)] 37 (0, 0) = B6 := ⟨_, rfl⟩
  have b1 : Below w.heap.size w (w.alloc B4) := (Below.refl _ w).alloc (Nat.le_refl _) _
  have hN1 := h1.mod (Mod.of_below b1 []) (by simp)
  have k1 : (w.alloc B4).cell? ⟨p, 1, none⟩ = some (.map (some mb)) := cell_block hN1.hp 1
  have hl := hN1.look s hs
  rw [hm1, hnv] at hl
  have z1 : (w.alloc B4).heap.size = w.heap.size + 1 := by simp
  have l4 : ((w.alloc B4).alloc B6).heap[w.heap.size]? = some B4 := block_alloc (World.alloc_heap_new w B4)
  have l6 : ((w.alloc B4).alloc B6).heap[w.heap.size + 1]? = some B6 := by rw [← z1]; exact World.alloc_heap_new _ B6
  have hB : Below w.heap.size w ((w.alloc B4).alloc B6) := b1.alloc (by simp) _
  obtain ⟨W3, hW3⟩ : ∃ W3, (w.alloc B4).alloc B6 = W3 := ⟨_, rfl⟩
  have z3 : W3.heap.size = w.heap.size + 2 := by rw [← hW3]; simp
  rw [hW3] at l4 l6 hB
  rw [← hB4, ← hB6] at hW3
  rw [← hB4] at l4 k1 hl
  rw [← hB6] at l6
  clear hB4 hB6 z1 B4 B6 hN1 b1
  have HB := Lib.hid hB
  have HZ := Lib.hid z3
  have HI := Lib.hid hi1
  have HR := Lib.hid hr1
  have HE := Lib.hid he1
  have HW3 := Lib.hid hW3
  have HNv := Lib.hid hnv
  obtain ⟨bo, hbo⟩ : ∃ bo, (lkS Ts s).isSome = bo := ⟨_, rfl⟩
  have hbo2 : ((lkS Ts s).map er).isSome = bo := by rw [← hbo]; simp
  rw [hbo] at hl HR HE
  have HBo2 := Lib.hid hbo2
  cases bo with
  | false =>
    obtain ⟨d0, d1, d2, d3, d4, d5, d6, d7, d8⟩ := nd_cells l4
    obtain ⟨f0, f1, f2, f3, f4, f5, f6, f7, f8⟩ := frz9 l4
    have hre : GeP (erB Ts) s w (.returned (.tuple #[.agg #[.int .i64 0, .int .u64 0, .int .u64 0, .int .u64 0, .int .u64 0, .slice none 0 0, .int .i64 0, .int .i64 0, .string ⟨#[]⟩], .bool false])) W3 :=
      ⟨nil0, by rw [lkS_er, hbo2]; rfl, fun m0 hm => (by rw [lkS_er] at hm; rw [hm] at hbo2; cases hbo2), fun _ => rfl, ⟨rfl, Nat.le_refl _, by decide, fun _ => rfl, Rd.nil _ _, (fun p hp => by cases hp), trivial⟩, hB⟩
    have HRe := Lib.hid hre
    have HPb := Lib.hid l4
    rw [← hW3] at d0 d1 d2 d3 d4 d5 d6 d7 d8 f0 f1 f2 f3 f4 f5 f6 f7 f8
    clear hre l4 l6 hB z3 hW3 hi1 hr1 he1 hm1 hx hnv hbo hbo2 h1 h3 h
    go_enter Tryd.func18, Tryd.ntmps18
    go_wp2
    rw [HW3.out]
    ((try simp only [Exit.inBlock, Exit.then]); refine bodyPost_ret (Kt.results_cell2_row rfl _ _ (w.heap.size) 37 _ (0, 0) _ rfl (HPb.out) Tryd.underlying37 rfl ?hi1) rfl ?_; (case hi1 => kernel_rfl))
    exact HRe.out
  | true =>
    have hcp := Copy_c m1 (rgt_texts (HR.out (by trivial))) W3 (Is.mono hB.size (Is.below hB hi1))
    rw [hnv] at hcp
    have HCp := Lib.hid hcp
    have H4 := Lib.hid l4
    obtain ⟨u0, u1, u2, u3, u4, u5, u6, u7, u8⟩ := nd_cells l6
    rw [← hW3] at u0 u1 u2 u3 u4 u5 u6 u7 u8
    clear l4 l6 hB z3 hW3 hi1 hr1 he1 hm1 hx hnv hbo hbo2 h1 h3 h hcp
    go_enter Tryd.func18, Tryd.ntmps18
    go_wp2_with fail
    rw [HW3.out]
    with_reducible refine HCp.out.mono ?_
    rintro e w5 ⟨m, rfl, hme, _, hmi, hmb, hb5, _⟩
    have h5 := (hb5.block _ (block_lt H4.out)).trans H4.out
    obtain ⟨v0, v1, v2, v3, hvs⟩ := four' hmi.len
    obtain ⟨k', mn', mx', a', nl', c', t', hnv, hcl⟩ := nv_explicit hvs
    obtain ⟨d0, d1, d2, d3, d4, d5, d6, d7, d8⟩ := nd_cells h5
    obtain ⟨f0, f1, f2, f3, f4, f5, f6, f7, f8⟩ := frz9 h5
    have hpb := put9_block h5 (.int .i64 k') (.int .u64 (v0 : Int)) (.int .u64 (v1 : Int)) (.int .u64 (v2 : Int)) (.int .u64 (v3 : Int)) (.slice a' nl' c') (.int .i64 mn') (.int .i64 mx') (.string (Str t'))
    have hpm := put9_mod w5 w.heap.size (.int .i64 k') (.int .u64 (v0 : Int)) (.int .u64 (v1 : Int)) (.int .u64 (v2 : Int)) (.int .u64 (v3 : Int)) (.slice a' nl' c') (.int .i64 mn') (.int .i64 mx') (.string (Str t'))
    have hz := HZ.out
    have hBB := HB.out.trans (hb5.mono HB.out.size)
    have hre : GeP (erB Ts) s w (.returned (.tuple #[.agg #[.int .i64 k', .int .u64 (v0 : Int), .int .u64 (v1 : Int), .int .u64 (v2 : Int), .int .u64 (v3 : Int), .slice a' nl' c', .int .i64 mn', .int .i64 mx', .string (Str t')], .bool true])) (put9 w5 w.heap.size (.int .i64 k') (.int .u64 (v0 : Int)) (.int .u64 (v1 : Int)) (.int .u64 (v2 : Int)) (.int .u64 (v3 : Int)) (.slice a' nl' c') (.int .i64 mn') (.int .i64 mx') (.string (Str t'))) :=
      ⟨m, by rw [hnv, lkS_er, HBo2.out], fun m0 hm => (hme (HR.out (by trivial))).trans (HE.out (by trivial) m0 (by rw [← lkS_er]; exact hm)), fun hn => (by have := HBo2.out; rw [← lkS_er, hn] at this; cases this), is_mod hmi hmb hpm (fun b hb => .inl (by simp at hb; subst hb; omega)), hBB.trans (hpm.toBelow hBB.size (by simp))⟩
    have HRe := Lib.hid hre
    have HPb := Lib.hid hpb
    simp only [hnv]
    clear hre hpb hpm hnv hcl hvs hme hmi hmb hb5 h5 hz hBB u0 u1 u2 u3 u4 u5 u6 u7 u8
    go_wp2
    ((try simp only [Exit.inBlock, Exit.then]); refine bodyPost_ret (Kt.results_cell2_row rfl _ _ (w.heap.size) 37 _ (0, 0) _ rfl (HPb.out) Tryd.underlying37 rfl ?hi2) rfl ?_; (case hi2 => kernel_rfl))
    exact HRe.out
end Bo
end Go.Proofs.YteekonojmpihlaaDoor
