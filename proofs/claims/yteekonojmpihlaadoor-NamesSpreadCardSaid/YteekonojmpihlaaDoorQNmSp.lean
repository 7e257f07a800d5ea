import Derived.Test.YteekonojmpihlaaDoorQNmBook
import Derived.Test.YteekonojmpihlaaDoorQRetCell
import Derived.Test.YteekonojmpihlaaDoorQStrHas
import Derived.Test.YteekonojmpihlaaDoorQClear
/- Package names: Get. -/
namespace Go.Proofs.YteekonojmpihlaaDoor
namespace Kt
end Kt
namespace St
end St
namespace Sp
end Sp
namespace Bk
end Bk
namespace Tr
end Tr
open Go Go.RowKit Go.Shelf Kt St Sp Bk Tr
namespace Bo
theorem frz9 {W : World} {b T : Nat} {c : Array Value} (h : W.heap[b]? = some (.cells c T (0, 0))) : W.frozen? ⟨b, 0, none⟩ = false ∧ W.frozen? ⟨b, 1, none⟩ = false ∧ W.frozen? ⟨b, 2, none⟩ = false ∧ W.frozen? ⟨b, 3, none⟩ = false ∧ W.frozen? ⟨b, 4, none⟩ = false ∧ W.frozen? ⟨b, 5, none⟩ = false ∧ W.frozen? ⟨b, 6, none⟩ = false ∧ W.frozen? ⟨b, 7, none⟩ = false ∧ W.frozen? ⟨b, 8, none⟩ = false :=
  ⟨frozen_block h 0, frozen_block h 1, frozen_block h 2, frozen_block h 3, frozen_block h 4, frozen_block h 5, frozen_block h 6, frozen_block h 7, frozen_block h 8⟩
set_option maxRecDepth 100000 in
theorem zeroN (w : World) : (zeroValue 37).run Tryd.prog w = .ok (nv nil0) w := by kernel_rfl
theorem NB.look {w : World} {p mb n c : Nat} {g : Option Addr} {Ts : Bks} (h : NB w p g c mb n Ts) (s : List UInt8) (hs : s.length ≤ 9223372036854775807) :
    (Instr.lookup 107 (.map (some mb)) (.string (Str s)) true).run Tryd.prog w = .ok (.tuple #[nv ((lkS Ts s).getD nil0), .bool (lkS Ts s).isSome]) w :=
  h.hm.get_ok enc_nv Tryd.underlying107 Tryd.underlying9 (zeroN w) s hs
theorem rgt_texts {n : Nd} (h : rgt n = true) : ∀ x ∈ walk n, x.1.text.length ≤ 9223372036854775807 := by
  obtain ⟨hw, hf⟩ := rgt_full h
  intro x hx
  rw [hw] at hx
  have h1 := (hf x hx).2
  obtain ⟨⟨k, s, mn, mx, t, a, c, ks⟩, lv⟩ := x
  by_cases h5 : k = 5
  · subst h5
    simp only [Tr.one, Nd.kind, Nd.text] at h1
    simp at h1
    have := h1.2.2
    simp only [Ac.nm, Bool.and_eq_true, decide_eq_true_eq] at this
    have h12 := this.2.2
    simp only [Nd.text]
    omega
  · have := one_text h1 h5
    subst this
    simp [Nd.text]
end Bo
end Go.Proofs.YteekonojmpihlaaDoor

/- The spreader in memory; what a spread answers. -/
namespace Go.Proofs.YteekonojmpihlaaDoor
open Go Go.RowKit Kt St Sp Bk Tr
namespace Bo
def Fr (L' L : List Nat) (B : Nat) : Prop := ∀ k ∈ L', k ∈ L ∨ B ≤ k
theorem Fr.refl (L : List Nat) (B : Nat) : Fr L L B := fun _ h => .inl h
abbrev strs (l : List (List UInt8)) : List Value := l.map fun t => .string (Str t)
/-- The spreader's blocks. -/
abbrev So (sp : Nat) (pa : Option Addr) (pn pc : Nat) : List Nat := sp :: (Value.slice pa pn pc).ownBlock.toList
structure SpS (b0 : Nat) (w : World) (sp p many : Nat) (ev : Value) (path : List (List UInt8)) (pa : Option Addr) (pn pc : Nat) : Prop where
  hs : w.heap[sp]? = some (.cells #[.pointer (some ⟨p, 0, none⟩), .int .i64 (many : Int), .slice pa pn pc, ev] 113 (0, 0))
  ho : w.ownsRow b0 9 1 (.slice pa pn pc) pn (strs path)
  hn : path.length = pn
  hb : b0 ≤ sp
  hd : ∀ k, (Value.slice pa pn pc).ownBlock = some k → k ≠ sp
variable {b0 sp p many pn pc : Nat} {w w' W : World} {ev : Value} {path : List (List UInt8)} {pa : Option Addr} {S : List Nat}
theorem SpS.lts (h : SpS b0 w sp p many ev path pa pn pc) : ∀ k ∈ So sp pa pn pc, b0 ≤ k ∧ k < w.heap.size := by
  intro k hk
  simp only [List.mem_cons, Option.mem_toList] at hk
  rcases hk with rfl | hk
  · exact ⟨h.hb, block_lt h.hs⟩
  · exact h.ho.lt k hk
theorem SpS.mod (h : SpS b0 w sp p many ev path pa pn pc) (hM : Mod S w w') (hS : ∀ b ∈ S, b ∉ So sp pa pn pc) : SpS b0 w' sp p many ev path pa pn pc :=
  ⟨(hM.block sp (block_lt h.hs) (fun hs => hS sp hs (by simp))).trans h.hs, own_mod h.ho hM (fun k hk hs => hS k hs (by simp [hk])), h.hn, h.hb, h.hd⟩
theorem SpS.below (h : SpS b0 w sp p many ev path pa pn pc) (hB : Below w.heap.size w w') : SpS b0 w' sp p many ev path pa pn pc := h.mod (Mod.of_below hB []) (by simp)
theorem SpS.toB (h : SpS b0 w sp p many ev path pa pn pc) (hM : Mod (So sp pa pn pc) w w') (hb : b0 ≤ w.heap.size) : Below b0 w w' := hM.toBelow hb fun k hk => (h.lts k hk).1
theorem SpS.cell (h : SpS b0 w sp p many ev path pa pn pc) : w.cell? ⟨sp, 0, none⟩ = some (.pointer (some ⟨p, 0, none⟩)) ∧ w.cell? ⟨sp, 1, none⟩ = some (.int .i64 (many : Int)) ∧ w.cell? ⟨sp, 2, none⟩ = some (.slice pa pn pc) ∧ w.cell? ⟨sp, 3, none⟩ = some ev :=
  ⟨cell_block h.hs 0, cell_block h.hs 1, cell_block h.hs 2, cell_block h.hs 3⟩
theorem SpS.frz (h : SpS b0 w sp p many ev path pa pn pc) (i : Nat) : w.frozen? ⟨sp, i, none⟩ = false := frozen_block h.hs i
/-- The error is set. -/
theorem SpS.err (h : SpS b0 w sp p many ev path pa pn pc) (v : Value) : SpS b0 (w.setCell ⟨sp, 3, none⟩ v) sp p many v path pa pn pc ∧ Mod [sp] w (w.setCell ⟨sp, 3, none⟩ v) := by
  have hM : Mod [sp] w (w.setCell ⟨sp, 3, none⟩ v) := (Mod.refl [sp] w).setCell (.inl (by simp)) _
  refine ⟨⟨?_, own_mod h.ho hM (fun k hk => by simpa using h.hd k hk), h.hn, h.hb, h.hd⟩, hM⟩
  rw [block_setCell (i := 3) (show _ = some (Obj.cells _ _ _) from h.hs)]
  simp only [List.setIfInBounds_toArray, List.set_cons_succ, List.set_cons_zero]
/-- One node more. -/
theorem SpS.more (h : SpS b0 w sp p many ev path pa pn pc) (q : Nat) : SpS b0 (w.setCell ⟨sp, 1, none⟩ (.int .i64 (q : Int))) sp p q ev path pa pn pc ∧ Mod [sp] w (w.setCell ⟨sp, 1, none⟩ (.int .i64 (q : Int))) := by
  have hM : Mod [sp] w (w.setCell ⟨sp, 1, none⟩ (.int .i64 (q : Int))) := (Mod.refl [sp] w).setCell (.inl (by simp)) _
  refine ⟨⟨?_, own_mod h.ho hM (fun k hk => by simpa using h.hd k hk), h.hn, h.hb, h.hd⟩, hM⟩
  rw [block_setCell (i := 1) (show _ = some (Obj.cells _ _ _) from h.hs)]
  simp only [List.setIfInBounds_toArray, List.set_cons_succ, List.set_cons_zero]
/-- One name more on the path. -/
theorem SpS.push (h : SpS b0 w sp p many ev path pa pn pc) (hb0 : b0 ≤ w.heap.size) (hn : pn < 100) (s : List UInt8) :
    ∃ g' cap w6, (Builtin.append_ #[38, 38] 38 #[.slice pa pn pc, .slice (some ⟨w.heap.size, 0, none⟩) 1 1]).run Tryd.prog (w.alloc (.cells #[.string (Str s)] 9)) = .ok (.slice (some ⟨g', 0, none⟩) (pn + 1) cap) w6 ∧
      w6.cell? ⟨sp, 2, none⟩ = some (.slice pa pn pc) ∧ w6.frozen? ⟨sp, 2, none⟩ = false ∧
      SpS b0 (w6.setCell ⟨sp, 2, none⟩ (.slice (some ⟨g', 0, none⟩) (pn + 1) cap)) sp p many ev (path ++ [s]) (some ⟨g', 0, none⟩) (pn + 1) cap ∧
      Mod (So sp pa pn pc) w (w6.setCell ⟨sp, 2, none⟩ (.slice (some ⟨g', 0, none⟩) (pn + 1) cap)) ∧ Fr (So sp (some ⟨g', 0, none⟩) (pn + 1) cap) (So sp pa pn pc) w.heap.size := by
  have hlt := h.lts
  have hpl := hlt sp (by simp)
  have b1 : Below w.heap.size w (w.alloc (.cells #[.string (Str s)] 9)) := (Below.refl _ _).alloc (Nat.le_refl _) _
  have hN1 := h.below b1
  have hrn : Rd (w.alloc (.cells #[.string (Str s)] 9)) (some ⟨w.heap.size, 0, none⟩) [.string (Str s)] := Rd.new _ _ _ _ _ rfl
  obtain ⟨W1, hW1⟩ : ∃ W1, w.alloc (.cells #[.string (Str s)] 9) = W1 := ⟨_, rfl⟩
  have hz1 : W1.heap.size = w.heap.size + 1 := by rw [← hW1]; simp
  rw [hW1] at b1 hN1 hrn ⊢
  obtain ⟨g', cap, w6, hrun, own6, gr6, hlie, hg6⟩ := (show El Tryd.prog _ _ _ 1 16 from elStr).lies b0 (ty := 38) hN1.ho 1 1 (news := [.string (Str s)]) rfl (by decide) hrn (by intro u hu; simp at hu; subst hu; rfl) (by unfold maxLen; omega) (by omega) (by omega)
  have hg' : (Value.slice pa pn pc).ownBlock = some g' ∨ w.heap.size ≤ g' := by
    rcases hlie with h | h
    · exact .inl h
    · exact .inr (by omega)
  have hgp : g' ≠ sp := by
    rcases hg' with h1 | h1
    · exact h.hd g' h1
    · omega
  have hM6 : Mod (Value.slice pa pn pc).ownBlock.toList w w6 := (Mod.of_below b1 _).grown gr6 (fun q hq => .inl (by simp [hq]))
  have hp6 := (hM6.block sp hpl.2 (fun hq => h.hd sp (by simpa using hq) rfl)).trans h.hs
  have hM7 : Mod [sp] w6 (w6.setCell ⟨sp, 2, none⟩ (.slice (some ⟨g', 0, none⟩) (pn + 1) cap)) := (Mod.refl [sp] w6).setCell (.inl (by simp)) _
  refine ⟨g', cap, w6, hrun, cell_block hp6 2, frozen_block hp6 2, ⟨?_, ?_, by simp [h.hn], h.hb, fun k hk => ?_⟩, ?_, ?_⟩
  · rw [block_setCell (i := 2) (show _ = some (Obj.cells _ _ _) from hp6)]
    simp only [List.setIfInBounds_toArray, List.set_cons_succ, List.set_cons_zero]
  · rw [strs, List.map_append]
    exact own_mod own6 hM7 (fun k hk => by simp [Value.ownBlock] at hk; subst hk; simpa using hgp)
  · simp [Value.ownBlock] at hk; subst hk; exact hgp
  · exact (hM6.sub (S' := So sp pa pn pc) (by intro q hq; exact List.mem_cons_of_mem _ hq)).trans hM7 (fun q hq => .inl (by simp at hq; simp [hq]))
  · intro k hk
    simp only [Value.ownBlock, List.mem_cons, Option.mem_toList, Option.some.injEq] at hk
    rcases hk with rfl | hk
    · simp
    · subst hk
      rcases hg' with h1 | h1
      · exact .inl (by simp [h1])
      · exact .inr h1
/-- The last name is taken off the path. -/
theorem SpS.pop {g : Nat} {s : List UInt8} (h : SpS b0 w sp p many ev (path ++ [s]) (some ⟨g, 0, none⟩) (pn + 1) pc) : SpS b0 (w.setCell ⟨sp, 2, none⟩ (.slice (some ⟨g, 0, none⟩) pn pc)) sp p many ev path (some ⟨g, 0, none⟩) pn pc ∧ Mod [sp] w (w.setCell ⟨sp, 2, none⟩ (.slice (some ⟨g, 0, none⟩) pn pc)) ∧ pn + 1 ≤ pc := by
  have hl := h.hn
  simp only [List.length_append, List.length_cons, List.length_nil] at hl
  have hM : Mod [sp] w (w.setCell ⟨sp, 2, none⟩ (.slice (some ⟨g, 0, none⟩) pn pc)) := (Mod.refl [sp] w).setCell (.inl (by simp)) _
  have hc := own_cut h.ho (Nat.le_succ pn)
  have ht : (strs (path ++ [s])).take (pn * 1) = strs path := by
    rw [strs, List.map_append, Nat.mul_one, List.take_append_of_le_length (by simp; omega), List.take_of_length_le (by simp; omega)]
  rw [ht] at hc
  obtain ⟨a', c', he, h1, _⟩ := rd_own h.ho
  simp only [Value.slice.injEq] at he
  obtain ⟨_, _, rfl⟩ := he
  refine ⟨⟨?_, own_mod hc hM (fun k hk => by simpa using h.hd k hk), by omega, h.hb, h.hd⟩, hM, h1⟩
  rw [block_setCell (i := 2) (show _ = some (Obj.cells _ _ _) from h.hs)]
  simp only [List.setIfInBounds_toArray, List.set_cons_succ, List.set_cons_zero]
/-- What a spread answers. -/
def SpP (E : Nat → Addr) (b0 sp p : Nat) (r : Int × Nat × Nd) (path : List (List UInt8)) (pa : Option Addr) (pn pc : Nat) (W : World) (e : Ending) (W' : World) : Prop :=
  ∃ m pa' pc', e = .returned (nv m) ∧ SpS b0 W' sp p r.2.1 (ee E r.1) path pa' pn pc' ∧ (r.1 = 0 → er m = r.2.2) ∧ Is W'.heap.size W' m ∧ Bl (fun q => W.heap.size ≤ q ∧ (Value.slice pa' pn pc').ownBlock ≠ some q) m ∧ Mod (So sp pa pn pc) W W' ∧ Fr (So sp pa' pn pc') (So sp pa pn pc) W.heap.size
theorem is_nil0 (B : Nat) (W : World) : Is B W nil0 := ⟨rfl, Nat.le_refl _, by decide, fun _ => rfl, Rd.nil _ _, (fun p hp => by cases hp), trivial⟩
theorem bl_nil0 (P : Nat → Prop) : Bl P nil0 := ⟨fun p hp => (by cases hp), trivial⟩
theorem good_text : ∀ {n : Nd}, good n → n.text.length ≤ 12
  | .mk k s mn mx t a c ks, h => by
    have h1 := h.1
    by_cases h5 : k = 5
    · subst h5
      simp only [Tr.one, Nd.kind, Nd.text] at h1
      simp at h1
      have := h1.2.2
      simp only [Ac.nm, Bool.and_eq_true, decide_eq_true_eq] at this
      exact this.2.2
    · have := one_text h1 h5
      subst this
      simp [Nd.text]
end Bo
end Go.Proofs.YteekonojmpihlaaDoor
