/- A map from ints to slices that the call made; Lay's closure. -/
import Derived.Test.YteekonojmpihlaaDoorQCbIns
import Derived.Test.YteekonojmpihlaaDoorQCbCommon
namespace Go.Proofs.YteekonojmpihlaaDoor
namespace Kt
end Kt
open Go Go.RowKit Go.Maps Kt
namespace Cb
/-- A slice by its block, length, capacity. -/
structure SV where
  b : Option Nat
  n : Nat
  c : Nat
def sv (s : SV) : Value := .slice (s.b.map fun b => ⟨b, 0, none⟩) s.n s.c
def sd (s : SV) : DataW Unit := .agg [.lit (.int .i64 (match s.b with | none => -1 | some b => (b : Int))), .lit (.int .i64 (s.n : Int)), .lit (.int .i64 (s.c : Int))]
def rdS : Value → Option (DataW Unit × List MemPlace)
  | .slice none n c => some (sd ⟨none, n, c⟩, [])
  | .slice (some ⟨b, 0, none⟩) n c => some (sd ⟨some b, n, c⟩, [])
  | _ => none
theorem rdS_sv (s : SV) : rdS (sv s) = some (sd s, []) := by
  obtain ⟨b, n, c⟩ := s
  cases b <;> rfl
theorem sd_inj {s t : SV} (h : sd s = sd t) : s = t := by
  obtain ⟨b, n, c⟩ := s
  obtain ⟨b', n', c'⟩ := t
  simp only [sd, DataW.agg.injEq, List.cons.injEq, DataW.lit.injEq, Lit.int.injEq, true_and, and_true] at h
  obtain ⟨h1, h2, h3⟩ := h
  have e2 : n = n' := by omega
  have e3 : c = c' := by omega
  subst e2 e3
  cases b <;> cases b' <;> simp only at h1
  · rfl
  · omega
  · omega
  · rename_i x y
    have : x = y := by omega
    rw [this]
theorem rdS_inv {v : Value} {s : SV} {ps : List MemPlace} (h : rdS v = some (sd s, ps)) : v = sv s := by
  unfold rdS at h
  split at h
  · simp only [Option.some.injEq, Prod.mk.injEq] at h
    rw [← sd_inj h.1]
    rfl
  · simp only [Option.some.injEq, Prod.mk.injEq] at h
    rw [← sd_inj h.1]
    rfl
  · cases h
def OwnS (w : World) (b n : Nat) (D : DataW Unit) : Prop := w.ownsMap Tryd.prog 3 rdS b n D
/-- Block b is a map of at most n entries that answers f. -/
structure MapS (w : World) (b n : Nat) (f : Int → SV) : Prop where
  ex : ∃ D : DataW Unit, OwnS w b n D ∧ ∀ x : Int, D.atKey (.int .i64 x) (sd ⟨none, 0, 0⟩) = sd (f x)
theorem MapS.made (w : World) : MapS (w.alloc (.map #[] 0)) w.heap.size 0 (fun _ => ⟨none, 0, 0⟩) := ⟨⟨_, World.ownsMap_made w Tryd.prog 3 _, fun _ => rfl⟩⟩
variable {w w' : World} {b n : Nat} {f : Int → SV}
theorem MapS.lt (h : MapS w b n f) : b < w.heap.size := by obtain ⟨D, h1, _⟩ := h.ex; exact World.ownsMap.lt h1
theorem MapS.mod {S : List Nat} (h : MapS w b n f) (hM : Mod S w w') (hb : b ∉ S) : MapS w' b n f := by
  have hlt := h.lt
  obtain ⟨D, ⟨es, clock, hb', F, hs, hD⟩, h2⟩ := h.ex
  exact ⟨⟨D, ⟨es, clock, (hM.block b hlt hb).trans hb', F, hs, hD⟩, h2⟩⟩
theorem MapS.below (h : MapS w b n f) (hB : Below w.heap.size w w') : MapS w' b n f := h.mod (Mod.of_below hB []) (by simp)
theorem zeroS (w : World) : (zeroValue 69).run Tryd.prog w = .ok (sv ⟨none, 0, 0⟩) w := by kernel_rfl
theorem MapS.get (h : MapS w b n f) (x : Int) (hx : (Lit.int .i64 x).wf = true) : (Instr.lookup 123 (.map (some b)) (.int .i64 x) false).run Tryd.prog w = .ok (sv (f x)) w := by
  obtain ⟨D, h1, h2⟩ := h.ex
  obtain ⟨v, ps, hrun, hv⟩ := World.ownsMap.lookup h1 (int_keyed Tryd.underlying3) Tryd.underlying123 (zeroS w) (rdS_sv _) (keyOf_int_mk Tryd.underlying3 hx)
  rw [h2] at hv
  rw [hrun, rdS_inv hv]
theorem MapS.set (h : MapS w b n f) (hn : n < maxLen) (x : Int) (hx : (Lit.int .i64 x).wf = true) (s : SV) :
    ∃ w', (Instr.mapUpdate 123 (.map (some b)) (.int .i64 x) (sv s)).run Tryd.prog w = .ok () w' ∧ MapS w' b (n + 1) (fun y => if y = x then s else f y) ∧ w.grownBy w' (some b) := by
  obtain ⟨D, h1, h2⟩ := h.ex
  have hm := World.ownsMap.isMap h1
  obtain ⟨w', hrun, o, g⟩ := World.ownsMap.update h1 (int_keyed Tryd.underlying3) Tryd.underlying123 hn (keyOf_int_mk Tryd.underlying3 hx) (rdS_sv s)
  refine ⟨w', hrun, ⟨⟨_, o, fun y => ?_⟩⟩, g⟩
  by_cases hyx : y = x
  · subst hyx
    rw [atKey_put_same hm (by trivial), if_pos rfl]
  · have hne : (Lit.int .i64 y) ≠ Lit.int .i64 x := by simpa using hyx
    rw [atKey_put_other hne, if_neg hyx]
    exact h2 y
set_option maxRecDepth 100000 in
theorem isnan_c (x : Int) (w : World) : Calls Tryd.prog 106 #[.int .i64 x] w fun e w' => e = .returned (.bool false) ∧ w = w' := by
  go_enter Tryd.func106, Tryd.ntmps106
  go_wp2
  go_ret
  exact ⟨rfl, rfl⟩
set_option maxRecDepth 100000 in
theorem compare_c (a b : Nat) (w : World) : Calls Tryd.prog 77 #[.int .i64 (a : Int), .int .i64 (b : Int)] w fun e w' => e = .returned (.int .i64 (cmp3 a b)) ∧ w = w' := by
  unfold cmp3
  by_cases h1 : a < b
  · rw [if_pos h1]
    have i1 : (a : Int) < (b : Int) := by omega
    go_enter Tryd.func77, Tryd.ntmps77
    go_wp2_with (go_at_call 106; (with_reducible refine (isnan_c _ _).mono ?_); rintro _ _ ⟨rfl, rfl⟩)
    go_ret
    exact ⟨rfl, rfl⟩
  · rw [if_neg h1]
    have i1 : ¬ (a : Int) < (b : Int) := by omega
    by_cases h2 : b < a
    · rw [if_pos h2]
      have i2 : (b : Int) < (a : Int) := by omega
      go_enter Tryd.func77, Tryd.ntmps77
      go_wp2_with (go_at_call 106; (with_reducible refine (isnan_c _ _).mono ?_); rintro _ _ ⟨rfl, rfl⟩)
      go_ret
      exact ⟨rfl, rfl⟩
    · rw [if_neg h2]
      have i2 : ¬ (b : Int) < (a : Int) := by omega
      go_enter Tryd.func77, Tryd.ntmps77
      go_wp2_with (go_at_call 106; (with_reducible refine (isnan_c _ _).mono ?_); rintro _ _ ⟨rfl, rfl⟩)
      go_ret
      exact ⟨rfl, rfl⟩
set_option maxRecDepth 100000 in
theorem lay1_c (Mb Mp n : Nat) (f : Int → SV) (x y : Nat) (hx : x < 100000) (hy : y < 100000) (w : World) (hm : MapS w Mp n f) (h1 : w.cell? ⟨Mb, 0, none⟩ = some (.map (some Mp))) :
    Calls Tryd.prog 76 #[.int .i64 (x : Int), .int .i64 (y : Int), .pointer (some ⟨Mb, 0, none⟩)] w fun e w' => e = .returned (.int .i64 (cmp3 (f y).n (f x).n)) ∧ w = w' := by
  have gx := hm.get (x : Int) (WalkArith.wf_i64 (by omega))
  have gy := hm.get (y : Int) (WalkArith.wf_i64 (by omega))
  unfold sv at gx gy
  have HC := Lib.hid (compare_c (f y).n (f x).n w)
  generalize (f x).n = nx at *
  generalize (f y).n = ny at *
  generalize (f x).b = bx at *
  generalize (f y).b = by1 at *
  generalize (f x).c = cx at *
  generalize (f y).c = cy at *
  clear hm
  go_enter Tryd.func76, Tryd.ntmps76
  go_wp2_with (go_at_call 77; (with_reducible refine HC.out.mono ?_); rintro _ _ ⟨rfl, rfl⟩)
  go_ret
  exact ⟨rfl, rfl⟩
end Cb
end Go.Proofs.YteekonojmpihlaaDoor
