/- Package comb: out, at. -/
import Derived.Test.YteekonojmpihlaaDoorQCbPure
import Derived.Test.YteekonojmpihlaaDoorRows
import Derived.BigQuiet
namespace Go.Proofs.YteekonojmpihlaaDoor
namespace Kt
end Kt
open Go Go.RowKit Kt
namespace Cb
theorem out_c (n b : Int) (w : World) : Calls Tryd.prog 80 #[.int .i64 n, .int .i64 b] w fun e w' => e = .returned (.bool (outb n b)) ∧ w = w' := by
  by_cases h : n < 0
  · have hr : outb n b = true := by simp [outb, h]
    rw [hr]
    go_enter Tryd.func80, Tryd.ntmps80
    go_wp2
    go_ret
    exact ⟨rfl, rfl⟩
  · by_cases h2 : b ≤ n
    · have hr : outb n b = true := by simp [outb, h2]
      rw [hr]
      go_enter Tryd.func80, Tryd.ntmps80
      go_wp2
      go_ret
      exact ⟨rfl, rfl⟩
    · have hr : outb n b = false := by simp [outb]; omega
      rw [hr]
      go_enter Tryd.func80, Tryd.ntmps80
      go_wp2
      go_ret
      exact ⟨rfl, rfl⟩
/-- A comb in a box. -/
theorem box5 {W : World} {b T : Nat} {v0 v1 v2 v3 v4 : Value} (h : W.heap[b]? = some (.cells #[v0, v1, v2, v3, v4] T (0, 0))) : W.cell? ⟨b, 0, none⟩ = some v0 ∧ W.cell? ⟨b, 1, none⟩ = some v1 ∧ W.cell? ⟨b, 2, none⟩ = some v2 ∧ W.cell? ⟨b, 3, none⟩ = some v3 ∧ W.cell? ⟨b, 4, none⟩ = some v4 :=
  ⟨cell_block h 0, cell_block h 1, cell_block h 2, cell_block h 3, cell_block h 4⟩
theorem rd_i64 {W : World} {a : Option Addr} {l : List Int} (h : Rd W a (i64s l)) (i : Nat) (hi : i < l.length) : ∃ b off, a = some ⟨b, off, none⟩ ∧ W.cell? ⟨b, off + i, none⟩ = some (.int .i64 (l.getD i 0)) := by
  obtain ⟨b, off, h1, h2⟩ := h.i64 i hi
  refine ⟨b, off, h1, ?_⟩
  rw [h2, List.getD_eq_getElem?_getD, List.getElem?_eq_getElem hi]
  rfl
set_option maxRecDepth 100000 in
set_option maxHeartbeats 1000000 in
theorem at_c (c : Cs) (r p : Nat) (hr : r < c.base.length) (hb : 0 ≤ c.base.getD r 0) (hb2 : c.base.getD r 0 ≤ 65535) (hp : p ≤ 256) (hnx : c.next.length = c.check.length) (hd : c.dflt.length = c.base.length) (_hl : c.check.length ≤ 65536) (_hl2 : c.base.length ≤ 200) (w : World) (hI : Is w c) :
    Calls Tryd.prog 79 #[cv c, .int .i64 (r : Int), .int .i64 (p : Int)] w fun e w' => e = .returned (.int .i64 (atC c r p)) ∧ Below w.heap.size w w' := by
  have hcv : cv c = .agg #[.int .i64 c.wide, .slice c.a1 c.base.length c.c1, .slice c.a2 c.dflt.length c.c2, .slice c.a3 c.next.length c.c3, .slice c.a4 c.check.length c.c4] := rfl
  rw [hcv]
  obtain ⟨W1, hW1⟩ : ∃ W1, w.alloc (.cells #[.int .i64 c.wide, .slice c.a1 c.base.length c.c1, .slice c.a2 c.dflt.length c.c2, .slice c.a3 c.next.length c.c3, .slice c.a4 c.check.length c.c4] 71 (0, 0)) = W1 := ⟨_, rfl⟩
  have b1 : Below w.heap.size w W1 := by rw [← hW1]; exact (Below.refl _ _).alloc (Nat.le_refl _) _
  have s1 : W1.heap[w.heap.size]? = some (.cells #[.int .i64 c.wide, .slice c.a1 c.base.length c.c1, .slice c.a2 c.dflt.length c.c2, .slice c.a3 c.next.length c.c3, .slice c.a4 c.check.length c.c4] 71 (0, 0)) := by rw [← hW1]; exact heap_alloc_new _ _
  obtain ⟨z0, z1, z2, z3, z4⟩ := box5 s1
  have hI1 := hI.below b1
  obtain ⟨n1, hn1⟩ : ∃ n1, c.base.length = n1 := ⟨_, rfl⟩
  obtain ⟨n4, hn4⟩ : ∃ n4, c.check.length = n4 := ⟨_, rfl⟩
  obtain ⟨b, o, ha1, e1⟩ := rd_i64 hI1.r1 r hr
  obtain ⟨d, o2, ha2, e2⟩ := rd_i64 hI1.r2 r (by omega)
  obtain ⟨B, hB⟩ : ∃ B : Nat, c.base.getD r 0 = (B : Int) := ⟨(c.base.getD r 0).toNat, by omega⟩
  have hat : atC c r p = if B + p < n4 ∧ c.check.getD (B + p) 0 = (r : Int) then c.next.getD (B + p) 0 else c.dflt.getD r 0 := by
    unfold atC
    rw [hB, hn4]
    simp only
    have : ((B : Int) + (p : Int)).toNat = B + p := by omega
    rw [this]
  rw [hB] at e1
  rw [hn1] at hr hd _hl2 z1 ⊢
  rw [ha1] at z1
  rw [hd] at z2
  rw [ha2] at z2
  rw [hn4] at hnx _hl z4 ⊢
  rw [hnx] at z3
  rw [hd, hnx, ha1, ha2] at hW1
  rw [hn1, hn4] at hW1
  rw [hd, hnx, ha1, ha2]
  have hws : IntKind.i64.wrap ((B : Int) + (p : Int)) = (B : Int) + (p : Int) := by rw [IntKind.wrap_i64]; omega
  have hrn : (r : Int) < (n1 : Int) := by omega
  have HW1 := Lib.hid hW1
  have HB1 := Lib.hid b1
  by_cases hs : B + p < n4
  · obtain ⟨g, o4, ha4, e4⟩ := rd_i64 hI1.r4 (B + p) (by omega)
    obtain ⟨f, o3, ha3, e3⟩ := rd_i64 hI1.r3 (B + p) (by omega)
    rw [ha4] at z4 HW1 ⊢
    rw [ha3] at z3 HW1 ⊢
    have hsi : (B : Int) + (p : Int) < (n4 : Int) := by omega
    have htn : ((B : Int) + (p : Int)).toNat = B + p := by omega
    by_cases hc : c.check.getD (B + p) 0 = (r : Int)
    · rw [if_pos ⟨hs, hc⟩] at hat
      rw [hat]
      rw [hc] at e4
      generalize c.next.getD (B + p) 0 = res at *
      clear hat hcv hW1 hI hI1 s1 b1 hB hb hb2 e2 ha1 ha2 ha3 ha4
      go_enter Tryd.func79, Tryd.ntmps79
      go_upto_region 1 with (fail)
      rw [HW1.out]
      go_wp2
      go_ret
      exact ⟨rfl, HB1.out⟩
    · rw [if_neg (fun h => hc h.2)] at hat
      rw [hat]
      generalize c.check.getD (B + p) 0 = ck at *
      have hcb : (ck == (r : Int)) = false := by simpa using hc
      have hcd : decide (ck = (r : Int)) = false := by simpa using hc
      generalize c.dflt.getD r 0 = res at *
      clear hat hcv hW1 hI hI1 s1 b1 hB hb hb2 ha1 ha2 ha3 ha4
      go_enter Tryd.func79, Tryd.ntmps79
      go_upto_region 1 with (fail)
      rw [HW1.out]
      go_wp2
      go_ret
      exact ⟨rfl, HB1.out⟩
  · rw [if_neg (fun h => hs h.1)] at hat
    rw [hat]
    have hsi : ¬ (B : Int) + (p : Int) < (n4 : Int) := by omega
    generalize c.dflt.getD r 0 = res at *
    clear hat hcv hW1 hI hI1 s1 b1 hB hb hb2 ha1 ha2
    go_enter Tryd.func79, Tryd.ntmps79
    go_upto_region 1 with (fail)
    rw [HW1.out]
    go_wp2
    go_ret
    exact ⟨rfl, HB1.out⟩
end Cb
end Go.Proofs.YteekonojmpihlaaDoor
