/- dofferlaw02.MarksKeys returns true. Condition: the table of TrailingZeros64 reads as laid. -/
import Derived.Test.YtfkjijjmphbglaaDoorMarks3
namespace Go.Proofs.YtfkjijjmphbglaaDoor
open Go Go.RowKit Kt
namespace Mk
variable {w w' : World} {p b n : Nat} {ws : List Nat}
theorem put_any (i : Int) (hw : (Lit.int .i64 i).wf = true) (w : World) (h : Is w p b n ws) : Calls Tryd.prog 35 #[.pointer (some ⟨p, 0, none⟩), .int .i64 i] w fun e w' => ∃ r ws', e = .returned (.bool r) ∧ Is w' p b n ws' ∧ Mod [b] w w' := by
  by_cases hi : i < 0 ∨ (n : Int) ≤ i
  · exact (put_out i hi hw w h).mono fun e w' ⟨h1, h2⟩ => ⟨_, ws, h1, h2 ▸ h, h2 ▸ Mod.refl _ _⟩
  · obtain ⟨m, rfl⟩ : ∃ m : Nat, i = (m : Int) := ⟨i.toNat, by omega⟩
    exact (put_c m (by omega) w h).mono fun e w' ⟨h1, h2, h3⟩ => ⟨_, _, h1, h2, h3⟩
theorem ex : keyOf (all (put (List.replicate 1 0) 3)) = [0, 0, 0, 3] ∧ has (List.replicate 1 0) 3 = false := by decide +kernel
set_option maxHeartbeats 1000000 in
set_option maxRecDepth 100000 in
theorem alive_c (w : World) (hT : Bt.Tab w) : Calls Tryd.prog 33 #[] w fun e w' => e = .returned (.bool true) ∧ Below w.heap.size w w' := by
  obtain ⟨x1, x2⟩ := ex
  have hS := Str_list [0, 0, 0, 3]
  have hx1 := Lib.hid x1
  have hx2 := Lib.hid x2
  clear x1 x2
  go_enter Tryd.func33, Tryd.ntmps33
  go_wp2_with fail
  refine (new_c 5 1 (by omega) (by omega) w).mono ?_
  rintro e w1 ⟨p, b, rfl, hp, hb, hI, hB⟩
  have HP := Lib.hid hp
  have HBb := Lib.hid hb
  clear hp hb
  go_wp2_with fail
  refine (put_c 3 (by omega) w1 hI).mono ?_
  rintro e w2 ⟨rfl, hI2, hM⟩
  rw [hx2.out]
  have hB2 : Below w.heap.size w w2 := hB.trans (hM.toBelow hB.size (by have := HBb.out; simpa using this))
  have hk := key_c w2 hI2 (hT.below hB2)
  rw [hx1.out] at hk
  have HK := Lib.hid hk
  have HB := Lib.hid hB2
  clear hI hI2 hB hM hB2 hk hT
  go_wp2_with fail
  refine HK.out.mono ?_
  rintro e w3 ⟨rfl, hb3⟩
  go_wp2
  go_ret
  exact ⟨by first | rfl | simp, HB.out.trans (hb3.mono HB.out.size)⟩
/-- Both sets of the law; what lay ahead of the call stands. -/
structure Tw (w : World) (px bx py b' : Nat) (W : World) : Prop where
  h : ∃ us vs, Is W px bx 300 us ∧ Is W py b' 300 vs
  hB : Below w.heap.size w W
  lx : w.heap.size ≤ bx
  ly : w.heap.size ≤ b'
  s : px ≠ b' ∧ bx ≠ b' ∧ py ≠ bx
theorem Tw.putx {w W : World} {px bx py b' : Nat} (t : Tw w px bx py b' W) (i : Int) (hw : (Lit.int .i64 i).wf = true) : Calls Tryd.prog 35 #[.pointer (some ⟨px, 0, none⟩), .int .i64 i] W fun e W' => (∃ r, e = .returned (.bool r)) ∧ Tw w px bx py b' W' := by
  obtain ⟨us, vs, h1, h2⟩ := t.h
  refine (put_any i hw W h1).mono ?_
  rintro e W' ⟨r, us', rfl, h3, hM⟩
  obtain ⟨s1, s2, s3⟩ := t.s
  exact ⟨⟨r, rfl⟩, ⟨us', vs, h3, h2.mod hM (by simp; exact s3) (by simp; exact fun e => s2 e.symm)⟩, t.hB.trans (hM.toBelow t.hB.size (by have := t.lx; simpa using this)), t.lx, t.ly, t.s⟩
theorem Tw.puty {w W : World} {px bx py b' : Nat} (t : Tw w px bx py b' W) (i : Int) (hw : (Lit.int .i64 i).wf = true) : Calls Tryd.prog 35 #[.pointer (some ⟨py, 0, none⟩), .int .i64 i] W fun e W' => (∃ r, e = .returned (.bool r)) ∧ Tw w px bx py b' W' := by
  obtain ⟨us, vs, h1, h2⟩ := t.h
  refine (put_any i hw W h2).mono ?_
  rintro e W' ⟨r, vs', rfl, h3, hM⟩
  obtain ⟨s1, s2, s3⟩ := t.s
  exact ⟨⟨r, rfl⟩, ⟨us, vs', h1.mod hM (by simp; exact s1) (by simp; exact s2), h3⟩, t.hB.trans (hM.toBelow t.hB.size (by have := t.ly; simpa using this)), t.lx, t.ly, t.s⟩
/-- A loop over a list. -/
def KlR (w : World) (px bx py b' n : Nat) (i : Value) (W : World) : Prop := ∃ k : Nat, k ≤ n ∧ i = .int .i64 (k : Int) ∧ Tw w px bx py b' W

end Mk
end Go.Proofs.YtfkjijjmphbglaaDoor
