/- dofferref12.Parse answers act of a text's words, path by path. Condition: texts of at most 1000000 bytes. (Printed by gen_ract.py.) -/
import Derived.Test.YtmfcabidmacdcaaDoorActRef
import Derived.Test.YtmfcabidmacdcaaDoorRetCell
namespace Go.Proofs.YtmfcabidmacdcaaDoor
open Go Go.RowKit Kt Sp
namespace Ac
variable {w W W' : World}
/-- The document's action in a variable at block r. -/
def Sc (W : World) (r : Nat) (e c : List UInt8) : Prop := W.heap[r]? = some (.cells #[.string (Str e), .string (Str c)] 55 (0, 0))
theorem Sc.cells {r : Nat} {e c : List UInt8} (h : Sc W r e c) : W.cell? ⟨r, 0, none⟩ = some (.string (Str e)) ∧ W.cell? ⟨r, 1, none⟩ = some (.string (Str c)) ∧ W.frozen? ⟨r, 0, none⟩ = false ∧ W.frozen? ⟨r, 1, none⟩ = false :=
  ⟨cell_block h 0, cell_block h 1, frozen_block h 0, frozen_block h 1⟩
theorem Sc.set0 {r : Nat} {e c : List UInt8} (h : Sc W r e c) (x : List UInt8) : Sc (W.setCell ⟨r, 0, none⟩ (.string (Str x))) r x c := block_setCell h _
theorem Sc.set1 {r : Nat} {e c : List UInt8} (h : Sc W r e c) (x : List UInt8) : Sc (W.setCell ⟨r, 1, none⟩ (.string (Str x))) r e x := block_setCell h _
theorem Sc.other {r q : Nat} {e c : List UInt8} (h : Sc W r e c) (hq : r ≠ q) (n : Nat) (v : Value) : Sc (W.setCell ⟨q, n, none⟩ v) r e c := (block_setOther hq v).trans h
/-- The result's variable and the action's variable, both new since w. -/
structure Ar (w W : World) (r a : Nat) (e c e1 c1 : List UInt8) : Prop where
  S0 : Sc W r e c
  S1 : Sc W a e1 c1
  B : Below w.heap.size w W
  ar : a ≠ r
  lr : w.heap.size ≤ r
  la : w.heap.size ≤ a
variable {r a : Nat} {e c e1 c1 : List UInt8}
theorem Ar.seta0 (h : Ar w W r a e c e1 c1) (x : List UInt8) : Ar w (W.setCell ⟨a, 0, none⟩ (.string (Str x))) r a e c x c1 := ⟨h.S0.other h.ar.symm _ _, h.S1.set0 x, h.B.setCell h.la _, h.ar, h.lr, h.la⟩
theorem Ar.seta1 (h : Ar w W r a e c e1 c1) (x : List UInt8) : Ar w (W.setCell ⟨a, 1, none⟩ (.string (Str x))) r a e c e1 x := ⟨h.S0.other h.ar.symm _ _, h.S1.set1 x, h.B.setCell h.la _, h.ar, h.lr, h.la⟩
theorem Ar.set (h : Ar w W r a e c e1 c1) (x y : List UInt8) : Ar w ((W.setCell ⟨r, 0, none⟩ (.string (Str x))).setCell ⟨r, 1, none⟩ (.string (Str y))) r a x y e1 c1 :=
  ⟨(h.S0.set0 x).set1 y, (h.S1.other h.ar _ _).other h.ar _ _, (h.B.setCell (p := ⟨r, 0, none⟩) h.lr _).setCell (p := ⟨r, 1, none⟩) h.lr _, h.ar, h.lr, h.la⟩
theorem Ar.start (w : World) : Ar w ((w.alloc (.cells #[.string ⟨#[]⟩, .string ⟨#[]⟩] 55)).alloc (.cells #[.string ⟨#[]⟩, .string ⟨#[]⟩] 55)) w.heap.size (w.heap.size + 1) [] [] [] [] := by
  have b1 := (Below.refl w.heap.size w).alloc (Nat.le_refl _) (.cells #[.string ⟨#[]⟩, .string ⟨#[]⟩] 55)
  refine ⟨?_, ?_, b1.alloc b1.size _, by omega, Nat.le_refl _, by omega⟩
  · exact block_alloc (heap_alloc_new w (.cells #[.string ⟨#[]⟩, .string ⟨#[]⟩] 55))
  · have := heap_alloc_new (w.alloc (.cells #[.string ⟨#[]⟩, .string ⟨#[]⟩] 55)) (.cells #[.string ⟨#[]⟩, .string ⟨#[]⟩] 55)
    rw [World.size_alloc] at this
    exact this
/-- What the document's reader answers. -/
def rpP (w : World) (x : (List UInt8 × List UInt8) × Nat × Nat) (e : Ending) (w' : World) : Prop :=
  e = .returned (.tuple #[.agg #[.string (Str x.1.1), .string (Str x.1.2)], .int .i64 (x.2.1 : Int), .int .i64 (x.2.2 : Int)]) ∧ Below w.heap.size w w'
theorem jd {s : List UInt8} {k : Nat} {w v : List UInt8} {r : List (List UInt8)} (h : s.drop k = join (w :: v :: r)) : s.drop (k + w.length + 1) = join (v :: r) := by
  rw [Nat.add_assoc, ← List.drop_drop, h]
  show (w ++ 32 :: join (v :: r)).drop (w.length + 1) = _
  rw [← List.drop_drop, List.drop_left]
  rfl
theorem jw {s : List UInt8} {k : Nat} {w : List UInt8} {r : List (List UInt8)} (h : s.drop k = join (w :: r)) (hn : (32 : UInt8) ∉ w) : wd (s.drop k) = w := by
  rw [h]
  cases r with
  | nil => exact wd_one hn
  | cons v r => exact wd_join hn _
theorem jl1 {s : List UInt8} {k : Nat} {w : List UInt8} (h : s.drop k = join [w]) (hk : k ≤ s.length) : s.length = k + w.length := by
  have := congrArg List.length h
  rw [List.length_drop] at this
  simp [join] at this
  omega
theorem jl2 {s : List UInt8} {k : Nat} {w v : List UInt8} {r : List (List UInt8)} (h : s.drop k = join (w :: v :: r)) (hk : k ≤ s.length) : k + w.length + 1 ≤ s.length := by
  have := congrArg List.length h
  rw [List.length_drop] at this
  simp [join] at this
  omega
theorem jl0 {s : List UInt8} {k : Nat} {w : List UInt8} {r : List (List UInt8)} (h : s.drop k = join (w :: r)) (hk : k ≤ s.length) : k + w.length ≤ s.length := by
  cases r with
  | nil => have := jl1 h hk; omega
  | cons v r => have := jl2 h hk; omega
theorem skip_ne' : skipW ≠ emitW := by decide
theorem eq_yes' (s : List UInt8) : ((Str s).toList == s) = true := by rw [Str_list]; simp
theorem eq_no' {s t : List UInt8} (h : s ≠ t) : ((Str s).toList == t) = false := by rw [Str_list]; simpa using h
theorem word_at (s : List UInt8) (hs : s.length ≤ 1000000) {k : Nat} {v : List UInt8} {r : List (List UInt8)} (h : s.drop k = join (v :: r)) (hn : (32 : UInt8) ∉ v) (hk : k ≤ s.length) (K : Int) (hK : K = (k : Int)) (w : World) : Calls Tryd.prog 68 #[.string (Str s), .int .i64 K] w fun e w' => e = .returned (.string (Str v)) ∧ w = w' := by
  subst hK
  have := word_c s hs k hk w
  rwa [jw h hn] at this

set_option maxHeartbeats 4000000 in
set_option maxRecDepth 100000 in
theorem ra_bad {v0 : List UInt8} {r : List (List UInt8)} (h0 : v0 ≠ emitW) (h1 : v0 ≠ skipW) (s : List UInt8) (hs : s = join (v0 :: r)) (hl : s.length ≤ 1000000) (hb : ∀ v ∈ (v0 :: r), (32 : UInt8) ∉ v) (w : World) : Calls Tryd.prog 32 #[.string (Str s)] w (rpP w (act (v0 :: r))) := by
  have hact : act (v0 :: r) = (([], []), 0, 4) := by simp [act, act2, skip_ne', h0, h1]
  rw [hact]
  have d0 : s.drop 0 = join (v0 :: r) := by rw [List.drop_zero, hs]
  have he4 : emitW.length = 4 := rfl
  have hs4 : skipW.length = 4 := rfl
  have hb5 : beginW.length = 5 := rfl
  have hsz := Str_size s
  have m0 : (32 : UInt8) ∉ v0 := hb _ (by simp)
  have hk0 : 0 ≤ s.length := by omega
  have hz0 := Str_size v0
  have hm0 := jl0 d0 hk0
  have hS : ∃ S, Str s = S := ⟨_, rfl⟩
  have hS0 : ∃ S, Str v0 = S := ⟨_, rfl⟩
  have w0 := word_at s hl d0 m0 hk0 (0) (by first | rfl | omega)
  have bzs : (Str s).size ≤ 1000000 := by omega
  have q0 := eq_no' h0
  have q1 := eq_no' h1
  have HF : Hid ((((([], []), 0, 4) : (List UInt8 × List UInt8) × Nat × Nat).2.1 : Int) = 0) := Lib.hid (by simp only [stp]; first | rfl | (simp; done) | (simp; omega))
  have HWd0 := Lib.hid w0
  have hz0' : (Str v0).size = v0.length := hz0
  have hq := Ar.start w
  obtain ⟨W1, hW1⟩ : ∃ W1, ((w.alloc (.cells #[.string ⟨#[]⟩, .string ⟨#[]⟩] 55)).alloc (.cells #[.string ⟨#[]⟩, .string ⟨#[]⟩] 55)) = W1 := ⟨_, rfl⟩
  rw [hW1] at hq
  have HW1 := Lib.hid hW1
  have HQ := Lib.hid hq
  clear hW1 hq hact he4 hs4 hb5 hsz hs hl hb hS hz0' m0 hk0 hz0 hm0 hS0 d0 w0 h0 h1
  simp only [emitW, skipW, beginW] at *
  go_enter Tryd.func32, Tryd.ntmps32
  go_wp2_with fail
  rw [HW1.out]
  obtain ⟨z0, z1, y0, y1⟩ := HQ.out.S0.cells
  obtain ⟨k0, k1, f0', f1'⟩ := HQ.out.S1.cells
  refine (HWd0.out _).mono ?_
  rintro e w2 ⟨rfl, rfl⟩
  have HQ := Lib.hid (HQ.out.set [] [])
  go_wp2
  ((try simp only [Exit.inBlock, Exit.then]); refine bodyPost_ret (Kt.results_cell3_row rfl _ _ (w.heap.size) 55 _ (0, 0) _ rfl (HQ.out.S0) Tryd.underlying55 rfl ?hi1) rfl ?_; (case hi1 => kernel_rfl))
  exact ⟨by rw [HF.out]; rfl, HQ.out.B⟩
set_option maxHeartbeats 4000000 in
set_option maxRecDepth 100000 in
theorem ra_emit_none  (s : List UInt8) (hs : s = join (emitW :: [])) (hl : s.length ≤ 1000000) (hb : ∀ v ∈ (emitW :: []), (32 : UInt8) ∉ v) (w : World) : Calls Tryd.prog 32 #[.string (Str s)] w (rpP w (act (emitW :: []))) := by
  have hact : act (emitW :: []) = (([], []), 4, 2) := by simp [act, act2, skip_ne']
  rw [hact]
  have d0 : s.drop 0 = join (emitW :: []) := by rw [List.drop_zero, hs]
  have he4 : emitW.length = 4 := rfl
  have hs4 : skipW.length = 4 := rfl
  have hb5 : beginW.length = 5 := rfl
  have hsz := Str_size s
  have m0 : (32 : UInt8) ∉ emitW := hb _ (by simp)
  have hk0 : 0 ≤ s.length := by omega
  have hz0 := Str_size emitW
  have hm0 := jl0 d0 hk0
  have hq0 := jl1 d0 hk0
  have hS : ∃ S, Str s = S := ⟨_, rfl⟩
  have hS0 : ∃ S, Str emitW = S := ⟨_, rfl⟩
  have w0 := word_at s hl d0 m0 hk0 (0) (by first | rfl | omega)
  have f1 : ((4 : Int) == ((Str s).size : Int)) = true := by first | (simp; omega) | (simp; done)
  have bzs : (Str s).size ≤ 1000000 := by omega
  have q0 := eq_yes' emitW
  have HF : Hid ((((([], []), 4, 2) : (List UInt8 × List UInt8) × Nat × Nat).2.1 : Int) = 4) := Lib.hid (by simp only [stp]; first | rfl | (simp; done) | (simp; omega))
  have HWd0 := Lib.hid w0
  have hz0' : (Str emitW).size = emitW.length := hz0
  have e4 : (Str emitW).size = 4 := by rw [hz0]; rfl
  have hq := Ar.start w
  obtain ⟨W1, hW1⟩ : ∃ W1, ((w.alloc (.cells #[.string ⟨#[]⟩, .string ⟨#[]⟩] 55)).alloc (.cells #[.string ⟨#[]⟩, .string ⟨#[]⟩] 55)) = W1 := ⟨_, rfl⟩
  rw [hW1] at hq
  have HW1 := Lib.hid hW1
  have HQ := Lib.hid hq
  clear hW1 hq hact he4 hs4 hb5 hsz hs hl hb hS hz0' m0 hk0 hz0 hm0 hS0 d0 hq0 w0
  simp only [emitW, skipW, beginW] at *
  generalize Str [101, 109, 105, 116] = S0 at *
  go_enter Tryd.func32, Tryd.ntmps32
  go_wp2_with fail
  rw [HW1.out]
  obtain ⟨z0, z1, y0, y1⟩ := HQ.out.S0.cells
  obtain ⟨k0, k1, f0', f1'⟩ := HQ.out.S1.cells
  refine (HWd0.out _).mono ?_
  rintro e w2 ⟨rfl, rfl⟩
  have HQ := Lib.hid (HQ.out.set [] [])
  go_wp2
  ((try simp only [Exit.inBlock, Exit.then]); refine bodyPost_ret (Kt.results_cell3_row rfl _ _ (w.heap.size) 55 _ (0, 0) _ rfl (HQ.out.S0) Tryd.underlying55 rfl ?hi2) rfl ?_; (case hi2 => kernel_rfl))
  exact ⟨by rw [HF.out]; rfl, HQ.out.B⟩
set_option maxHeartbeats 4000000 in
set_option maxRecDepth 100000 in
theorem ra_emit_badname {n0 : List UInt8} {r : List (List UInt8)} (g0 : nm n0 = false) (s : List UInt8) (hs : s = join (emitW :: n0 :: r)) (hl : s.length ≤ 1000000) (hb : ∀ v ∈ (emitW :: n0 :: r), (32 : UInt8) ∉ v) (w : World) : Calls Tryd.prog 32 #[.string (Str s)] w (rpP w (act (emitW :: n0 :: r))) := by
  have hact : act (emitW :: n0 :: r) = (([], []), 5, 5) := by simp [act, act2, skip_ne', g0]
  rw [hact]
  have d0 : s.drop 0 = join (emitW :: n0 :: r) := by rw [List.drop_zero, hs]
  have he4 : emitW.length = 4 := rfl
  have hs4 : skipW.length = 4 := rfl
  have hb5 : beginW.length = 5 := rfl
  have hsz := Str_size s
  have m0 : (32 : UInt8) ∉ emitW := hb _ (by simp)
  have hk0 : 0 ≤ s.length := by omega
  have hz0 := Str_size emitW
  have hm0 := jl0 d0 hk0
  have d1 := jd d0
  have hq0 := jl2 d0 hk0
  have m1 : (32 : UInt8) ∉ n0 := hb _ (by simp)
  have hk1 : 0 + emitW.length + 1 ≤ s.length := by have := jl2 d0 hk0; omega
  have hz1 := Str_size n0
  have hm1 := jl0 d1 hk1
  have hS : ∃ S, Str s = S := ⟨_, rfl⟩
  have hS0 : ∃ S, Str emitW = S := ⟨_, rfl⟩
  have hS1 : ∃ S, Str n0 = S := ⟨_, rfl⟩
  have w0 := word_at s hl d0 m0 hk0 (0) (by first | rfl | omega)
  have w1 := word_at s hl d1 m1 hk1 (5) (by first | rfl | omega)
  have f1 : ((4 : Int) == ((Str s).size : Int)) = false := by first | (simp; omega) | (simp; done)
  have i1 := fun w => risname_c n0 (by omega) w
  rw [g0] at i1
  have I1 := Lib.hid i1
  have bz1 : (Str n0).size ≤ 1000000 := by omega
  have bzs : (Str s).size ≤ 1000000 := by omega
  have q0 := eq_yes' emitW
  have HF : Hid ((((([], []), 5, 5) : (List UInt8 × List UInt8) × Nat × Nat).2.1 : Int) = 5) := Lib.hid (by simp only [stp]; first | rfl | (simp; done) | (simp; omega))
  have HWd0 := Lib.hid w0
  have HWd1 := Lib.hid w1
  have hz0' : (Str emitW).size = emitW.length := hz0
  have e4 : (Str emitW).size = 4 := by rw [hz0]; rfl
  have hq := Ar.start w
  obtain ⟨W1, hW1⟩ : ∃ W1, ((w.alloc (.cells #[.string ⟨#[]⟩, .string ⟨#[]⟩] 55)).alloc (.cells #[.string ⟨#[]⟩, .string ⟨#[]⟩] 55)) = W1 := ⟨_, rfl⟩
  rw [hW1] at hq
  have HW1 := Lib.hid hW1
  have HQ := Lib.hid hq
  clear hW1 hq hact he4 hs4 hb5 hsz hs hl hb hS hz0' m0 hk0 hz0 hm0 hS0 d0 hq0 w0 m1 hk1 hz1 hm1 hS1 d1 w1 i1 g0
  simp only [emitW, skipW, beginW] at *
  generalize Str [101, 109, 105, 116] = S0 at *
  go_enter Tryd.func32, Tryd.ntmps32
  go_wp2_with fail
  rw [HW1.out]
  obtain ⟨z0, z1, y0, y1⟩ := HQ.out.S0.cells
  obtain ⟨k0, k1, f0', f1'⟩ := HQ.out.S1.cells
  refine (HWd0.out _).mono ?_
  rintro e w2 ⟨rfl, rfl⟩
  go_wp2_with fail
  refine (HWd1.out _).mono ?_
  rintro e w2 ⟨rfl, rfl⟩
  have HQ := Lib.hid (HQ.out.seta0 n0)
  go_wp2_with fail
  refine (I1.out _).mono ?_
  rintro e w2 ⟨rfl, rfl⟩
  have HQ := Lib.hid (HQ.out.set [] [])
  go_wp2
  ((try simp only [Exit.inBlock, Exit.then]); refine bodyPost_ret (Kt.results_cell3_row rfl _ _ (w.heap.size) 55 _ (0, 0) _ rfl (HQ.out.S0) Tryd.underlying55 rfl ?hi3) rfl ?_; (case hi3 => kernel_rfl))
  exact ⟨by rw [HF.out]; rfl, HQ.out.B⟩
set_option maxHeartbeats 4000000 in
set_option maxRecDepth 100000 in
theorem ra_emit_name_end {n0 : List UInt8} (g0 : nm n0 = true) (s : List UInt8) (hs : s = join (emitW :: n0 :: [])) (hl : s.length ≤ 1000000) (hb : ∀ v ∈ (emitW :: n0 :: []), (32 : UInt8) ∉ v) (w : World) : Calls Tryd.prog 32 #[.string (Str s)] w (rpP w (act (emitW :: n0 :: []))) := by
  have hact : act (emitW :: n0 :: []) = ((n0, []), 5 + stp n0 ([]), 0) := by simp [act, act2, skip_ne', g0]
  rw [hact]
  have d0 : s.drop 0 = join (emitW :: n0 :: []) := by rw [List.drop_zero, hs]
  have he4 : emitW.length = 4 := rfl
  have hs4 : skipW.length = 4 := rfl
  have hb5 : beginW.length = 5 := rfl
  have hsz := Str_size s
  have m0 : (32 : UInt8) ∉ emitW := hb _ (by simp)
  have hk0 : 0 ≤ s.length := by omega
  have hz0 := Str_size emitW
  have hm0 := jl0 d0 hk0
  have d1 := jd d0
  have hq0 := jl2 d0 hk0
  have m1 : (32 : UInt8) ∉ n0 := hb _ (by simp)
  have hk1 : 0 + emitW.length + 1 ≤ s.length := by have := jl2 d0 hk0; omega
  have hz1 := Str_size n0
  have hm1 := jl0 d1 hk1
  have hq1 := jl1 d1 hk1
  have hS : ∃ S, Str s = S := ⟨_, rfl⟩
  have hS0 : ∃ S, Str emitW = S := ⟨_, rfl⟩
  have hS1 : ∃ S, Str n0 = S := ⟨_, rfl⟩
  have w0 := word_at s hl d0 m0 hk0 (0) (by first | rfl | omega)
  have w1 := word_at s hl d1 m1 hk1 (5) (by first | rfl | omega)
  have f1 : ((4 : Int) == ((Str s).size : Int)) = false := by first | (simp; omega) | (simp; done)
  have f2 : ((4 + (1 + ((Str n0).size : Int)) : Int) == ((Str s).size : Int)) = true := by first | (simp; omega) | (simp; done)
  have i1 := fun w => risname_c n0 (by omega) w
  rw [g0] at i1
  have I1 := Lib.hid i1
  have bz1 : (Str n0).size ≤ 1000000 := by omega
  have bzs : (Str s).size ≤ 1000000 := by omega
  have q0 := eq_yes' emitW
  have HF : Hid (((((n0, []), 5 + stp n0 ([]), 0) : (List UInt8 × List UInt8) × Nat × Nat).2.1 : Int) = 4 + (1 + ((Str n0).size : Int))) := Lib.hid (by simp only [stp]; first | rfl | (simp; done) | (simp; omega))
  have HWd0 := Lib.hid w0
  have HWd1 := Lib.hid w1
  have hz0' : (Str emitW).size = emitW.length := hz0
  have e4 : (Str emitW).size = 4 := by rw [hz0]; rfl
  have hq := Ar.start w
  obtain ⟨W1, hW1⟩ : ∃ W1, ((w.alloc (.cells #[.string ⟨#[]⟩, .string ⟨#[]⟩] 55)).alloc (.cells #[.string ⟨#[]⟩, .string ⟨#[]⟩] 55)) = W1 := ⟨_, rfl⟩
  rw [hW1] at hq
  have HW1 := Lib.hid hW1
  have HQ := Lib.hid hq
  clear hW1 hq hact he4 hs4 hb5 hsz hs hl hb hS hz0' m0 hk0 hz0 hm0 hS0 d0 hq0 w0 m1 hk1 hz1 hm1 hS1 d1 hq1 w1 i1 g0
  simp only [emitW, skipW, beginW] at *
  generalize Str [101, 109, 105, 116] = S0 at *
  go_enter Tryd.func32, Tryd.ntmps32
  go_wp2_with fail
  rw [HW1.out]
  obtain ⟨z0, z1, y0, y1⟩ := HQ.out.S0.cells
  obtain ⟨k0, k1, f0', f1'⟩ := HQ.out.S1.cells
  refine (HWd0.out _).mono ?_
  rintro e w2 ⟨rfl, rfl⟩
  go_wp2_with fail
  refine (HWd1.out _).mono ?_
  rintro e w2 ⟨rfl, rfl⟩
  have HQ := Lib.hid (HQ.out.seta0 n0)
  go_wp2_with fail
  refine (I1.out _).mono ?_
  rintro e w2 ⟨rfl, rfl⟩
  have HQ := Lib.hid (HQ.out.set n0 [])
  go_wp2
  ((try simp only [Exit.inBlock, Exit.then]); refine bodyPost_ret (Kt.results_cell3_row rfl _ _ (w.heap.size) 55 _ (0, 0) _ rfl (HQ.out.S0) Tryd.underlying55 rfl ?hi4) rfl ?_; (case hi4 => kernel_rfl))
  exact ⟨by rw [HF.out]; rfl, HQ.out.B⟩
set_option maxHeartbeats 4000000 in
set_option maxRecDepth 100000 in
theorem ra_emit_name_x {n0 v1 : List UInt8} {r : List (List UInt8)} (g0 : nm n0 = true) (h2 : v1 ≠ beginW) (s : List UInt8) (hs : s = join (emitW :: n0 :: v1 :: r)) (hl : s.length ≤ 1000000) (hb : ∀ v ∈ (emitW :: n0 :: v1 :: r), (32 : UInt8) ∉ v) (w : World) : Calls Tryd.prog 32 #[.string (Str s)] w (rpP w (act (emitW :: n0 :: v1 :: r))) := by
  have hact : act (emitW :: n0 :: v1 :: r) = (([], []), 5 + stp n0 (v1 :: r), 4) := by simp [act, act2, skip_ne', g0, h2]
  rw [hact]
  have d0 : s.drop 0 = join (emitW :: n0 :: v1 :: r) := by rw [List.drop_zero, hs]
  have he4 : emitW.length = 4 := rfl
  have hs4 : skipW.length = 4 := rfl
  have hb5 : beginW.length = 5 := rfl
  have hsz := Str_size s
  have m0 : (32 : UInt8) ∉ emitW := hb _ (by simp)
  have hk0 : 0 ≤ s.length := by omega
  have hz0 := Str_size emitW
  have hm0 := jl0 d0 hk0
  have d1 := jd d0
  have hq0 := jl2 d0 hk0
  have m1 : (32 : UInt8) ∉ n0 := hb _ (by simp)
  have hk1 : 0 + emitW.length + 1 ≤ s.length := by have := jl2 d0 hk0; omega
  have hz1 := Str_size n0
  have hm1 := jl0 d1 hk1
  have d2 := jd d1
  have hq1 := jl2 d1 hk1
  have m2 : (32 : UInt8) ∉ v1 := hb _ (by simp)
  have hk2 : 0 + emitW.length + 1 + n0.length + 1 ≤ s.length := by have := jl2 d1 hk1; omega
  have hz2 := Str_size v1
  have hm2 := jl0 d2 hk2
  have hS : ∃ S, Str s = S := ⟨_, rfl⟩
  have hS0 : ∃ S, Str emitW = S := ⟨_, rfl⟩
  have hS1 : ∃ S, Str n0 = S := ⟨_, rfl⟩
  have hS2 : ∃ S, Str v1 = S := ⟨_, rfl⟩
  have w0 := word_at s hl d0 m0 hk0 (0) (by first | rfl | omega)
  have w1 := word_at s hl d1 m1 hk1 (5) (by first | rfl | omega)
  have w2 := word_at s hl d2 m2 hk2 (4 + (1 + ((Str n0).size : Int)) + 1) (by first | rfl | omega)
  have f1 : ((4 : Int) == ((Str s).size : Int)) = false := by first | (simp; omega) | (simp; done)
  have f2 : ((4 + (1 + ((Str n0).size : Int)) : Int) == ((Str s).size : Int)) = false := by first | (simp; omega) | (simp; done)
  have i1 := fun w => risname_c n0 (by omega) w
  rw [g0] at i1
  have I1 := Lib.hid i1
  have bz1 : (Str n0).size ≤ 1000000 := by omega
  have bzs : (Str s).size ≤ 1000000 := by omega
  have q0 := eq_yes' emitW
  have q2 := eq_no' h2
  have HF : Hid ((((([], []), 5 + stp n0 (v1 :: r), 4) : (List UInt8 × List UInt8) × Nat × Nat).2.1 : Int) = 4 + (1 + ((Str n0).size : Int)) + 1) := Lib.hid (by simp only [stp]; first | rfl | (simp; done) | (simp; omega))
  have HWd0 := Lib.hid w0
  have HWd1 := Lib.hid w1
  have HWd2 := Lib.hid w2
  have hz0' : (Str emitW).size = emitW.length := hz0
  have e4 : (Str emitW).size = 4 := by rw [hz0]; rfl
  have hq := Ar.start w
  obtain ⟨W1, hW1⟩ : ∃ W1, ((w.alloc (.cells #[.string ⟨#[]⟩, .string ⟨#[]⟩] 55)).alloc (.cells #[.string ⟨#[]⟩, .string ⟨#[]⟩] 55)) = W1 := ⟨_, rfl⟩
  rw [hW1] at hq
  have HW1 := Lib.hid hW1
  have HQ := Lib.hid hq
  clear hW1 hq hact he4 hs4 hb5 hsz hs hl hb hS hz0' m0 hk0 hz0 hm0 hS0 d0 hq0 w0 m1 hk1 hz1 hm1 hS1 d1 hq1 w1 i1 m2 hk2 hz2 hm2 hS2 d2 w2 g0 h2
  simp only [emitW, skipW, beginW] at *
  generalize Str [101, 109, 105, 116] = S0 at *
  go_enter Tryd.func32, Tryd.ntmps32
  go_wp2_with fail
  rw [HW1.out]
  obtain ⟨z0, z1, y0, y1⟩ := HQ.out.S0.cells
  obtain ⟨k0, k1, f0', f1'⟩ := HQ.out.S1.cells
  refine (HWd0.out _).mono ?_
  rintro e w2 ⟨rfl, rfl⟩
  go_wp2_with fail
  refine (HWd1.out _).mono ?_
  rintro e w2 ⟨rfl, rfl⟩
  have HQ := Lib.hid (HQ.out.seta0 n0)
  go_wp2_with fail
  refine (I1.out _).mono ?_
  rintro e w2 ⟨rfl, rfl⟩
  go_wp2_with fail
  refine (HWd2.out _).mono ?_
  rintro e w2 ⟨rfl, rfl⟩
  have HQ := Lib.hid (HQ.out.set [] [])
  go_wp2
  ((try simp only [Exit.inBlock, Exit.then]); refine bodyPost_ret (Kt.results_cell3_row rfl _ _ (w.heap.size) 55 _ (0, 0) _ rfl (HQ.out.S0) Tryd.underlying55 rfl ?hi5) rfl ?_; (case hi5 => kernel_rfl))
  exact ⟨by rw [HF.out]; rfl, HQ.out.B⟩
set_option maxHeartbeats 4000000 in
set_option maxRecDepth 100000 in
theorem ra_emit_name_begin_none {n0 : List UInt8} (g0 : nm n0 = true) (s : List UInt8) (hs : s = join (emitW :: n0 :: beginW :: [])) (hl : s.length ≤ 1000000) (hb : ∀ v ∈ (emitW :: n0 :: beginW :: []), (32 : UInt8) ∉ v) (w : World) : Calls Tryd.prog 32 #[.string (Str s)] w (rpP w (act (emitW :: n0 :: beginW :: []))) := by
  have hact : act (emitW :: n0 :: beginW :: []) = (([], []), 5 + stp n0 (beginW :: []) + 5, 2) := by simp [act, act2, skip_ne', g0]
  rw [hact]
  have d0 : s.drop 0 = join (emitW :: n0 :: beginW :: []) := by rw [List.drop_zero, hs]
  have he4 : emitW.length = 4 := rfl
  have hs4 : skipW.length = 4 := rfl
  have hb5 : beginW.length = 5 := rfl
  have hsz := Str_size s
  have m0 : (32 : UInt8) ∉ emitW := hb _ (by simp)
  have hk0 : 0 ≤ s.length := by omega
  have hz0 := Str_size emitW
  have hm0 := jl0 d0 hk0
  have d1 := jd d0
  have hq0 := jl2 d0 hk0
  have m1 : (32 : UInt8) ∉ n0 := hb _ (by simp)
  have hk1 : 0 + emitW.length + 1 ≤ s.length := by have := jl2 d0 hk0; omega
  have hz1 := Str_size n0
  have hm1 := jl0 d1 hk1
  have d2 := jd d1
  have hq1 := jl2 d1 hk1
  have m2 : (32 : UInt8) ∉ beginW := hb _ (by simp)
  have hk2 : 0 + emitW.length + 1 + n0.length + 1 ≤ s.length := by have := jl2 d1 hk1; omega
  have hz2 := Str_size beginW
  have hm2 := jl0 d2 hk2
  have hq2 := jl1 d2 hk2
  have hS : ∃ S, Str s = S := ⟨_, rfl⟩
  have hS0 : ∃ S, Str emitW = S := ⟨_, rfl⟩
  have hS1 : ∃ S, Str n0 = S := ⟨_, rfl⟩
  have hS2 : ∃ S, Str beginW = S := ⟨_, rfl⟩
  have w0 := word_at s hl d0 m0 hk0 (0) (by first | rfl | omega)
  have w1 := word_at s hl d1 m1 hk1 (5) (by first | rfl | omega)
  have w2 := word_at s hl d2 m2 hk2 (4 + (1 + ((Str n0).size : Int)) + 1) (by first | rfl | omega)
  have f1 : ((4 : Int) == ((Str s).size : Int)) = false := by first | (simp; omega) | (simp; done)
  have f2 : ((4 + (1 + ((Str n0).size : Int)) : Int) == ((Str s).size : Int)) = false := by first | (simp; omega) | (simp; done)
  have f3 : ((4 + (1 + ((Str n0).size : Int)) + 6 : Int) == ((Str s).size : Int)) = true := by first | (simp; omega) | (simp; done)
  have i1 := fun w => risname_c n0 (by omega) w
  rw [g0] at i1
  have I1 := Lib.hid i1
  have bz1 : (Str n0).size ≤ 1000000 := by omega
  have bzs : (Str s).size ≤ 1000000 := by omega
  have q0 := eq_yes' emitW
  have q2 := eq_yes' beginW
  have HF : Hid ((((([], []), 5 + stp n0 (beginW :: []) + 5, 2) : (List UInt8 × List UInt8) × Nat × Nat).2.1 : Int) = 4 + (1 + ((Str n0).size : Int)) + 6) := Lib.hid (by simp only [stp]; first | rfl | (simp; done) | (simp; omega))
  have HWd0 := Lib.hid w0
  have HWd1 := Lib.hid w1
  have HWd2 := Lib.hid w2
  have hz0' : (Str emitW).size = emitW.length := hz0
  have e4 : (Str emitW).size = 4 := by rw [hz0]; rfl
  have hq := Ar.start w
  obtain ⟨W1, hW1⟩ : ∃ W1, ((w.alloc (.cells #[.string ⟨#[]⟩, .string ⟨#[]⟩] 55)).alloc (.cells #[.string ⟨#[]⟩, .string ⟨#[]⟩] 55)) = W1 := ⟨_, rfl⟩
  rw [hW1] at hq
  have HW1 := Lib.hid hW1
  have HQ := Lib.hid hq
  clear hW1 hq hact he4 hs4 hb5 hsz hs hl hb hS hz0' m0 hk0 hz0 hm0 hS0 d0 hq0 w0 m1 hk1 hz1 hm1 hS1 d1 hq1 w1 i1 m2 hk2 hz2 hm2 hS2 d2 hq2 w2 g0
  simp only [emitW, skipW, beginW] at *
  generalize Str [101, 109, 105, 116] = S0 at *
  generalize Str [98, 101, 103, 105, 110] = S2 at *
  go_enter Tryd.func32, Tryd.ntmps32
  go_wp2_with fail
  rw [HW1.out]
  obtain ⟨z0, z1, y0, y1⟩ := HQ.out.S0.cells
  obtain ⟨k0, k1, f0', f1'⟩ := HQ.out.S1.cells
  refine (HWd0.out _).mono ?_
  rintro e w2 ⟨rfl, rfl⟩
  go_wp2_with fail
  refine (HWd1.out _).mono ?_
  rintro e w2 ⟨rfl, rfl⟩
  have HQ := Lib.hid (HQ.out.seta0 n0)
  go_wp2_with fail
  refine (I1.out _).mono ?_
  rintro e w2 ⟨rfl, rfl⟩
  go_wp2_with fail
  refine (HWd2.out _).mono ?_
  rintro e w2 ⟨rfl, rfl⟩
  have HQ := Lib.hid (HQ.out.set [] [])
  go_wp2
  ((try simp only [Exit.inBlock, Exit.then]); refine bodyPost_ret (Kt.results_cell3_row rfl _ _ (w.heap.size) 55 _ (0, 0) _ rfl (HQ.out.S0) Tryd.underlying55 rfl ?hi6) rfl ?_; (case hi6 => kernel_rfl))
  exact ⟨by rw [HF.out]; rfl, HQ.out.B⟩
set_option maxHeartbeats 4000000 in
set_option maxRecDepth 100000 in
theorem ra_emit_name_begin_badname {n0 n1 : List UInt8} {r : List (List UInt8)} (g0 : nm n0 = true) (g1 : nm n1 = false) (s : List UInt8) (hs : s = join (emitW :: n0 :: beginW :: n1 :: r)) (hl : s.length ≤ 1000000) (hb : ∀ v ∈ (emitW :: n0 :: beginW :: n1 :: r), (32 : UInt8) ∉ v) (w : World) : Calls Tryd.prog 32 #[.string (Str s)] w (rpP w (act (emitW :: n0 :: beginW :: n1 :: r))) := by
  have hact : act (emitW :: n0 :: beginW :: n1 :: r) = (([], []), 5 + stp n0 (beginW :: n1 :: r) + 6, 5) := by simp [act, act2, skip_ne', g0, g1]
  rw [hact]
  have d0 : s.drop 0 = join (emitW :: n0 :: beginW :: n1 :: r) := by rw [List.drop_zero, hs]
  have he4 : emitW.length = 4 := rfl
  have hs4 : skipW.length = 4 := rfl
  have hb5 : beginW.length = 5 := rfl
  have hsz := Str_size s
  have m0 : (32 : UInt8) ∉ emitW := hb _ (by simp)
  have hk0 : 0 ≤ s.length := by omega
  have hz0 := Str_size emitW
  have hm0 := jl0 d0 hk0
  have d1 := jd d0
  have hq0 := jl2 d0 hk0
  have m1 : (32 : UInt8) ∉ n0 := hb _ (by simp)
  have hk1 : 0 + emitW.length + 1 ≤ s.length := by have := jl2 d0 hk0; omega
  have hz1 := Str_size n0
  have hm1 := jl0 d1 hk1
  have d2 := jd d1
  have hq1 := jl2 d1 hk1
  have m2 : (32 : UInt8) ∉ beginW := hb _ (by simp)
  have hk2 : 0 + emitW.length + 1 + n0.length + 1 ≤ s.length := by have := jl2 d1 hk1; omega
  have hz2 := Str_size beginW
  have hm2 := jl0 d2 hk2
  have d3 := jd d2
  have hq2 := jl2 d2 hk2
  have m3 : (32 : UInt8) ∉ n1 := hb _ (by simp)
  have hk3 : 0 + emitW.length + 1 + n0.length + 1 + beginW.length + 1 ≤ s.length := by have := jl2 d2 hk2; omega
  have hz3 := Str_size n1
  have hm3 := jl0 d3 hk3
  have hS : ∃ S, Str s = S := ⟨_, rfl⟩
  have hS0 : ∃ S, Str emitW = S := ⟨_, rfl⟩
  have hS1 : ∃ S, Str n0 = S := ⟨_, rfl⟩
  have hS2 : ∃ S, Str beginW = S := ⟨_, rfl⟩
  have hS3 : ∃ S, Str n1 = S := ⟨_, rfl⟩
  have w0 := word_at s hl d0 m0 hk0 (0) (by first | rfl | omega)
  have w1 := word_at s hl d1 m1 hk1 (5) (by first | rfl | omega)
  have w2 := word_at s hl d2 m2 hk2 (4 + (1 + ((Str n0).size : Int)) + 1) (by first | rfl | omega)
  have w3 := word_at s hl d3 m3 hk3 (4 + (1 + ((Str n0).size : Int)) + 6 + 1) (by first | rfl | omega)
  have f1 : ((4 : Int) == ((Str s).size : Int)) = false := by first | (simp; omega) | (simp; done)
  have f2 : ((4 + (1 + ((Str n0).size : Int)) : Int) == ((Str s).size : Int)) = false := by first | (simp; omega) | (simp; done)
  have f3 : ((4 + (1 + ((Str n0).size : Int)) + 6 : Int) == ((Str s).size : Int)) = false := by first | (simp; omega) | (simp; done)
  have i1 := fun w => risname_c n0 (by omega) w
  rw [g0] at i1
  have I1 := Lib.hid i1
  have i3 := fun w => risname_c n1 (by omega) w
  rw [g1] at i3
  have I3 := Lib.hid i3
  have bz1 : (Str n0).size ≤ 1000000 := by omega
  have bz3 : (Str n1).size ≤ 1000000 := by omega
  have bzs : (Str s).size ≤ 1000000 := by omega
  have q0 := eq_yes' emitW
  have q2 := eq_yes' beginW
  have HF : Hid ((((([], []), 5 + stp n0 (beginW :: n1 :: r) + 6, 5) : (List UInt8 × List UInt8) × Nat × Nat).2.1 : Int) = 4 + (1 + ((Str n0).size : Int)) + 6 + 1) := Lib.hid (by simp only [stp]; first | rfl | (simp; done) | (simp; omega))
  have HWd0 := Lib.hid w0
  have HWd1 := Lib.hid w1
  have HWd2 := Lib.hid w2
  have HWd3 := Lib.hid w3
  have hz0' : (Str emitW).size = emitW.length := hz0
  have e4 : (Str emitW).size = 4 := by rw [hz0]; rfl
  have hq := Ar.start w
  obtain ⟨W1, hW1⟩ : ∃ W1, ((w.alloc (.cells #[.string ⟨#[]⟩, .string ⟨#[]⟩] 55)).alloc (.cells #[.string ⟨#[]⟩, .string ⟨#[]⟩] 55)) = W1 := ⟨_, rfl⟩
  rw [hW1] at hq
  have HW1 := Lib.hid hW1
  have HQ := Lib.hid hq
  clear hW1 hq hact he4 hs4 hb5 hsz hs hl hb hS hz0' m0 hk0 hz0 hm0 hS0 d0 hq0 w0 m1 hk1 hz1 hm1 hS1 d1 hq1 w1 i1 m2 hk2 hz2 hm2 hS2 d2 hq2 w2 m3 hk3 hz3 hm3 hS3 d3 w3 i3 g0 g1
  simp only [emitW, skipW, beginW] at *
  generalize Str [101, 109, 105, 116] = S0 at *
  generalize Str [98, 101, 103, 105, 110] = S2 at *
  go_enter Tryd.func32, Tryd.ntmps32
  go_wp2_with fail
  rw [HW1.out]
  obtain ⟨z0, z1, y0, y1⟩ := HQ.out.S0.cells
  obtain ⟨k0, k1, f0', f1'⟩ := HQ.out.S1.cells
  refine (HWd0.out _).mono ?_
  rintro e w2 ⟨rfl, rfl⟩
  go_wp2_with fail
  refine (HWd1.out _).mono ?_
  rintro e w2 ⟨rfl, rfl⟩
  have HQ := Lib.hid (HQ.out.seta0 n0)
  go_wp2_with fail
  refine (I1.out _).mono ?_
  rintro e w2 ⟨rfl, rfl⟩
  go_wp2_with fail
  refine (HWd2.out _).mono ?_
  rintro e w2 ⟨rfl, rfl⟩
  go_wp2_with fail
  refine (HWd3.out _).mono ?_
  rintro e w2 ⟨rfl, rfl⟩
  have HQ := Lib.hid (HQ.out.seta1 n1)
  go_wp2_with fail
  refine (I3.out _).mono ?_
  rintro e w2 ⟨rfl, rfl⟩
  have HQ := Lib.hid (HQ.out.set [] [])
  go_wp2
  ((try simp only [Exit.inBlock, Exit.then]); refine bodyPost_ret (Kt.results_cell3_row rfl _ _ (w.heap.size) 55 _ (0, 0) _ rfl (HQ.out.S0) Tryd.underlying55 rfl ?hi7) rfl ?_; (case hi7 => kernel_rfl))
  exact ⟨by rw [HF.out]; rfl, HQ.out.B⟩
set_option maxHeartbeats 4000000 in
set_option maxRecDepth 100000 in
theorem ra_emit_name_begin_name_end {n0 n1 : List UInt8} (g0 : nm n0 = true) (g1 : nm n1 = true) (s : List UInt8) (hs : s = join (emitW :: n0 :: beginW :: n1 :: [])) (hl : s.length ≤ 1000000) (hb : ∀ v ∈ (emitW :: n0 :: beginW :: n1 :: []), (32 : UInt8) ∉ v) (w : World) : Calls Tryd.prog 32 #[.string (Str s)] w (rpP w (act (emitW :: n0 :: beginW :: n1 :: []))) := by
  have hact : act (emitW :: n0 :: beginW :: n1 :: []) = ((n0, n1), 5 + stp n0 (beginW :: n1 :: []) + 6 + n1.length, 0) := by simp [act, act2, skip_ne', g0, g1]
  rw [hact]
  have d0 : s.drop 0 = join (emitW :: n0 :: beginW :: n1 :: []) := by rw [List.drop_zero, hs]
  have he4 : emitW.length = 4 := rfl
  have hs4 : skipW.length = 4 := rfl
  have hb5 : beginW.length = 5 := rfl
  have hsz := Str_size s
  have m0 : (32 : UInt8) ∉ emitW := hb _ (by simp)
  have hk0 : 0 ≤ s.length := by omega
  have hz0 := Str_size emitW
  have hm0 := jl0 d0 hk0
  have d1 := jd d0
  have hq0 := jl2 d0 hk0
  have m1 : (32 : UInt8) ∉ n0 := hb _ (by simp)
  have hk1 : 0 + emitW.length + 1 ≤ s.length := by have := jl2 d0 hk0; omega
  have hz1 := Str_size n0
  have hm1 := jl0 d1 hk1
  have d2 := jd d1
  have hq1 := jl2 d1 hk1
  have m2 : (32 : UInt8) ∉ beginW := hb _ (by simp)
  have hk2 : 0 + emitW.length + 1 + n0.length + 1 ≤ s.length := by have := jl2 d1 hk1; omega
  have hz2 := Str_size beginW
  have hm2 := jl0 d2 hk2
  have d3 := jd d2
  have hq2 := jl2 d2 hk2
  have m3 : (32 : UInt8) ∉ n1 := hb _ (by simp)
  have hk3 : 0 + emitW.length + 1 + n0.length + 1 + beginW.length + 1 ≤ s.length := by have := jl2 d2 hk2; omega
  have hz3 := Str_size n1
  have hm3 := jl0 d3 hk3
  have hq3 := jl1 d3 hk3
  have hS : ∃ S, Str s = S := ⟨_, rfl⟩
  have hS0 : ∃ S, Str emitW = S := ⟨_, rfl⟩
  have hS1 : ∃ S, Str n0 = S := ⟨_, rfl⟩
  have hS2 : ∃ S, Str beginW = S := ⟨_, rfl⟩
  have hS3 : ∃ S, Str n1 = S := ⟨_, rfl⟩
  have w0 := word_at s hl d0 m0 hk0 (0) (by first | rfl | omega)
  have w1 := word_at s hl d1 m1 hk1 (5) (by first | rfl | omega)
  have w2 := word_at s hl d2 m2 hk2 (4 + (1 + ((Str n0).size : Int)) + 1) (by first | rfl | omega)
  have w3 := word_at s hl d3 m3 hk3 (4 + (1 + ((Str n0).size : Int)) + 6 + 1) (by first | rfl | omega)
  have f1 : ((4 : Int) == ((Str s).size : Int)) = false := by first | (simp; omega) | (simp; done)
  have f2 : ((4 + (1 + ((Str n0).size : Int)) : Int) == ((Str s).size : Int)) = false := by first | (simp; omega) | (simp; done)
  have f3 : ((4 + (1 + ((Str n0).size : Int)) + 6 : Int) == ((Str s).size : Int)) = false := by first | (simp; omega) | (simp; done)
  have f4 : ¬ (4 + (1 + ((Str n0).size : Int)) + 6 + (1 + ((Str n1).size : Int)) < ((Str s).size : Int)) := by omega
  have i1 := fun w => risname_c n0 (by omega) w
  rw [g0] at i1
  have I1 := Lib.hid i1
  have i3 := fun w => risname_c n1 (by omega) w
  rw [g1] at i3
  have I3 := Lib.hid i3
  have bz1 : (Str n0).size ≤ 1000000 := by omega
  have bz3 : (Str n1).size ≤ 1000000 := by omega
  have bzs : (Str s).size ≤ 1000000 := by omega
  have q0 := eq_yes' emitW
  have q2 := eq_yes' beginW
  have HF : Hid (((((n0, n1), 5 + stp n0 (beginW :: n1 :: []) + 6 + n1.length, 0) : (List UInt8 × List UInt8) × Nat × Nat).2.1 : Int) = 4 + (1 + ((Str n0).size : Int)) + 6 + (1 + ((Str n1).size : Int))) := Lib.hid (by simp only [stp]; first | rfl | (simp; done) | (simp; omega))
  have HWd0 := Lib.hid w0
  have HWd1 := Lib.hid w1
  have HWd2 := Lib.hid w2
  have HWd3 := Lib.hid w3
  have hz0' : (Str emitW).size = emitW.length := hz0
  have e4 : (Str emitW).size = 4 := by rw [hz0]; rfl
  have hq := Ar.start w
  obtain ⟨W1, hW1⟩ : ∃ W1, ((w.alloc (.cells #[.string ⟨#[]⟩, .string ⟨#[]⟩] 55)).alloc (.cells #[.string ⟨#[]⟩, .string ⟨#[]⟩] 55)) = W1 := ⟨_, rfl⟩
  rw [hW1] at hq
  have HW1 := Lib.hid hW1
  have HQ := Lib.hid hq
  clear hW1 hq hact he4 hs4 hb5 hsz hs hl hb hS hz0' m0 hk0 hz0 hm0 hS0 d0 hq0 w0 m1 hk1 hz1 hm1 hS1 d1 hq1 w1 i1 m2 hk2 hz2 hm2 hS2 d2 hq2 w2 m3 hk3 hz3 hm3 hS3 d3 hq3 w3 i3 g0 g1
  simp only [emitW, skipW, beginW] at *
  generalize Str [101, 109, 105, 116] = S0 at *
  generalize Str [98, 101, 103, 105, 110] = S2 at *
  go_enter Tryd.func32, Tryd.ntmps32
  go_wp2_with fail
  rw [HW1.out]
  obtain ⟨z0, z1, y0, y1⟩ := HQ.out.S0.cells
  obtain ⟨k0, k1, f0', f1'⟩ := HQ.out.S1.cells
  refine (HWd0.out _).mono ?_
  rintro e w2 ⟨rfl, rfl⟩
  go_wp2_with fail
  refine (HWd1.out _).mono ?_
  rintro e w2 ⟨rfl, rfl⟩
  have HQ := Lib.hid (HQ.out.seta0 n0)
  go_wp2_with fail
  refine (I1.out _).mono ?_
  rintro e w2 ⟨rfl, rfl⟩
  go_wp2_with fail
  refine (HWd2.out _).mono ?_
  rintro e w2 ⟨rfl, rfl⟩
  go_wp2_with fail
  refine (HWd3.out _).mono ?_
  rintro e w2 ⟨rfl, rfl⟩
  have HQ := Lib.hid (HQ.out.seta1 n1)
  go_wp2_with fail
  refine (I3.out _).mono ?_
  rintro e w2 ⟨rfl, rfl⟩
  have HQ := Lib.hid (HQ.out.set n0 n1)
  go_wp2
  ((try simp only [Exit.inBlock, Exit.then]); refine bodyPost_ret (Kt.results_cell3_row rfl _ _ (w.heap.size) 55 _ (0, 0) _ rfl (HQ.out.S0) Tryd.underlying55 rfl ?hi8) rfl ?_; (case hi8 => kernel_rfl))
  exact ⟨by rw [HF.out]; rfl, HQ.out.B⟩
set_option maxHeartbeats 4000000 in
set_option maxRecDepth 100000 in
theorem ra_emit_name_begin_name_more {n0 n1 v2 : List UInt8} {r : List (List UInt8)} (g0 : nm n0 = true) (g1 : nm n1 = true) (s : List UInt8) (hs : s = join (emitW :: n0 :: beginW :: n1 :: v2 :: r)) (hl : s.length ≤ 1000000) (hb : ∀ v ∈ (emitW :: n0 :: beginW :: n1 :: v2 :: r), (32 : UInt8) ∉ v) (w : World) : Calls Tryd.prog 32 #[.string (Str s)] w (rpP w (act (emitW :: n0 :: beginW :: n1 :: v2 :: r))) := by
  have hact : act (emitW :: n0 :: beginW :: n1 :: v2 :: r) = (([], []), 5 + stp n0 (beginW :: n1 :: v2 :: r) + 6 + n1.length + 1, 3) := by simp [act, act2, skip_ne', g0, g1]
  rw [hact]
  have d0 : s.drop 0 = join (emitW :: n0 :: beginW :: n1 :: v2 :: r) := by rw [List.drop_zero, hs]
  have he4 : emitW.length = 4 := rfl
  have hs4 : skipW.length = 4 := rfl
  have hb5 : beginW.length = 5 := rfl
  have hsz := Str_size s
  have m0 : (32 : UInt8) ∉ emitW := hb _ (by simp)
  have hk0 : 0 ≤ s.length := by omega
  have hz0 := Str_size emitW
  have hm0 := jl0 d0 hk0
  have d1 := jd d0
  have hq0 := jl2 d0 hk0
  have m1 : (32 : UInt8) ∉ n0 := hb _ (by simp)
  have hk1 : 0 + emitW.length + 1 ≤ s.length := by have := jl2 d0 hk0; omega
  have hz1 := Str_size n0
  have hm1 := jl0 d1 hk1
  have d2 := jd d1
  have hq1 := jl2 d1 hk1
  have m2 : (32 : UInt8) ∉ beginW := hb _ (by simp)
  have hk2 : 0 + emitW.length + 1 + n0.length + 1 ≤ s.length := by have := jl2 d1 hk1; omega
  have hz2 := Str_size beginW
  have hm2 := jl0 d2 hk2
  have d3 := jd d2
  have hq2 := jl2 d2 hk2
  have m3 : (32 : UInt8) ∉ n1 := hb _ (by simp)
  have hk3 : 0 + emitW.length + 1 + n0.length + 1 + beginW.length + 1 ≤ s.length := by have := jl2 d2 hk2; omega
  have hz3 := Str_size n1
  have hm3 := jl0 d3 hk3
  have d4 := jd d3
  have hq3 := jl2 d3 hk3
  have m4 : (32 : UInt8) ∉ v2 := hb _ (by simp)
  have hk4 : 0 + emitW.length + 1 + n0.length + 1 + beginW.length + 1 + n1.length + 1 ≤ s.length := by have := jl2 d3 hk3; omega
  have hz4 := Str_size v2
  have hm4 := jl0 d4 hk4
  have hS : ∃ S, Str s = S := ⟨_, rfl⟩
  have hS0 : ∃ S, Str emitW = S := ⟨_, rfl⟩
  have hS1 : ∃ S, Str n0 = S := ⟨_, rfl⟩
  have hS2 : ∃ S, Str beginW = S := ⟨_, rfl⟩
  have hS3 : ∃ S, Str n1 = S := ⟨_, rfl⟩
  have hS4 : ∃ S, Str v2 = S := ⟨_, rfl⟩
  have w0 := word_at s hl d0 m0 hk0 (0) (by first | rfl | omega)
  have w1 := word_at s hl d1 m1 hk1 (5) (by first | rfl | omega)
  have w2 := word_at s hl d2 m2 hk2 (4 + (1 + ((Str n0).size : Int)) + 1) (by first | rfl | omega)
  have w3 := word_at s hl d3 m3 hk3 (4 + (1 + ((Str n0).size : Int)) + 6 + 1) (by first | rfl | omega)
  have f1 : ((4 : Int) == ((Str s).size : Int)) = false := by first | (simp; omega) | (simp; done)
  have f2 : ((4 + (1 + ((Str n0).size : Int)) : Int) == ((Str s).size : Int)) = false := by first | (simp; omega) | (simp; done)
  have f3 : ((4 + (1 + ((Str n0).size : Int)) + 6 : Int) == ((Str s).size : Int)) = false := by first | (simp; omega) | (simp; done)
  have f4 : 4 + (1 + ((Str n0).size : Int)) + 6 + (1 + ((Str n1).size : Int)) < ((Str s).size : Int) := by omega
  have i1 := fun w => risname_c n0 (by omega) w
  rw [g0] at i1
  have I1 := Lib.hid i1
  have i3 := fun w => risname_c n1 (by omega) w
  rw [g1] at i3
  have I3 := Lib.hid i3
  have bz1 : (Str n0).size ≤ 1000000 := by omega
  have bz3 : (Str n1).size ≤ 1000000 := by omega
  have bzs : (Str s).size ≤ 1000000 := by omega
  have q0 := eq_yes' emitW
  have q2 := eq_yes' beginW
  have HF : Hid ((((([], []), 5 + stp n0 (beginW :: n1 :: v2 :: r) + 6 + n1.length + 1, 3) : (List UInt8 × List UInt8) × Nat × Nat).2.1 : Int) = 4 + (1 + ((Str n0).size : Int)) + 6 + (1 + ((Str n1).size : Int)) + 1) := Lib.hid (by simp only [stp]; first | rfl | (simp; done) | (simp; omega))
  have HWd0 := Lib.hid w0
  have HWd1 := Lib.hid w1
  have HWd2 := Lib.hid w2
  have HWd3 := Lib.hid w3
  have hz0' : (Str emitW).size = emitW.length := hz0
  have e4 : (Str emitW).size = 4 := by rw [hz0]; rfl
  have hq := Ar.start w
  obtain ⟨W1, hW1⟩ : ∃ W1, ((w.alloc (.cells #[.string ⟨#[]⟩, .string ⟨#[]⟩] 55)).alloc (.cells #[.string ⟨#[]⟩, .string ⟨#[]⟩] 55)) = W1 := ⟨_, rfl⟩
  rw [hW1] at hq
  have HW1 := Lib.hid hW1
  have HQ := Lib.hid hq
  clear hW1 hq hact he4 hs4 hb5 hsz hs hl hb hS hz0' m0 hk0 hz0 hm0 hS0 d0 hq0 w0 m1 hk1 hz1 hm1 hS1 d1 hq1 w1 i1 m2 hk2 hz2 hm2 hS2 d2 hq2 w2 m3 hk3 hz3 hm3 hS3 d3 hq3 w3 i3 m4 hk4 hz4 hm4 hS4 d4 g0 g1
  simp only [emitW, skipW, beginW] at *
  generalize Str [101, 109, 105, 116] = S0 at *
  generalize Str [98, 101, 103, 105, 110] = S2 at *
  go_enter Tryd.func32, Tryd.ntmps32
  go_wp2_with fail
  rw [HW1.out]
  obtain ⟨z0, z1, y0, y1⟩ := HQ.out.S0.cells
  obtain ⟨k0, k1, f0', f1'⟩ := HQ.out.S1.cells
  refine (HWd0.out _).mono ?_
  rintro e w2 ⟨rfl, rfl⟩
  go_wp2_with fail
  refine (HWd1.out _).mono ?_
  rintro e w2 ⟨rfl, rfl⟩
  have HQ := Lib.hid (HQ.out.seta0 n0)
  go_wp2_with fail
  refine (I1.out _).mono ?_
  rintro e w2 ⟨rfl, rfl⟩
  go_wp2_with fail
  refine (HWd2.out _).mono ?_
  rintro e w2 ⟨rfl, rfl⟩
  go_wp2_with fail
  refine (HWd3.out _).mono ?_
  rintro e w2 ⟨rfl, rfl⟩
  have HQ := Lib.hid (HQ.out.seta1 n1)
  go_wp2_with fail
  refine (I3.out _).mono ?_
  rintro e w2 ⟨rfl, rfl⟩
  have HQ := Lib.hid (HQ.out.set [] [])
  go_wp2
  ((try simp only [Exit.inBlock, Exit.then]); refine bodyPost_ret (Kt.results_cell3_row rfl _ _ (w.heap.size) 55 _ (0, 0) _ rfl (HQ.out.S0) Tryd.underlying55 rfl ?hi9) rfl ?_; (case hi9 => kernel_rfl))
  exact ⟨by rw [HF.out]; rfl, HQ.out.B⟩
set_option maxHeartbeats 4000000 in
set_option maxRecDepth 100000 in
theorem ra_skip_end  (s : List UInt8) (hs : s = join (skipW :: [])) (hl : s.length ≤ 1000000) (hb : ∀ v ∈ (skipW :: []), (32 : UInt8) ∉ v) (w : World) : Calls Tryd.prog 32 #[.string (Str s)] w (rpP w (act (skipW :: []))) := by
  have hact : act (skipW :: []) = (([], []), stp skipW ([]), 0) := by simp [act, act2, skip_ne']
  rw [hact]
  have d0 : s.drop 0 = join (skipW :: []) := by rw [List.drop_zero, hs]
  have he4 : emitW.length = 4 := rfl
  have hs4 : skipW.length = 4 := rfl
  have hb5 : beginW.length = 5 := rfl
  have hsz := Str_size s
  have m0 : (32 : UInt8) ∉ skipW := hb _ (by simp)
  have hk0 : 0 ≤ s.length := by omega
  have hz0 := Str_size skipW
  have hm0 := jl0 d0 hk0
  have hq0 := jl1 d0 hk0
  have hS : ∃ S, Str s = S := ⟨_, rfl⟩
  have hS0 : ∃ S, Str skipW = S := ⟨_, rfl⟩
  have w0 := word_at s hl d0 m0 hk0 (0) (by first | rfl | omega)
  have f2 : ((4 : Int) == ((Str s).size : Int)) = true := by first | (simp; omega) | (simp; done)
  have bzs : (Str s).size ≤ 1000000 := by omega
  have q0 : ((Str skipW).toList == emitW) = false := eq_no' (by decide)
  have q1 := eq_yes' skipW
  have HF : Hid ((((([], []), stp skipW ([]), 0) : (List UInt8 × List UInt8) × Nat × Nat).2.1 : Int) = 4) := Lib.hid (by simp only [stp]; first | rfl | (simp; done) | (simp; omega))
  have HWd0 := Lib.hid w0
  have hz0' : (Str skipW).size = skipW.length := hz0
  have e4 : (Str skipW).size = 4 := by rw [hz0]; rfl
  have hq := Ar.start w
  obtain ⟨W1, hW1⟩ : ∃ W1, ((w.alloc (.cells #[.string ⟨#[]⟩, .string ⟨#[]⟩] 55)).alloc (.cells #[.string ⟨#[]⟩, .string ⟨#[]⟩] 55)) = W1 := ⟨_, rfl⟩
  rw [hW1] at hq
  have HW1 := Lib.hid hW1
  have HQ := Lib.hid hq
  clear hW1 hq hact he4 hs4 hb5 hsz hs hl hb hS hz0' m0 hk0 hz0 hm0 hS0 d0 hq0 w0
  simp only [emitW, skipW, beginW] at *
  generalize Str [115, 107, 105, 112] = S0 at *
  go_enter Tryd.func32, Tryd.ntmps32
  go_wp2_with fail
  rw [HW1.out]
  obtain ⟨z0, z1, y0, y1⟩ := HQ.out.S0.cells
  obtain ⟨k0, k1, f0', f1'⟩ := HQ.out.S1.cells
  refine (HWd0.out _).mono ?_
  rintro e w2 ⟨rfl, rfl⟩
  have HQ := Lib.hid (HQ.out.set [] [])
  go_wp2
  ((try simp only [Exit.inBlock, Exit.then]); refine bodyPost_ret (Kt.results_cell3_row rfl _ _ (w.heap.size) 55 _ (0, 0) _ rfl (HQ.out.S0) Tryd.underlying55 rfl ?hi10) rfl ?_; (case hi10 => kernel_rfl))
  exact ⟨by rw [HF.out]; rfl, HQ.out.B⟩
set_option maxHeartbeats 4000000 in
set_option maxRecDepth 100000 in
theorem ra_skip_x {v1 : List UInt8} {r : List (List UInt8)} (h2 : v1 ≠ beginW) (s : List UInt8) (hs : s = join (skipW :: v1 :: r)) (hl : s.length ≤ 1000000) (hb : ∀ v ∈ (skipW :: v1 :: r), (32 : UInt8) ∉ v) (w : World) : Calls Tryd.prog 32 #[.string (Str s)] w (rpP w (act (skipW :: v1 :: r))) := by
  have hact : act (skipW :: v1 :: r) = (([], []), stp skipW (v1 :: r), 4) := by simp [act, act2, skip_ne', h2]
  rw [hact]
  have d0 : s.drop 0 = join (skipW :: v1 :: r) := by rw [List.drop_zero, hs]
  have he4 : emitW.length = 4 := rfl
  have hs4 : skipW.length = 4 := rfl
  have hb5 : beginW.length = 5 := rfl
  have hsz := Str_size s
  have m0 : (32 : UInt8) ∉ skipW := hb _ (by simp)
  have hk0 : 0 ≤ s.length := by omega
  have hz0 := Str_size skipW
  have hm0 := jl0 d0 hk0
  have d1 := jd d0
  have hq0 := jl2 d0 hk0
  have m1 : (32 : UInt8) ∉ v1 := hb _ (by simp)
  have hk1 : 0 + skipW.length + 1 ≤ s.length := by have := jl2 d0 hk0; omega
  have hz1 := Str_size v1
  have hm1 := jl0 d1 hk1
  have hS : ∃ S, Str s = S := ⟨_, rfl⟩
  have hS0 : ∃ S, Str skipW = S := ⟨_, rfl⟩
  have hS1 : ∃ S, Str v1 = S := ⟨_, rfl⟩
  have w0 := word_at s hl d0 m0 hk0 (0) (by first | rfl | omega)
  have w1 := word_at s hl d1 m1 hk1 (4 + 1) (by first | rfl | omega)
  have f2 : ((4 : Int) == ((Str s).size : Int)) = false := by first | (simp; omega) | (simp; done)
  have bzs : (Str s).size ≤ 1000000 := by omega
  have q0 : ((Str skipW).toList == emitW) = false := eq_no' (by decide)
  have q1 := eq_yes' skipW
  have q2 := eq_no' h2
  have HF : Hid ((((([], []), stp skipW (v1 :: r), 4) : (List UInt8 × List UInt8) × Nat × Nat).2.1 : Int) = 4 + 1) := Lib.hid (by simp only [stp]; first | rfl | (simp; done) | (simp; omega))
  have HWd0 := Lib.hid w0
  have HWd1 := Lib.hid w1
  have hz0' : (Str skipW).size = skipW.length := hz0
  have e4 : (Str skipW).size = 4 := by rw [hz0]; rfl
  have hq := Ar.start w
  obtain ⟨W1, hW1⟩ : ∃ W1, ((w.alloc (.cells #[.string ⟨#[]⟩, .string ⟨#[]⟩] 55)).alloc (.cells #[.string ⟨#[]⟩, .string ⟨#[]⟩] 55)) = W1 := ⟨_, rfl⟩
  rw [hW1] at hq
  have HW1 := Lib.hid hW1
  have HQ := Lib.hid hq
  clear hW1 hq hact he4 hs4 hb5 hsz hs hl hb hS hz0' m0 hk0 hz0 hm0 hS0 d0 hq0 w0 m1 hk1 hz1 hm1 hS1 d1 w1 h2
  simp only [emitW, skipW, beginW] at *
  generalize Str [115, 107, 105, 112] = S0 at *
  go_enter Tryd.func32, Tryd.ntmps32
  go_wp2_with fail
  rw [HW1.out]
  obtain ⟨z0, z1, y0, y1⟩ := HQ.out.S0.cells
  obtain ⟨k0, k1, f0', f1'⟩ := HQ.out.S1.cells
  refine (HWd0.out _).mono ?_
  rintro e w2 ⟨rfl, rfl⟩
  go_wp2_with fail
  refine (HWd1.out _).mono ?_
  rintro e w2 ⟨rfl, rfl⟩
  have HQ := Lib.hid (HQ.out.set [] [])
  go_wp2
  ((try simp only [Exit.inBlock, Exit.then]); refine bodyPost_ret (Kt.results_cell3_row rfl _ _ (w.heap.size) 55 _ (0, 0) _ rfl (HQ.out.S0) Tryd.underlying55 rfl ?hi11) rfl ?_; (case hi11 => kernel_rfl))
  exact ⟨by rw [HF.out]; rfl, HQ.out.B⟩
set_option maxHeartbeats 4000000 in
set_option maxRecDepth 100000 in
theorem ra_skip_begin_none  (s : List UInt8) (hs : s = join (skipW :: beginW :: [])) (hl : s.length ≤ 1000000) (hb : ∀ v ∈ (skipW :: beginW :: []), (32 : UInt8) ∉ v) (w : World) : Calls Tryd.prog 32 #[.string (Str s)] w (rpP w (act (skipW :: beginW :: []))) := by
  have hact : act (skipW :: beginW :: []) = (([], []), stp skipW (beginW :: []) + 5, 2) := by simp [act, act2, skip_ne']
  rw [hact]
  have d0 : s.drop 0 = join (skipW :: beginW :: []) := by rw [List.drop_zero, hs]
  have he4 : emitW.length = 4 := rfl
  have hs4 : skipW.length = 4 := rfl
  have hb5 : beginW.length = 5 := rfl
  have hsz := Str_size s
  have m0 : (32 : UInt8) ∉ skipW := hb _ (by simp)
  have hk0 : 0 ≤ s.length := by omega
  have hz0 := Str_size skipW
  have hm0 := jl0 d0 hk0
  have d1 := jd d0
  have hq0 := jl2 d0 hk0
  have m1 : (32 : UInt8) ∉ beginW := hb _ (by simp)
  have hk1 : 0 + skipW.length + 1 ≤ s.length := by have := jl2 d0 hk0; omega
  have hz1 := Str_size beginW
  have hm1 := jl0 d1 hk1
  have hq1 := jl1 d1 hk1
  have hS : ∃ S, Str s = S := ⟨_, rfl⟩
  have hS0 : ∃ S, Str skipW = S := ⟨_, rfl⟩
  have hS1 : ∃ S, Str beginW = S := ⟨_, rfl⟩
  have w0 := word_at s hl d0 m0 hk0 (0) (by first | rfl | omega)
  have w1 := word_at s hl d1 m1 hk1 (4 + 1) (by first | rfl | omega)
  have f2 : ((4 : Int) == ((Str s).size : Int)) = false := by first | (simp; omega) | (simp; done)
  have f3 : ((4 + 6 : Int) == ((Str s).size : Int)) = true := by first | (simp; omega) | (simp; done)
  have bzs : (Str s).size ≤ 1000000 := by omega
  have q0 : ((Str skipW).toList == emitW) = false := eq_no' (by decide)
  have q1 := eq_yes' skipW
  have q2 := eq_yes' beginW
  have HF : Hid ((((([], []), stp skipW (beginW :: []) + 5, 2) : (List UInt8 × List UInt8) × Nat × Nat).2.1 : Int) = 4 + 6) := Lib.hid (by simp only [stp]; first | rfl | (simp; done) | (simp; omega))
  have HWd0 := Lib.hid w0
  have HWd1 := Lib.hid w1
  have hz0' : (Str skipW).size = skipW.length := hz0
  have e4 : (Str skipW).size = 4 := by rw [hz0]; rfl
  have hq := Ar.start w
  obtain ⟨W1, hW1⟩ : ∃ W1, ((w.alloc (.cells #[.string ⟨#[]⟩, .string ⟨#[]⟩] 55)).alloc (.cells #[.string ⟨#[]⟩, .string ⟨#[]⟩] 55)) = W1 := ⟨_, rfl⟩
  rw [hW1] at hq
  have HW1 := Lib.hid hW1
  have HQ := Lib.hid hq
  clear hW1 hq hact he4 hs4 hb5 hsz hs hl hb hS hz0' m0 hk0 hz0 hm0 hS0 d0 hq0 w0 m1 hk1 hz1 hm1 hS1 d1 hq1 w1
  simp only [emitW, skipW, beginW] at *
  generalize Str [115, 107, 105, 112] = S0 at *
  generalize Str [98, 101, 103, 105, 110] = S1 at *
  go_enter Tryd.func32, Tryd.ntmps32
  go_wp2_with fail
  rw [HW1.out]
  obtain ⟨z0, z1, y0, y1⟩ := HQ.out.S0.cells
  obtain ⟨k0, k1, f0', f1'⟩ := HQ.out.S1.cells
  refine (HWd0.out _).mono ?_
  rintro e w2 ⟨rfl, rfl⟩
  go_wp2_with fail
  refine (HWd1.out _).mono ?_
  rintro e w2 ⟨rfl, rfl⟩
  have HQ := Lib.hid (HQ.out.set [] [])
  go_wp2
  ((try simp only [Exit.inBlock, Exit.then]); refine bodyPost_ret (Kt.results_cell3_row rfl _ _ (w.heap.size) 55 _ (0, 0) _ rfl (HQ.out.S0) Tryd.underlying55 rfl ?hi12) rfl ?_; (case hi12 => kernel_rfl))
  exact ⟨by rw [HF.out]; rfl, HQ.out.B⟩
set_option maxHeartbeats 4000000 in
set_option maxRecDepth 100000 in
theorem ra_skip_begin_badname {n0 : List UInt8} {r : List (List UInt8)} (g0 : nm n0 = false) (s : List UInt8) (hs : s = join (skipW :: beginW :: n0 :: r)) (hl : s.length ≤ 1000000) (hb : ∀ v ∈ (skipW :: beginW :: n0 :: r), (32 : UInt8) ∉ v) (w : World) : Calls Tryd.prog 32 #[.string (Str s)] w (rpP w (act (skipW :: beginW :: n0 :: r))) := by
  have hact : act (skipW :: beginW :: n0 :: r) = (([], []), stp skipW (beginW :: n0 :: r) + 6, 5) := by simp [act, act2, skip_ne', g0]
  rw [hact]
  have d0 : s.drop 0 = join (skipW :: beginW :: n0 :: r) := by rw [List.drop_zero, hs]
  have he4 : emitW.length = 4 := rfl
  have hs4 : skipW.length = 4 := rfl
  have hb5 : beginW.length = 5 := rfl
  have hsz := Str_size s
  have m0 : (32 : UInt8) ∉ skipW := hb _ (by simp)
  have hk0 : 0 ≤ s.length := by omega
  have hz0 := Str_size skipW
  have hm0 := jl0 d0 hk0
  have d1 := jd d0
  have hq0 := jl2 d0 hk0
  have m1 : (32 : UInt8) ∉ beginW := hb _ (by simp)
  have hk1 : 0 + skipW.length + 1 ≤ s.length := by have := jl2 d0 hk0; omega
  have hz1 := Str_size beginW
  have hm1 := jl0 d1 hk1
  have d2 := jd d1
  have hq1 := jl2 d1 hk1
  have m2 : (32 : UInt8) ∉ n0 := hb _ (by simp)
  have hk2 : 0 + skipW.length + 1 + beginW.length + 1 ≤ s.length := by have := jl2 d1 hk1; omega
  have hz2 := Str_size n0
  have hm2 := jl0 d2 hk2
  have hS : ∃ S, Str s = S := ⟨_, rfl⟩
  have hS0 : ∃ S, Str skipW = S := ⟨_, rfl⟩
  have hS1 : ∃ S, Str beginW = S := ⟨_, rfl⟩
  have hS2 : ∃ S, Str n0 = S := ⟨_, rfl⟩
  have w0 := word_at s hl d0 m0 hk0 (0) (by first | rfl | omega)
  have w1 := word_at s hl d1 m1 hk1 (4 + 1) (by first | rfl | omega)
  have w2 := word_at s hl d2 m2 hk2 (4 + 6 + 1) (by first | rfl | omega)
  have f2 : ((4 : Int) == ((Str s).size : Int)) = false := by first | (simp; omega) | (simp; done)
  have f3 : ((4 + 6 : Int) == ((Str s).size : Int)) = false := by first | (simp; omega) | (simp; done)
  have i2 := fun w => risname_c n0 (by omega) w
  rw [g0] at i2
  have I2 := Lib.hid i2
  have bz2 : (Str n0).size ≤ 1000000 := by omega
  have bzs : (Str s).size ≤ 1000000 := by omega
  have q0 : ((Str skipW).toList == emitW) = false := eq_no' (by decide)
  have q1 := eq_yes' skipW
  have q2 := eq_yes' beginW
  have HF : Hid ((((([], []), stp skipW (beginW :: n0 :: r) + 6, 5) : (List UInt8 × List UInt8) × Nat × Nat).2.1 : Int) = 4 + 6 + 1) := Lib.hid (by simp only [stp]; first | rfl | (simp; done) | (simp; omega))
  have HWd0 := Lib.hid w0
  have HWd1 := Lib.hid w1
  have HWd2 := Lib.hid w2
  have hz0' : (Str skipW).size = skipW.length := hz0
  have e4 : (Str skipW).size = 4 := by rw [hz0]; rfl
  have hq := Ar.start w
  obtain ⟨W1, hW1⟩ : ∃ W1, ((w.alloc (.cells #[.string ⟨#[]⟩, .string ⟨#[]⟩] 55)).alloc (.cells #[.string ⟨#[]⟩, .string ⟨#[]⟩] 55)) = W1 := ⟨_, rfl⟩
  rw [hW1] at hq
  have HW1 := Lib.hid hW1
  have HQ := Lib.hid hq
  clear hW1 hq hact he4 hs4 hb5 hsz hs hl hb hS hz0' m0 hk0 hz0 hm0 hS0 d0 hq0 w0 m1 hk1 hz1 hm1 hS1 d1 hq1 w1 m2 hk2 hz2 hm2 hS2 d2 w2 i2 g0
  simp only [emitW, skipW, beginW] at *
  generalize Str [115, 107, 105, 112] = S0 at *
  generalize Str [98, 101, 103, 105, 110] = S1 at *
  go_enter Tryd.func32, Tryd.ntmps32
  go_wp2_with fail
  rw [HW1.out]
  obtain ⟨z0, z1, y0, y1⟩ := HQ.out.S0.cells
  obtain ⟨k0, k1, f0', f1'⟩ := HQ.out.S1.cells
  refine (HWd0.out _).mono ?_
  rintro e w2 ⟨rfl, rfl⟩
  go_wp2_with fail
  refine (HWd1.out _).mono ?_
  rintro e w2 ⟨rfl, rfl⟩
  go_wp2_with fail
  refine (HWd2.out _).mono ?_
  rintro e w2 ⟨rfl, rfl⟩
  have HQ := Lib.hid (HQ.out.seta1 n0)
  go_wp2_with fail
  refine (I2.out _).mono ?_
  rintro e w2 ⟨rfl, rfl⟩
  have HQ := Lib.hid (HQ.out.set [] [])
  go_wp2
  ((try simp only [Exit.inBlock, Exit.then]); refine bodyPost_ret (Kt.results_cell3_row rfl _ _ (w.heap.size) 55 _ (0, 0) _ rfl (HQ.out.S0) Tryd.underlying55 rfl ?hi13) rfl ?_; (case hi13 => kernel_rfl))
  exact ⟨by rw [HF.out]; rfl, HQ.out.B⟩
set_option maxHeartbeats 4000000 in
set_option maxRecDepth 100000 in
theorem ra_skip_begin_name_end {n0 : List UInt8} (g0 : nm n0 = true) (s : List UInt8) (hs : s = join (skipW :: beginW :: n0 :: [])) (hl : s.length ≤ 1000000) (hb : ∀ v ∈ (skipW :: beginW :: n0 :: []), (32 : UInt8) ∉ v) (w : World) : Calls Tryd.prog 32 #[.string (Str s)] w (rpP w (act (skipW :: beginW :: n0 :: []))) := by
  have hact : act (skipW :: beginW :: n0 :: []) = (([], n0), stp skipW (beginW :: n0 :: []) + 6 + n0.length, 0) := by simp [act, act2, skip_ne', g0]
  rw [hact]
  have d0 : s.drop 0 = join (skipW :: beginW :: n0 :: []) := by rw [List.drop_zero, hs]
  have he4 : emitW.length = 4 := rfl
  have hs4 : skipW.length = 4 := rfl
  have hb5 : beginW.length = 5 := rfl
  have hsz := Str_size s
  have m0 : (32 : UInt8) ∉ skipW := hb _ (by simp)
  have hk0 : 0 ≤ s.length := by omega
  have hz0 := Str_size skipW
  have hm0 := jl0 d0 hk0
  have d1 := jd d0
  have hq0 := jl2 d0 hk0
  have m1 : (32 : UInt8) ∉ beginW := hb _ (by simp)
  have hk1 : 0 + skipW.length + 1 ≤ s.length := by have := jl2 d0 hk0; omega
  have hz1 := Str_size beginW
  have hm1 := jl0 d1 hk1
  have d2 := jd d1
  have hq1 := jl2 d1 hk1
  have m2 : (32 : UInt8) ∉ n0 := hb _ (by simp)
  have hk2 : 0 + skipW.length + 1 + beginW.length + 1 ≤ s.length := by have := jl2 d1 hk1; omega
  have hz2 := Str_size n0
  have hm2 := jl0 d2 hk2
  have hq2 := jl1 d2 hk2
  have hS : ∃ S, Str s = S := ⟨_, rfl⟩
  have hS0 : ∃ S, Str skipW = S := ⟨_, rfl⟩
  have hS1 : ∃ S, Str beginW = S := ⟨_, rfl⟩
  have hS2 : ∃ S, Str n0 = S := ⟨_, rfl⟩
  have w0 := word_at s hl d0 m0 hk0 (0) (by first | rfl | omega)
  have w1 := word_at s hl d1 m1 hk1 (4 + 1) (by first | rfl | omega)
  have w2 := word_at s hl d2 m2 hk2 (4 + 6 + 1) (by first | rfl | omega)
  have f2 : ((4 : Int) == ((Str s).size : Int)) = false := by first | (simp; omega) | (simp; done)
  have f3 : ((4 + 6 : Int) == ((Str s).size : Int)) = false := by first | (simp; omega) | (simp; done)
  have f4 : ¬ (4 + 6 + (1 + ((Str n0).size : Int)) < ((Str s).size : Int)) := by omega
  have i2 := fun w => risname_c n0 (by omega) w
  rw [g0] at i2
  have I2 := Lib.hid i2
  have bz2 : (Str n0).size ≤ 1000000 := by omega
  have bzs : (Str s).size ≤ 1000000 := by omega
  have q0 : ((Str skipW).toList == emitW) = false := eq_no' (by decide)
  have q1 := eq_yes' skipW
  have q2 := eq_yes' beginW
  have HF : Hid ((((([], n0), stp skipW (beginW :: n0 :: []) + 6 + n0.length, 0) : (List UInt8 × List UInt8) × Nat × Nat).2.1 : Int) = 4 + 6 + (1 + ((Str n0).size : Int))) := Lib.hid (by simp only [stp]; first | rfl | (simp; done) | (simp; omega))
  have HWd0 := Lib.hid w0
  have HWd1 := Lib.hid w1
  have HWd2 := Lib.hid w2
  have hz0' : (Str skipW).size = skipW.length := hz0
  have e4 : (Str skipW).size = 4 := by rw [hz0]; rfl
  have hq := Ar.start w
  obtain ⟨W1, hW1⟩ : ∃ W1, ((w.alloc (.cells #[.string ⟨#[]⟩, .string ⟨#[]⟩] 55)).alloc (.cells #[.string ⟨#[]⟩, .string ⟨#[]⟩] 55)) = W1 := ⟨_, rfl⟩
  rw [hW1] at hq
  have HW1 := Lib.hid hW1
  have HQ := Lib.hid hq
  clear hW1 hq hact he4 hs4 hb5 hsz hs hl hb hS hz0' m0 hk0 hz0 hm0 hS0 d0 hq0 w0 m1 hk1 hz1 hm1 hS1 d1 hq1 w1 m2 hk2 hz2 hm2 hS2 d2 hq2 w2 i2 g0
  simp only [emitW, skipW, beginW] at *
  generalize Str [115, 107, 105, 112] = S0 at *
  generalize Str [98, 101, 103, 105, 110] = S1 at *
  go_enter Tryd.func32, Tryd.ntmps32
  go_wp2_with fail
  rw [HW1.out]
  obtain ⟨z0, z1, y0, y1⟩ := HQ.out.S0.cells
  obtain ⟨k0, k1, f0', f1'⟩ := HQ.out.S1.cells
  refine (HWd0.out _).mono ?_
  rintro e w2 ⟨rfl, rfl⟩
  go_wp2_with fail
  refine (HWd1.out _).mono ?_
  rintro e w2 ⟨rfl, rfl⟩
  go_wp2_with fail
  refine (HWd2.out _).mono ?_
  rintro e w2 ⟨rfl, rfl⟩
  have HQ := Lib.hid (HQ.out.seta1 n0)
  go_wp2_with fail
  refine (I2.out _).mono ?_
  rintro e w2 ⟨rfl, rfl⟩
  have HQ := Lib.hid (HQ.out.set [] n0)
  go_wp2
  ((try simp only [Exit.inBlock, Exit.then]); refine bodyPost_ret (Kt.results_cell3_row rfl _ _ (w.heap.size) 55 _ (0, 0) _ rfl (HQ.out.S0) Tryd.underlying55 rfl ?hi14) rfl ?_; (case hi14 => kernel_rfl))
  exact ⟨by rw [HF.out]; rfl, HQ.out.B⟩
set_option maxHeartbeats 4000000 in
set_option maxRecDepth 100000 in
theorem ra_skip_begin_name_more {n0 v2 : List UInt8} {r : List (List UInt8)} (g0 : nm n0 = true) (s : List UInt8) (hs : s = join (skipW :: beginW :: n0 :: v2 :: r)) (hl : s.length ≤ 1000000) (hb : ∀ v ∈ (skipW :: beginW :: n0 :: v2 :: r), (32 : UInt8) ∉ v) (w : World) : Calls Tryd.prog 32 #[.string (Str s)] w (rpP w (act (skipW :: beginW :: n0 :: v2 :: r))) := by
  have hact : act (skipW :: beginW :: n0 :: v2 :: r) = (([], []), stp skipW (beginW :: n0 :: v2 :: r) + 6 + n0.length + 1, 3) := by simp [act, act2, skip_ne', g0]
  rw [hact]
  have d0 : s.drop 0 = join (skipW :: beginW :: n0 :: v2 :: r) := by rw [List.drop_zero, hs]
  have he4 : emitW.length = 4 := rfl
  have hs4 : skipW.length = 4 := rfl
  have hb5 : beginW.length = 5 := rfl
  have hsz := Str_size s
  have m0 : (32 : UInt8) ∉ skipW := hb _ (by simp)
  have hk0 : 0 ≤ s.length := by omega
  have hz0 := Str_size skipW
  have hm0 := jl0 d0 hk0
  have d1 := jd d0
  have hq0 := jl2 d0 hk0
  have m1 : (32 : UInt8) ∉ beginW := hb _ (by simp)
  have hk1 : 0 + skipW.length + 1 ≤ s.length := by have := jl2 d0 hk0; omega
  have hz1 := Str_size beginW
  have hm1 := jl0 d1 hk1
  have d2 := jd d1
  have hq1 := jl2 d1 hk1
  have m2 : (32 : UInt8) ∉ n0 := hb _ (by simp)
  have hk2 : 0 + skipW.length + 1 + beginW.length + 1 ≤ s.length := by have := jl2 d1 hk1; omega
  have hz2 := Str_size n0
  have hm2 := jl0 d2 hk2
  have d3 := jd d2
  have hq2 := jl2 d2 hk2
  have m3 : (32 : UInt8) ∉ v2 := hb _ (by simp)
  have hk3 : 0 + skipW.length + 1 + beginW.length + 1 + n0.length + 1 ≤ s.length := by have := jl2 d2 hk2; omega
  have hz3 := Str_size v2
  have hm3 := jl0 d3 hk3
  have hS : ∃ S, Str s = S := ⟨_, rfl⟩
  have hS0 : ∃ S, Str skipW = S := ⟨_, rfl⟩
  have hS1 : ∃ S, Str beginW = S := ⟨_, rfl⟩
  have hS2 : ∃ S, Str n0 = S := ⟨_, rfl⟩
  have hS3 : ∃ S, Str v2 = S := ⟨_, rfl⟩
  have w0 := word_at s hl d0 m0 hk0 (0) (by first | rfl | omega)
  have w1 := word_at s hl d1 m1 hk1 (4 + 1) (by first | rfl | omega)
  have w2 := word_at s hl d2 m2 hk2 (4 + 6 + 1) (by first | rfl | omega)
  have f2 : ((4 : Int) == ((Str s).size : Int)) = false := by first | (simp; omega) | (simp; done)
  have f3 : ((4 + 6 : Int) == ((Str s).size : Int)) = false := by first | (simp; omega) | (simp; done)
  have f4 : 4 + 6 + (1 + ((Str n0).size : Int)) < ((Str s).size : Int) := by omega
  have i2 := fun w => risname_c n0 (by omega) w
  rw [g0] at i2
  have I2 := Lib.hid i2
  have bz2 : (Str n0).size ≤ 1000000 := by omega
  have bzs : (Str s).size ≤ 1000000 := by omega
  have q0 : ((Str skipW).toList == emitW) = false := eq_no' (by decide)
  have q1 := eq_yes' skipW
  have q2 := eq_yes' beginW
  have HF : Hid ((((([], []), stp skipW (beginW :: n0 :: v2 :: r) + 6 + n0.length + 1, 3) : (List UInt8 × List UInt8) × Nat × Nat).2.1 : Int) = 4 + 6 + (1 + ((Str n0).size : Int)) + 1) := Lib.hid (by simp only [stp]; first | rfl | (simp; done) | (simp; omega))
  have HWd0 := Lib.hid w0
  have HWd1 := Lib.hid w1
  have HWd2 := Lib.hid w2
  have hz0' : (Str skipW).size = skipW.length := hz0
  have e4 : (Str skipW).size = 4 := by rw [hz0]; rfl
  have hq := Ar.start w
  obtain ⟨W1, hW1⟩ : ∃ W1, ((w.alloc (.cells #[.string ⟨#[]⟩, .string ⟨#[]⟩] 55)).alloc (.cells #[.string ⟨#[]⟩, .string ⟨#[]⟩] 55)) = W1 := ⟨_, rfl⟩
  rw [hW1] at hq
  have HW1 := Lib.hid hW1
  have HQ := Lib.hid hq
  clear hW1 hq hact he4 hs4 hb5 hsz hs hl hb hS hz0' m0 hk0 hz0 hm0 hS0 d0 hq0 w0 m1 hk1 hz1 hm1 hS1 d1 hq1 w1 m2 hk2 hz2 hm2 hS2 d2 hq2 w2 i2 m3 hk3 hz3 hm3 hS3 d3 g0
  simp only [emitW, skipW, beginW] at *
  generalize Str [115, 107, 105, 112] = S0 at *
  generalize Str [98, 101, 103, 105, 110] = S1 at *
  go_enter Tryd.func32, Tryd.ntmps32
  go_wp2_with fail
  rw [HW1.out]
  obtain ⟨z0, z1, y0, y1⟩ := HQ.out.S0.cells
  obtain ⟨k0, k1, f0', f1'⟩ := HQ.out.S1.cells
  refine (HWd0.out _).mono ?_
  rintro e w2 ⟨rfl, rfl⟩
  go_wp2_with fail
  refine (HWd1.out _).mono ?_
  rintro e w2 ⟨rfl, rfl⟩
  go_wp2_with fail
  refine (HWd2.out _).mono ?_
  rintro e w2 ⟨rfl, rfl⟩
  have HQ := Lib.hid (HQ.out.seta1 n0)
  go_wp2_with fail
  refine (I2.out _).mono ?_
  rintro e w2 ⟨rfl, rfl⟩
  have HQ := Lib.hid (HQ.out.set [] [])
  go_wp2
  ((try simp only [Exit.inBlock, Exit.then]); refine bodyPost_ret (Kt.results_cell3_row rfl _ _ (w.heap.size) 55 _ (0, 0) _ rfl (HQ.out.S0) Tryd.underlying55 rfl ?hi15) rfl ?_; (case hi15 => kernel_rfl))
  exact ⟨by rw [HF.out]; rfl, HQ.out.B⟩
end Ac
end Go.Proofs.YtmfcabidmacdcaaDoor
