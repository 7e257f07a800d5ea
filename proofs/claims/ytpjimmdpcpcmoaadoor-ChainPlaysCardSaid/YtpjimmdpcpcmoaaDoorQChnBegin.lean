import Derived.Test.YtpjimmdpcpcmoaaDoorQChnTwo
/- dofferlaw31.begin. -/
namespace Go.Proofs.YtpjimmdpcpcmoaaDoor
open Go Go.RowKit Kt
namespace Ch
open Po
variable {w0 wb w w' w2 w3 W W' : World} {K K' : List Nat} {p x y : Nat} {L L' Sx Sy : List Nat} {m m' : Md} {lx ly : List Nat} {cx cy cx' : Cn} {qx qy n s : Nat}
theorem TwX.base (hb : Below w0.heap.size w0 wb) (h : TwX wb W p x y cx cy qx qy n s K) : TwX w0 W p x y cx cy qx qy n s K := by
  obtain ⟨L, Sx, Sy, m, lx, ly, h, hK⟩ := h
  exact ⟨L, Sx, Sy, m, lx, ly, ⟨h.X, h.Y, hb.trans (h.B.mono hb.size), fun q hq => Nat.le_trans hb.size (h.lo q hq), h.xy, h.ne, h.us, h.qx, h.qy, h.n, h.s, h.wx, h.wy⟩, hK⟩
theorem opn1 {B S A : Nat} (a1 : 1 ≤ A) (a2 : A ≤ B) : opnE (Po.new B S) 1 A = 0 := by
  unfold opnE
  rw [if_neg (by simp [Po.new]; omega)]
  simp [Po.new, crd]
theorem opn2 {B S A C : Nat} (a1 : 1 ≤ A) (a2 : A ≤ B) (c1 : 1 ≤ C) (c2 : C ≤ B) : opnE (opn (Po.new B S) 1 A) 2 C = 0 := by
  have e : opn (Po.new B S) 1 A = { Po.new B S with acc := [(1, (A : Int))] } := by unfold opn; rw [if_pos (opn1 a1 a2)]; simp [Po.new]
  rw [e]
  unfold opnE
  rw [if_neg (by simp [Po.new]; omega)]
  simp [crd]
theorem opn_two {B S A C : Nat} (a1 : 1 ≤ A) (a2 : A ≤ B) (c1 : 1 ≤ C) (c2 : C ≤ B) : opn (opn (Po.new B S) 1 A) 2 C = { Po.new B S with acc := [(1, (A : Int)), (2, (C : Int))] } := by
  have e : opn (Po.new B S) 1 A = { Po.new B S with acc := [(1, (A : Int))] } := by unfold opn; rw [if_pos (opn1 a1 a2)]; simp [Po.new]
  have h2 := opn2 (S := S) a1 a2 c1 c2
  rw [e] at h2 ⊢
  unfold opn
  rw [if_pos h2]
  simp
theorem held_none (B : Nat) (x : Int) (hx : 0 ≤ x) : held (List.replicate B (-1)) x = 0 := by
  unfold held
  rw [List.countP_eq_zero]
  intro o ho
  rw [List.eq_of_mem_replicate ho]
  simp
  omega
theorem used_none (B : Nat) : used (List.replicate B (-1)) = 0 := by
  unfold used
  rw [List.countP_eq_zero]
  intro o ho
  rw [List.eq_of_mem_replicate ho]
  simp
set_option maxRecDepth 100000 in
set_option maxHeartbeats 2000000 in
theorem begin_c (B S A C : Nat) (b1 : 1 ≤ B) (b2 : B ≤ 12) (s1 : 1 ≤ S) (s2 : S ≤ 9) (a1 : 1 ≤ A) (a2 : A ≤ B) (c1 : 1 ≤ C) (c2 : C ≤ B) (w0 w : World) (hb0 : Below w0.heap.size w0 w) :
    Calls Tryd.prog 36 #[.agg #[.int .i64 (B : Int), .int .i64 (S : Int), .int .i64 (A : Int), .int .i64 (C : Int)]] w fun e w' => ∃ p x y, e = .returned (.tuple #[.pointer (some ⟨p, 0, none⟩), .pointer (some ⟨x, 0, none⟩), .pointer (some ⟨y, 0, none⟩)]) ∧ TwX w0 w' p x y ⟨1, 0, [], 0, 0⟩ ⟨2, 0, [], 0, 0⟩ A C B S [] := by
  have o1 := opn1 (S := S) a1 a2
  have o2 := opn2 (S := S) a1 a2 c1 c2
  have o3 := opn_two (S := S) a1 a2 c1 c2
  obtain ⟨wb, hwb⟩ : ∃ wb, w.alloc (.cells #[.int .i64 (B : Int), .int .i64 (S : Int), .int .i64 (A : Int), .int .i64 (C : Int)] 65 (0, 0)) = wb := ⟨_, rfl⟩
  have hB1 : Below w0.heap.size w0 wb := by rw [← hwb]; exact hb0.alloc hb0.size _
  have hbl : wb.heap[w.heap.size]? = some (.cells #[.int .i64 (B : Int), .int .i64 (S : Int), .int .i64 (A : Int), .int .i64 (C : Int)] 65 (0, 0)) := by rw [← hwb]; exact World.alloc_heap_new w _
  have hsz : w.heap.size < wb.heap.size := block_lt hbl
  have hcl : ∀ W, Below wb.heap.size wb W → W.cell? ⟨w.heap.size, 0, none⟩ = some (.int .i64 (B : Int)) ∧ W.cell? ⟨w.heap.size, 1, none⟩ = some (.int .i64 (S : Int)) ∧ W.cell? ⟨w.heap.size, 2, none⟩ = some (.int .i64 (A : Int)) ∧ W.cell? ⟨w.heap.size, 3, none⟩ = some (.int .i64 (C : Int)) := fun W hb => by
    have h1 := (hb.block _ hsz).trans hbl
    exact ⟨cell_block h1 0, cell_block h1 1, cell_block h1 2, cell_block h1 3⟩
  have HN := Lib.hid (pool_pf B S b1 (by omega) s1 (by omega) wb wb (Below.refl _ _))
  have HO := Lib.hid (And.intro o1 (And.intro o2 o3))
  have HC := Lib.hid hcl
  have HB1 := Lib.hid hB1
  have HW := Lib.hid hwb
  have HR := Lib.hid (And.intro b1 (And.intro s1 s2))
  obtain ⟨k0, k1, _⟩ := hcl wb (Below.refl _ _)
  rw [← hwb] at k0 k1
  clear o1 o2 o3 hcl hB1 hwb hbl hsz hb0 b1 b2 s1 s2 a1 a2 c1 c2
  go_enter Tryd.func36, Tryd.ntmps36
  go_wp2_with fail
  rw [HW.out]
  with_reducible refine HN.out.mono ?_
  rintro e w1 ⟨p, L, rfl, hP⟩
  obtain ⟨_, _, k2, _⟩ := HC.out _ hP.B
  have HOp := Lib.hid (open_pf 1 (A : Int) (by decide) hP HO.out.1)
  clear hP HN k0 k1
  go_wp2_with fail
  with_reducible refine HOp.out.mono ?_
  rintro e w2 ⟨rfl, L2, hP2⟩
  obtain ⟨_, _, _, k3⟩ := HC.out _ hP2.B
  have HOp2 := Lib.hid (open_pf 2 (C : Int) (by decide) hP2 HO.out.2.1)
  clear hP2 HOp k2
  go_wp2_with fail
  with_reducible refine HOp2.out.mono ?_
  rintro e w3 ⟨rfl, L3, hP3⟩
  rw [HO.out.2.2] at hP3
  have hn1 := new_yes (w := w3) 1 (by decide) hP3.P (by simp [crd]) (by simp only [Po.new]; exact held_none B 1 (by decide))
  have HN1 := Lib.hid hn1
  have HP3 := Lib.hid hP3
  clear hP3 HOp2 k3 hn1
  go_wp2_with fail
  with_reducible refine HN1.out.mono ?_
  rintro e w4 ⟨x, rfl, hx, hb4, hX⟩
  have hP4 := HP3.out.below hb4
  have hn2 := new_yes (w := w4) 2 (by decide) hX.P (by simp [crd]) (by simp only [Po.new]; exact held_none B 2 (by decide))
  have HN2 := Lib.hid hn2
  have H4 := Lib.hid (And.intro hP4 (And.intro hx hX))
  clear hn2 hP4 hx hX HN1 hb4
  go_wp2_with fail
  with_reducible refine HN2.out.mono ?_
  rintro e w5 ⟨y, rfl, hy, hb5, hY⟩
  have hP5 := H4.out.1.below hb5
  have hX5 := H4.out.2.2.below hb5
  have hxl := H4.out.2.2.C.klt
  have hpx := HP3.out.B.size
  have hx := H4.out.2.1
  have hT : TwX wb w5 p x y ⟨1, 0, [], 0, 0⟩ ⟨2, 0, [], 0, 0⟩ A C B S [] := by
    refine ⟨L3, [], [], _, [], [], ⟨hX5, hY, hP5.B, fun q hq => ?_, fun q hq hm => ?_, by decide, ?_, by simp [crd], by simp [crd], by simp [Po.new], rfl, by simp only; decide, by simp only; decide⟩, by simp⟩
    · simp only [List.nil_append, List.mem_append, List.mem_cons, List.not_mem_nil, or_false] at hq
      rcases hq with h1 | rfl | rfl
      · exact hP5.lo q h1
      · omega
      · omega
    · simp only [List.mem_singleton] at hq hm
      omega
    · simp only [Po.new]
      rw [used_none, held_none B 1 (by decide), held_none B 2 (by decide)]
  have HTw := Lib.hid (hT.base HB1.out)
  clear hP5 hX5 hxl hpx hx hT hy hb5 hY HN2 H4
  go_wp2
  go_ret3
  exact ⟨p, x, y, rfl, HTw.out⟩
end Ch
end Go.Proofs.YtpjimmdpcpcmoaaDoor
