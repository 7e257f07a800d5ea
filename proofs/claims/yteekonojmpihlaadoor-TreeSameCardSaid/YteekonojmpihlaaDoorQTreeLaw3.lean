import Derived.Test.YteekonojmpihlaaDoorQTreeRs
import Derived.Test.YteekonojmpihlaaDoorQTreeSs
import Derived.Test.YteekonojmpihlaaDoorQTreeCp
import Derived.Test.YteekonojmpihlaaDoorQTreeHv
import Derived.Test.YteekonojmpihlaaDoorQTreeOf
import Derived.Test.YteekonojmpihlaaDoorQTreeLaw1
/- dofferlaw07.TreeSame. -/
namespace Go.Proofs.YteekonojmpihlaaDoor
open Go Go.RowKit Kt St Sp Bk
namespace Tr
theorem sm_er {n m n' m' : Nd} (h : er n' = er n) (k : er m' = er m) : sm n' m' = sm n m := by
  rw [Bool.eq_iff_iff, sm_iff, sm_iff, h, k]
theorem sm_self {n m : Nd} (h : er n = er m) : sm n m = true := (sm_iff n m).2 h
theorem long_of {n : Nd} (h : ∀ x ∈ walk n, x.1.text.length ≤ 50) : ∀ x ∈ walk n, x.1.text.length ≤ 1000000 := fun x hx => by have := h x hx; omega
theorem text_er {n m : Nd} (h : er m = er n) (k : ∀ x ∈ walk n, x.1.text.length ≤ 50) : ∀ x ∈ walk m, x.1.text.length ≤ 1000000 := long_of (text_walk h 50 k)
/-- A row's element may be written over. -/
theorem row_any {W : World} {base T g n c j : Nat} {xs : List Value} (h : W.ownsRow base T 9 (.slice (some ⟨g, 0, none⟩) n c) n xs) (hj : j < n) :
    (∃ u0 u1 u2 u3 u4 u5 u6 u7 u8, W.cell? ⟨g, j * 9, none⟩ = some u0 ∧ W.cell? ⟨g, j * 9 + 1, none⟩ = some u1 ∧ W.cell? ⟨g, j * 9 + 2, none⟩ = some u2 ∧ W.cell? ⟨g, j * 9 + 3, none⟩ = some u3 ∧ W.cell? ⟨g, j * 9 + 4, none⟩ = some u4 ∧ W.cell? ⟨g, j * 9 + 5, none⟩ = some u5 ∧ W.cell? ⟨g, j * 9 + 6, none⟩ = some u6 ∧ W.cell? ⟨g, j * 9 + 7, none⟩ = some u7 ∧ W.cell? ⟨g, j * 9 + 8, none⟩ = some u8) ∧
    (∀ v0 v1 v2 v3 v4 v5 v6 v7 v8, (∃ ys, (put9o W g (j * 9) v0 v1 v2 v3 v4 v5 v6 v7 v8).ownsRow base T 9 (.slice (some ⟨g, 0, none⟩) n c) n ys) ∧ Mod [g] W (put9o W g (j * 9) v0 v1 v2 v3 v4 v5 v6 v7 v8)) := by
  have hl := h.1
  have hr := Rd.own h
  have hx : xs = xs.take (j * 9) ++ (xs.drop (j * 9)).take 9 ++ xs.drop (j * 9 + 9) := by
    rw [List.append_assoc, show xs.drop (j * 9 + 9) = (xs.drop (j * 9)).drop 9 by rw [List.drop_drop], List.take_append_drop, List.take_append_drop]
  have hp : (xs.take (j * 9)).length = j * 9 := by rw [List.length_take]; omega
  have hq : ((xs.drop (j * 9)).take 9).length = 9 := by rw [List.length_take, List.length_drop]; omega
  have hat : ∀ i (hi : i < xs.length), W.cell? ⟨g, i, none⟩ = some xs[i] := fun i hi => by
    obtain ⟨b, off, e, hc⟩ := hr i _ (List.getElem?_eq_getElem hi)
    simp only [Option.some.injEq, Addr.mk.injEq, and_true] at e
    obtain ⟨rfl, rfl⟩ := e
    rw [Nat.zero_add] at hc
    exact hc
  refine ⟨⟨_, _, _, _, _, _, _, _, _, hat _ (by omega), hat _ (by omega), hat _ (by omega), hat _ (by omega), hat _ (by omega), hat _ (by omega), hat _ (by omega), hat _ (by omega), hat _ (by omega)⟩, fun v0 v1 v2 v3 v4 v5 v6 v7 v8 => ?_⟩
  rw [hx] at h
  have k := row_put h hp hq v0 v1 v2 v3 v4 v5 v6 v7 v8
  exact ⟨⟨_, k.1⟩, k.2⟩
set_option maxRecDepth 100000 in
set_option maxHeartbeats 16000000 in
/-- The law TreeSame. -/
theorem same_law (n m : Nd) (w : World) (hT : Bt.Tab w) (hIs : Is w.heap.size w n) (hIs' : Is w.heap.size w m) : Calls Tryd.prog 13 #[nv n, nv m] w fun e w' => e = .returned (.bool true) ∧ Below w.heap.size w w' := by
  have hI := fun (W : World) (hb : Below w.heap.size w W) => Is.mono hb.size (Is.below hb hIs)
  have hI' := fun (W : World) (hb : Below w.heap.size w W) => Is.mono hb.size (Is.below hb hIs')
  have hv := fun W hb => heavy_c n W (hI W hb)
  have hv' := fun W hb => heavy_c m W (hI' W hb)
  have hof : ∀ W, Below w.heap.size w W → Calls Tryd.prog 57 #[nv n, .int .i64 2000] W (OfP n 2000 W) := fun W hb => of_all n 2000 (by decide) (by decide) W (hI W hb)
  have hof' : ∀ W, Below w.heap.size w W → Calls Tryd.prog 57 #[nv m, .int .i64 2000] W (OfP m 2000 W) := fun W hb => of_all m 2000 (by decide) (by decide) W (hI' W hb)
  have hss := fun (ht : ∀ x ∈ walk n, x.1.text.length ≤ 50) (ht' : ∀ x ∈ walk m, x.1.text.length ≤ 50) W hb => Same_c n m (long_of ht) (long_of ht') W (hI W hb) (hI' W hb)
  have hsn := fun (ht : ∀ x ∈ walk n, x.1.text.length ≤ 50) W hb => Same_c n n (long_of ht) (long_of ht) W (hI W hb) (hI W hb)
  have hcp := fun (ht : ∀ x ∈ walk n, x.1.text.length ≤ 50) W hb => Copy_c n (long_of ht) W (hI W hb)
  have hsc := fun (ht : ∀ x ∈ walk n, x.1.text.length ≤ 50) c (hc : er c = er n) W hb (hic : Is W.heap.size W c) => Same_c c n (text_er hc ht) (long_of ht) W hic (hI W hb)
  have hal := fun W (hb : Below w.heap.size w W) => alive_c W (hT.below hb)
  obtain ⟨x0, x1, x2, x3, hxs⟩ := four' hIs.len
  obtain ⟨y0, y1, y2, y3, hys⟩ := four' hIs'.len
  obtain ⟨k, mn, mx, a, nl, c, t, hnv, _⟩ := nv_explicit hxs
  obtain ⟨k', mn', mx', a', nl', c', t', hnv', _⟩ := nv_explicit hys
  rw [hnv] at hv hof hss hsn hcp hsc ⊢
  rw [hnv'] at hv' hof' hss ⊢
  obtain ⟨B1, hB1⟩ : ∃ B1, Obj.cells #[.int .i64 k, .int .u64 (x0 : Int), .int .u64 (x1 : Int), .int .u64 (x2 : Int), .int .u64 (x3 : Int), .slice a nl c, .int .i64 mn, .int .i64 mx, .string (Str t)] 37 (0, 0) = B1 := ⟨_, rfl⟩
  obtain ⟨B2, hB2⟩ : ∃ B2, Obj.cells #[.int .i64 k', .int .u64 (y0 : Int), .int .u64 (y1 : Int), .int .u64 (y2 : Int), .int .u64 (y3 : Int), .slice a' nl' c', .int .i64 mn', .int .i64 mx', .string (Str t')] 37 (0, 0) = B2 := ⟨_, rfl⟩
  have z1 : (w.alloc B1).heap.size = w.heap.size + 1 := by simp
  have l1 : ((w.alloc B1).alloc B2).heap[w.heap.size]? = some B1 := block_alloc (World.alloc_heap_new w B1)
  have l2 : ((w.alloc B1).alloc B2).heap[w.heap.size + 1]? = some B2 := by rw [← z1]; exact World.alloc_heap_new _ B2
  have hB : Below w.heap.size w ((w.alloc B1).alloc B2) := ((Below.refl _ w).alloc (Nat.le_refl _) _).alloc (by simp) _
  obtain ⟨W3, hW3⟩ : ∃ W3, (w.alloc B1).alloc B2 = W3 := ⟨_, rfl⟩
  have z3 : W3.heap.size = w.heap.size + 2 := by rw [← hW3]; simp
  rw [hW3] at l1 l2 hB
  rw [← hB1, ← hB2] at hW3
  rw [← hB1] at l1
  rw [← hB2] at l2
  clear hB1 hB2 z1 B1 B2
  have hcl : ∀ (W : World), Below W3.heap.size W3 W → (W.cell? ⟨w.heap.size, 0, none⟩ = some (.int .i64 k) ∧ W.cell? ⟨w.heap.size, 1, none⟩ = some (.int .u64 (x0 : Int)) ∧ W.cell? ⟨w.heap.size, 2, none⟩ = some (.int .u64 (x1 : Int)) ∧ W.cell? ⟨w.heap.size, 3, none⟩ = some (.int .u64 (x2 : Int)) ∧ W.cell? ⟨w.heap.size, 4, none⟩ = some (.int .u64 (x3 : Int)) ∧ W.cell? ⟨w.heap.size, 5, none⟩ = some (.slice a nl c) ∧ W.cell? ⟨w.heap.size, 6, none⟩ = some (.int .i64 mn) ∧ W.cell? ⟨w.heap.size, 7, none⟩ = some (.int .i64 mx) ∧ W.cell? ⟨w.heap.size, 8, none⟩ = some (.string (Str t))) ∧
      (W.cell? ⟨w.heap.size + 1, 0, none⟩ = some (.int .i64 k') ∧ W.cell? ⟨w.heap.size + 1, 1, none⟩ = some (.int .u64 (y0 : Int)) ∧ W.cell? ⟨w.heap.size + 1, 2, none⟩ = some (.int .u64 (y1 : Int)) ∧ W.cell? ⟨w.heap.size + 1, 3, none⟩ = some (.int .u64 (y2 : Int)) ∧ W.cell? ⟨w.heap.size + 1, 4, none⟩ = some (.int .u64 (y3 : Int)) ∧ W.cell? ⟨w.heap.size + 1, 5, none⟩ = some (.slice a' nl' c') ∧ W.cell? ⟨w.heap.size + 1, 6, none⟩ = some (.int .i64 mn') ∧ W.cell? ⟨w.heap.size + 1, 7, none⟩ = some (.int .i64 mx') ∧ W.cell? ⟨w.heap.size + 1, 8, none⟩ = some (.string (Str t'))) :=
    fun W hb => And.intro (nd_cells ((hb.block _ (block_lt l1)).trans l1)) (nd_cells ((hb.block _ (block_lt l2)).trans l2))
  have HAl := Lib.hid (hal W3 hB)
  have HV := Lib.hid hv
  have HV' := Lib.hid hv'
  have HO := Lib.hid hof
  have HO' := Lib.hid hof'
  have HSS := Lib.hid hss
  have HSN := Lib.hid hsn
  have HCp := Lib.hid hcp
  have HSc := Lib.hid hsc
  have HC := Lib.hid hcl
  have HB := Lib.hid hB
  have HW3 := Lib.hid hW3
  have HZ := Lib.hid z3
  clear hI hI' hv hv' hof hof' hss hsn hcp hsc hal hxs hys hnv hnv' hIs hIs' hT hcl hB hW3 z3 l1 l2
  go_enter Tryd.func13, Tryd.ntmps13
  go_wp2_with fail
  rw [HW3.out]
  with_reducible refine HAl.out.mono ?_
  rintro e w4 ⟨rfl, hb4⟩
  have N4 := Lib.hid hb4
  obtain ⟨⟨p0, p1, p2, p3, p4, p5, p6, p7, p8⟩, q0, q1, q2, q3, q4, q5, q6, q7, q8⟩ := HC.out _ hb4
  clear hb4
  go_wp2_with fail
  with_reducible refine (HV.out _ (HB.out.trans (N4.out.mono HB.out.size))).mono ?_
  rintro e w5 ⟨h1, rfl, hh1, hb5⟩
  have N5 := Lib.hid (N4.out.trans (hb5.mono N4.out.size))
  have HH1 := Lib.hid hh1
  obtain ⟨⟨p0, p1, p2, p3, p4, p5, p6, p7, p8⟩, q0, q1, q2, q3, q4, q5, q6, q7, q8⟩ := HC.out _ N5.out
  clear hb5 hh1
  cases h1 with
  | true =>
    go_wp2_with fail
    go_ret
    exact ⟨rfl, HB.out.trans (N5.out.mono HB.out.size)⟩
  | false =>
    have HS1 := Lib.hid (HH1.out rfl)
    clear HH1
    go_wp2_with fail
    with_reducible refine (HV'.out _ (HB.out.trans (N5.out.mono HB.out.size))).mono ?_
    rintro e w6 ⟨h2, rfl, hh2, hb6⟩
    have N6 := Lib.hid (N5.out.trans (hb6.mono N5.out.size))
    have HH2 := Lib.hid hh2
    obtain ⟨⟨p0, p1, p2, p3, p4, p5, p6, p7, p8⟩, q0, q1, q2, q3, q4, q5, q6, q7, q8⟩ := HC.out _ N6.out
    clear hb6 hh2
    cases h2 with
    | true =>
      go_wp2_with fail
      go_ret
      exact ⟨rfl, HB.out.trans (N6.out.mono HB.out.size)⟩
    | false =>
      have HS2 := Lib.hid (HH2.out rfl)
      clear HH2 HV HV'
      go_wp2_with fail
      with_reducible refine (HO.out _ (HB.out.trans (N6.out.mono HB.out.size))).mono ?_
      rintro e w7 ⟨n1, r1, rfl, hr1, _, hi1, hbl1, hb7⟩
      obtain ⟨v0, v1, v2, v3, hvs1⟩ := four' hi1.len
      obtain ⟨k1, mn1, mx1, a1, nl1, c1, t1, hnv1, hcl1⟩ := nv_explicit hvs1
      have her1 : er n1 = er n := (hr1 HS1.out.1).2
      have l7 : (w7.alloc (.cells #[.int .i64 k1, .int .u64 (v0 : Int), .int .u64 (v1 : Int), .int .u64 (v2 : Int), .int .u64 (v3 : Int), .slice a1 nl1 c1, .int .i64 mn1, .int .i64 mx1, .string (Str t1)] 44 (0, 0))).heap[w7.heap.size]? = _ := World.alloc_heap_new w7 _
      have b7 : Below w7.heap.size w7 (w7.alloc (.cells #[.int .i64 k1, .int .u64 (v0 : Int), .int .u64 (v1 : Int), .int .u64 (v2 : Int), .int .u64 (v3 : Int), .slice a1 nl1 c1, .int .i64 mn1, .int .i64 mx1, .string (Str t1)] 44 (0, 0))) := (Below.refl _ w7).alloc (Nat.le_refl _) _
      obtain ⟨W8, hW8⟩ : ∃ W8, w7.alloc (.cells #[.int .i64 k1, .int .u64 (v0 : Int), .int .u64 (v1 : Int), .int .u64 (v2 : Int), .int .u64 (v3 : Int), .slice a1 nl1 c1, .int .i64 mn1, .int .i64 mx1, .string (Str t1)] 44 (0, 0)) = W8 := ⟨_, rfl⟩
      rw [hW8] at l7 b7
      have hN8 := N6.out.trans ((hb7.mono N6.out.size).trans (b7.mono (by have := N6.out.size; have := hb7.size; omega)))
      have N8 := Lib.hid hN8
      obtain ⟨⟨p0, p1, p2, p3, p4, p5, p6, p7, p8⟩, q0, q1, q2, q3, q4, q5, q6, q7, q8⟩ := HC.out _ hN8
      have hin1 := Is.mono b7.size (Is.below b7 hi1)
      have HN1 := Lib.hid (And.intro her1 (And.intro hnv1 (And.intro hin1 l7)))
      have HW8 := Lib.hid hW8
      rw [← hW8] at p0 p1 p2 p3 p4 p5 p6 p7 p8 q0 q1 q2 q3 q4 q5 q6 q7 q8
      rw [hnv1]
      clear hr1 hi1 hbl1 hb7 hvs1 hnv1 hcl1 her1 l7 b7 hW8 hN8 hin1
      go_wp2_with fail
      rw [HW8.out]
      with_reducible refine (HO'.out _ (HB.out.trans (N8.out.mono HB.out.size))).mono ?_
      rintro e w9 ⟨m1, r2, rfl, hr2, _, hi2, hbl2, hb9⟩
      obtain ⟨u0, u1, u2, u3, hvs2⟩ := four' hi2.len
      obtain ⟨k2, mn2, mx2, a2, nl2, c2, t2, hnv2, hcl2⟩ := nv_explicit hvs2
      have her2 : er m1 = er m := (hr2 HS2.out.1).2
      obtain ⟨her1, hnv1, hin1, l7⟩ := HN1.out
      have l9 : (w9.alloc (.cells #[.int .i64 k2, .int .u64 (u0 : Int), .int .u64 (u1 : Int), .int .u64 (u2 : Int), .int .u64 (u3 : Int), .slice a2 nl2 c2, .int .i64 mn2, .int .i64 mx2, .string (Str t2)] 44 (0, 0))).heap[w9.heap.size]? = _ := World.alloc_heap_new w9 _
      have b9 : Below w9.heap.size w9 (w9.alloc (.cells #[.int .i64 k2, .int .u64 (u0 : Int), .int .u64 (u1 : Int), .int .u64 (u2 : Int), .int .u64 (u3 : Int), .slice a2 nl2 c2, .int .i64 mn2, .int .i64 mx2, .string (Str t2)] 44 (0, 0))) := (Below.refl _ w9).alloc (Nat.le_refl _) _
      obtain ⟨W10, hW10⟩ : ∃ W10, w9.alloc (.cells #[.int .i64 k2, .int .u64 (u0 : Int), .int .u64 (u1 : Int), .int .u64 (u2 : Int), .int .u64 (u3 : Int), .slice a2 nl2 c2, .int .i64 mn2, .int .i64 mx2, .string (Str t2)] 44 (0, 0)) = W10 := ⟨_, rfl⟩
      rw [hW10] at l9 b9
      have b810 : Below W8.heap.size W8 W10 := hb9.trans (b9.mono hb9.size)
      have hN10 := N8.out.trans (b810.mono N8.out.size)
      have hB10 := HB.out.trans (hN10.mono HB.out.size)
      have hin1' := Is.mono b810.size (Is.below b810 hin1)
      have hin2 := Is.mono b9.size (Is.below b9 hi2)
      have l7' := (b810.block _ (block_lt l7)).trans l7
      -- what the calls answer
      have hrs : ∀ W, Below W10.heap.size W10 W → Calls Tryd.prog 23 #[nv n1, nv m1] W fun e w' => e = .returned (.bool (rgt n && (rgt m && sm n m))) ∧ Below W.heap.size W w' := fun W hb => by
        have h := rsame_c n1 m1 (text_er her1 HS1.out.2) (text_er her2 HS2.out.2) W (Is.mono hb.size (Is.below hb hin1')) (Is.mono hb.size (Is.below hb hin2))
        rw [sm_er her1 her2, same_rgt her1, same_rgt her2] at h
        exact h
      have hrr : ∀ W, Below W10.heap.size W10 W → Calls Tryd.prog 26 #[nv n1] W fun e w' => e = .returned (.bool (rgt n)) ∧ Below W.heap.size W w' := fun W hb => by
        have h := rright_c n1 (text_er her1 HS1.out.2) W (Is.mono hb.size (Is.below hb hin1'))
        rw [same_rgt her1] at h
        exact h
      have hss := fun W hb => HSS.out HS1.out.2 HS2.out.2 W hb
      have hsn : ∀ W, Below w.heap.size w W → Calls Tryd.prog 33 #[.agg #[.int .i64 k, .int .u64 (x0 : Int), .int .u64 (x1 : Int), .int .u64 (x2 : Int), .int .u64 (x3 : Int), .slice a nl c, .int .i64 mn, .int .i64 mx, .string (Str t)], .agg #[.int .i64 k, .int .u64 (x0 : Int), .int .u64 (x1 : Int), .int .u64 (x2 : Int), .int .u64 (x3 : Int), .slice a nl c, .int .i64 mn, .int .i64 mx, .string (Str t)]] W fun e w' => e = .returned (.bool (rgt n)) ∧ Below W.heap.size W w' := fun W hb => by
        have h := HSN.out HS1.out.2 W hb
        rw [sm_self rfl] at h
        have e : (rgt n && (rgt n && true)) = rgt n := by cases rgt n <;> rfl
        rw [e] at h
        exact h
      have hcp := fun W hb => HCp.out HS1.out.2 W hb
      have hlast : ∀ W, Below W10.heap.size W10 W → rgt n = true → ∀ n2, er n2 = er n → Is W.heap.size W n2 → Calls Tryd.prog 23 #[nv n2, nv n1] W fun e w' => e = .returned (.bool true) ∧ Below W.heap.size W w' := fun W hb hrg n2 he hi => by
        have h := rsame_c n2 n1 (text_er he HS1.out.2) (text_er her1 HS1.out.2) W hi (Is.mono hb.size (Is.below hb hin1'))
        rw [sm_self (he.trans her1.symm), same_rgt her1, same_rgt he, hrg] at h
        exact h
      have hsc : ∀ W, Below w.heap.size w W → rgt n = true → ∀ n2, er n2 = er n → Is W.heap.size W n2 → Calls Tryd.prog 33 #[nv n2, .agg #[.int .i64 k, .int .u64 (x0 : Int), .int .u64 (x1 : Int), .int .u64 (x2 : Int), .int .u64 (x3 : Int), .slice a nl c, .int .i64 mn, .int .i64 mx, .string (Str t)]] W fun e w' => e = .returned (.bool true) ∧ Below W.heap.size W w' := fun W hb hrg n2 he hi => by
        have h := HSc.out HS1.out.2 n2 he W hb hi
        rw [sm_self he, same_rgt he, hrg] at h
        exact h
      have hcl2' : ∀ (W : World), Below W10.heap.size W10 W → _ ∧ _ := fun W hb => And.intro (nd_cells ((hb.block _ (block_lt l7')).trans l7')) (nd_cells ((hb.block _ (block_lt l9)).trans l9))
      rw [hnv1] at hrs hrr hlast
      rw [hnv2] at hrs
      have HRS := Lib.hid hrs
      have HRR := Lib.hid hrr
      have HSs := Lib.hid hss
      have HSn := Lib.hid hsn
      have HCopy := Lib.hid hcp
      have HLast := Lib.hid hlast
      have HSC := Lib.hid hsc
      have HC2 := Lib.hid hcl2'
      have N10 := Lib.hid hN10
      have B10 := Lib.hid hB10
      have HW10 := Lib.hid hW10
      have HSz := Lib.hid HS1.out.1
      obtain ⟨⟨p0, p1, p2, p3, p4, p5, p6, p7, p8⟩, q0, q1, q2, q3, q4, q5, q6, q7, q8⟩ := HC.out _ hN10
      obtain ⟨o1, ho1⟩ : ∃ o1, (rgt n && (rgt m && sm n m)) = o1 := ⟨_, rfl⟩
      obtain ⟨o2, ho2⟩ : ∃ o2, rgt n = o2 := ⟨_, rfl⟩
      rw [ho1] at HRS HSs
      rw [ho2] at HRR HSn HLast HSC
      rw [← hW10] at p0 p1 p2 p3 p4 p5 p6 p7 p8 q0 q1 q2 q3 q4 q5 q6 q7 q8
      rw [hnv2]
      clear hr2 hi2 hbl2 hb9 hvs2 hnv2 hcl2 her2 her1 hnv1 hin1 l7 l9 b9 hW10 b810 hN10 hB10 hin1' hin2 l7' hrs hrr hss hsn hcp hlast hsc hcl2' ho1 HN1 HSS HSN HCp HSc HS1 HS2 HW8 N8 HO'
      go_wp2_with fail
      rw [HW10.out]
      have HSk : Hid (∀ W, Below W10.heap.size W10 W → ((W.cell? ⟨w.heap.size, 0, none⟩ = some (.int .i64 k) ∧ W.cell? ⟨w.heap.size, 1, none⟩ = some (.int .u64 (x0 : Int)) ∧ W.cell? ⟨w.heap.size, 2, none⟩ = some (.int .u64 (x1 : Int)) ∧ W.cell? ⟨w.heap.size, 3, none⟩ = some (.int .u64 (x2 : Int)) ∧ W.cell? ⟨w.heap.size, 4, none⟩ = some (.int .u64 (x3 : Int)) ∧ W.cell? ⟨w.heap.size, 5, none⟩ = some (.slice a nl c) ∧ W.cell? ⟨w.heap.size, 6, none⟩ = some (.int .i64 mn) ∧ W.cell? ⟨w.heap.size, 7, none⟩ = some (.int .i64 mx) ∧ W.cell? ⟨w.heap.size, 8, none⟩ = some (.string (Str t))) ∧ (W.cell? ⟨w.heap.size + 1, 0, none⟩ = some (.int .i64 k') ∧ W.cell? ⟨w.heap.size + 1, 1, none⟩ = some (.int .u64 (y0 : Int)) ∧ W.cell? ⟨w.heap.size + 1, 2, none⟩ = some (.int .u64 (y1 : Int)) ∧ W.cell? ⟨w.heap.size + 1, 3, none⟩ = some (.int .u64 (y2 : Int)) ∧ W.cell? ⟨w.heap.size + 1, 4, none⟩ = some (.int .u64 (y3 : Int)) ∧ W.cell? ⟨w.heap.size + 1, 5, none⟩ = some (.slice a' nl' c') ∧ W.cell? ⟨w.heap.size + 1, 6, none⟩ = some (.int .i64 mn') ∧ W.cell? ⟨w.heap.size + 1, 7, none⟩ = some (.int .i64 mx') ∧ W.cell? ⟨w.heap.size + 1, 8, none⟩ = some (.string (Str t')))) ∧ ((W.cell? ⟨w7.heap.size, 0, none⟩ = some (.int .i64 k1) ∧ W.cell? ⟨w7.heap.size, 1, none⟩ = some (.int .u64 (v0 : Int)) ∧ W.cell? ⟨w7.heap.size, 2, none⟩ = some (.int .u64 (v1 : Int)) ∧ W.cell? ⟨w7.heap.size, 3, none⟩ = some (.int .u64 (v2 : Int)) ∧ W.cell? ⟨w7.heap.size, 4, none⟩ = some (.int .u64 (v3 : Int)) ∧ W.cell? ⟨w7.heap.size, 5, none⟩ = some (.slice a1 nl1 c1) ∧ W.cell? ⟨w7.heap.size, 6, none⟩ = some (.int .i64 mn1) ∧ W.cell? ⟨w7.heap.size, 7, none⟩ = some (.int .i64 mx1) ∧ W.cell? ⟨w7.heap.size, 8, none⟩ = some (.string (Str t1))) ∧ (W.cell? ⟨w9.heap.size, 0, none⟩ = some (.int .i64 k2) ∧ W.cell? ⟨w9.heap.size, 1, none⟩ = some (.int .u64 (u0 : Int)) ∧ W.cell? ⟨w9.heap.size, 2, none⟩ = some (.int .u64 (u1 : Int)) ∧ W.cell? ⟨w9.heap.size, 3, none⟩ = some (.int .u64 (u2 : Int)) ∧ W.cell? ⟨w9.heap.size, 4, none⟩ = some (.int .u64 (u3 : Int)) ∧ W.cell? ⟨w9.heap.size, 5, none⟩ = some (.slice a2 nl2 c2) ∧ W.cell? ⟨w9.heap.size, 6, none⟩ = some (.int .i64 mn2) ∧ W.cell? ⟨w9.heap.size, 7, none⟩ = some (.int .i64 mx2) ∧ W.cell? ⟨w9.heap.size, 8, none⟩ = some (.string (Str t2))))) := Lib.hid (fun W hb => ⟨HC.out W (N10.out.trans (hb.mono N10.out.size)), HC2.out W hb⟩)
      have n0 : Below W10.heap.size W10 W10.drew := (Below.refl _ _).drew
      refine wp_region_noPanic ?_
      refine wp_region_held_drew (S := fun W => ((W.cell? ⟨w.heap.size, 0, none⟩ = some (.int .i64 k) ∧ W.cell? ⟨w.heap.size, 1, none⟩ = some (.int .u64 (x0 : Int)) ∧ W.cell? ⟨w.heap.size, 2, none⟩ = some (.int .u64 (x1 : Int)) ∧ W.cell? ⟨w.heap.size, 3, none⟩ = some (.int .u64 (x2 : Int)) ∧ W.cell? ⟨w.heap.size, 4, none⟩ = some (.int .u64 (x3 : Int)) ∧ W.cell? ⟨w.heap.size, 5, none⟩ = some (.slice a nl c) ∧ W.cell? ⟨w.heap.size, 6, none⟩ = some (.int .i64 mn) ∧ W.cell? ⟨w.heap.size, 7, none⟩ = some (.int .i64 mx) ∧ W.cell? ⟨w.heap.size, 8, none⟩ = some (.string (Str t))) ∧ (W.cell? ⟨w.heap.size + 1, 0, none⟩ = some (.int .i64 k') ∧ W.cell? ⟨w.heap.size + 1, 1, none⟩ = some (.int .u64 (y0 : Int)) ∧ W.cell? ⟨w.heap.size + 1, 2, none⟩ = some (.int .u64 (y1 : Int)) ∧ W.cell? ⟨w.heap.size + 1, 3, none⟩ = some (.int .u64 (y2 : Int)) ∧ W.cell? ⟨w.heap.size + 1, 4, none⟩ = some (.int .u64 (y3 : Int)) ∧ W.cell? ⟨w.heap.size + 1, 5, none⟩ = some (.slice a' nl' c') ∧ W.cell? ⟨w.heap.size + 1, 6, none⟩ = some (.int .i64 mn') ∧ W.cell? ⟨w.heap.size + 1, 7, none⟩ = some (.int .i64 mx') ∧ W.cell? ⟨w.heap.size + 1, 8, none⟩ = some (.string (Str t')))) ∧ ((W.cell? ⟨w7.heap.size, 0, none⟩ = some (.int .i64 k1) ∧ W.cell? ⟨w7.heap.size, 1, none⟩ = some (.int .u64 (v0 : Int)) ∧ W.cell? ⟨w7.heap.size, 2, none⟩ = some (.int .u64 (v1 : Int)) ∧ W.cell? ⟨w7.heap.size, 3, none⟩ = some (.int .u64 (v2 : Int)) ∧ W.cell? ⟨w7.heap.size, 4, none⟩ = some (.int .u64 (v3 : Int)) ∧ W.cell? ⟨w7.heap.size, 5, none⟩ = some (.slice a1 nl1 c1) ∧ W.cell? ⟨w7.heap.size, 6, none⟩ = some (.int .i64 mn1) ∧ W.cell? ⟨w7.heap.size, 7, none⟩ = some (.int .i64 mx1) ∧ W.cell? ⟨w7.heap.size, 8, none⟩ = some (.string (Str t1))) ∧ (W.cell? ⟨w9.heap.size, 0, none⟩ = some (.int .i64 k2) ∧ W.cell? ⟨w9.heap.size, 1, none⟩ = some (.int .u64 (u0 : Int)) ∧ W.cell? ⟨w9.heap.size, 2, none⟩ = some (.int .u64 (u1 : Int)) ∧ W.cell? ⟨w9.heap.size, 3, none⟩ = some (.int .u64 (u2 : Int)) ∧ W.cell? ⟨w9.heap.size, 4, none⟩ = some (.int .u64 (u3 : Int)) ∧ W.cell? ⟨w9.heap.size, 5, none⟩ = some (.slice a2 nl2 c2) ∧ W.cell? ⟨w9.heap.size, 6, none⟩ = some (.int .i64 mn2) ∧ W.cell? ⟨w9.heap.size, 7, none⟩ = some (.int .i64 mx2) ∧ W.cell? ⟨w9.heap.size, 8, none⟩ = some (.string (Str t2))))) (by kernel_rfl) (HSk.out _ n0) (fun hHeld => ?_)
      (refine wpAnyH_take (i := 0) (v := ?v0n1) (by simp only [List.getElem?_toArray, List.getElem?_cons_succ, List.getElem?_cons_zero]; rfl) (by kernel_rfl) (by kernel_rfl) (by kernel_rfl) (fun _ _ _ h => False.elim h) (Or.inl ⟨by rfl, ?hy0n1⟩) (by assumption) ?rest0n1; (case hy0n1 => (intro w hSw; (try dsimp only at hSw); go_simp; (try with_reducible rfl))); (try simp only [Act.put, List.setIfInBounds_toArray, List.set_cons_zero, List.set_cons_succ]))
      (refine wpAnyH_take (i := 1) (v := ?v1n2) (by simp only [List.getElem?_toArray, List.getElem?_cons_succ, List.getElem?_cons_zero]; rfl) (by kernel_rfl) (by kernel_rfl) (by kernel_rfl) (fun _ _ _ h => False.elim h) (Or.inl ⟨by rfl, ?hy1n2⟩) (by assumption) ?rest1n2; (case hy1n2 => (intro w hSw; (try dsimp only at hSw); go_simp; (try with_reducible rfl))); (try simp only [Act.put, List.setIfInBounds_toArray, List.set_cons_zero, List.set_cons_succ]))
      (refine wpAnyH_take (i := 3) (v := ?v3n3) (by simp only [List.getElem?_toArray, List.getElem?_cons_succ, List.getElem?_cons_zero]; rfl) (by kernel_rfl) (by kernel_rfl) (by kernel_rfl) (fun _ _ _ h => False.elim h) (Or.inl ⟨by rfl, ?hy3n3⟩) (by assumption) ?rest3n3; (case hy3n3 => (intro w hSw; (try dsimp only at hSw); go_simp; (try with_reducible rfl))); (try simp only [Act.put, List.setIfInBounds_toArray, List.set_cons_zero, List.set_cons_succ]))
      (refine wpAnyH_take (i := 4) (v := ?v4n4) (by simp only [List.getElem?_toArray, List.getElem?_cons_succ, List.getElem?_cons_zero]; rfl) (by kernel_rfl) (by kernel_rfl) (by kernel_rfl) (fun _ _ _ h => False.elim h) (Or.inl ⟨by rfl, ?hy4n4⟩) (by assumption) ?rest4n4; (case hy4n4 => (intro w hSw; (try dsimp only at hSw); go_simp; (try with_reducible rfl))); (try simp only [Act.put, List.setIfInBounds_toArray, List.set_cons_zero, List.set_cons_succ]))
      (refine wpAnyH_ready (rs := [2]) (by kernel_rfl) (by simp) ?_; refine AllReadyH.cons (o := _) (by simp only [List.getElem?_toArray, List.getElem?_cons_succ, List.getElem?_cons_zero]; rfl) (fun K hK => ?_) AllReadyH.nil; go_simp; ((with_reducible refine (HSs.out _ (B10.out.trans (n0.mono B10.out.size))).mono ?_); rintro e w11 ⟨rfl, hb11⟩; have n1 := n0.trans (hb11.mono n0.size)); refine hK.out _ _ (by exact HSk.out _ n1) (fun hHeld => ?_); clear hK K; (try simp only [Act.put, List.setIfInBounds_toArray, List.set_cons_zero, List.set_cons_succ]))
      (refine wpAnyH_ready (rs := [5]) (by kernel_rfl) (by simp) ?_; refine AllReadyH.cons (o := _) (by simp only [List.getElem?_toArray, List.getElem?_cons_succ, List.getElem?_cons_zero]; rfl) (fun K hK => ?_) AllReadyH.nil; go_simp; ((with_reducible refine (HRS.out _ n1).mono ?_); rintro e w12 ⟨rfl, hb12⟩; have n2 := n1.trans (hb12.mono n1.size)); refine hK.out _ _ (by exact HSk.out _ n2) (fun hHeld => ?_); clear hK K; (try simp only [Act.put, List.setIfInBounds_toArray, List.set_cons_zero, List.set_cons_succ]))
      (refine wpAnyH_take (i := 6) (v := ?v6n5) (by simp only [List.getElem?_toArray, List.getElem?_cons_succ, List.getElem?_cons_zero]; rfl) (by kernel_rfl) (by kernel_rfl) (by kernel_rfl) (fun _ _ _ h => False.elim h) (Or.inl ⟨by rfl, ?hy6n5⟩) (by assumption) ?rest6n5; (case hy6n5 => (intro w hSw; (try dsimp only at hSw); go_simp; (try with_reducible rfl))); (try simp only [Act.put, List.setIfInBounds_toArray, List.set_cons_zero, List.set_cons_succ]))
      (refine wpAnyH_take (i := 7) (v := ?v7n6) (by simp only [List.getElem?_toArray, List.getElem?_cons_succ, List.getElem?_cons_zero]; rfl) (by kernel_rfl) (by kernel_rfl) (by kernel_rfl) (fun _ _ _ h => False.elim h) (Or.inl ⟨by rfl, ?hy7n6⟩) (by assumption) ?rest7n6; (case hy7n6 => (intro w hSw; (try dsimp only at hSw); go_simp; (try with_reducible rfl))); (try simp only [Act.put, List.setIfInBounds_toArray, List.set_cons_zero, List.set_cons_succ]))
      (refine wpAnyH_take (i := 8) (v := ?v8n7) (by simp only [List.getElem?_toArray, List.getElem?_cons_succ, List.getElem?_cons_zero]; rfl) (by kernel_rfl) (by kernel_rfl) (by kernel_rfl) (fun _ _ _ h => False.elim h) (Or.inl ⟨by rfl, ?hy8n7⟩) (by assumption) ?rest8n7; (case hy8n7 => (intro w hSw; (try dsimp only at hSw); go_simp; (try with_reducible rfl))); (try simp only [Act.put, List.setIfInBounds_toArray, List.set_cons_zero, List.set_cons_succ]))
      (refine wpAnyH_take (i := 9) (v := ?v9n8) (by simp only [List.getElem?_toArray, List.getElem?_cons_succ, List.getElem?_cons_zero]; rfl) (by kernel_rfl) (by kernel_rfl) (by kernel_rfl) (fun _ _ _ h => False.elim h) (Or.inl ⟨by rfl, ?hy9n8⟩) (by assumption) ?rest9n8; (case hy9n8 => (intro w hSw; (try dsimp only at hSw); go_simp; (try with_reducible rfl))); (try simp only [Act.put, List.setIfInBounds_toArray, List.set_cons_zero, List.set_cons_succ]))
      (refine wpAnyH_take (i := 11) (v := ?v11n9) (by simp only [List.getElem?_toArray, List.getElem?_cons_succ, List.getElem?_cons_zero]; rfl) (by kernel_rfl) (by kernel_rfl) (by kernel_rfl) (fun _ _ _ h => False.elim h) (Or.inl ⟨by rfl, ?hy11n9⟩) (by assumption) ?rest11n9; (case hy11n9 => (intro w hSw; (try dsimp only at hSw); go_simp; (try with_reducible rfl))); (try simp only [Act.put, List.setIfInBounds_toArray, List.set_cons_zero, List.set_cons_succ]))
      (refine wpAnyH_ready (rs := [10]) (by kernel_rfl) (by simp) ?_; refine AllReadyH.cons (o := _) (by simp only [List.getElem?_toArray, List.getElem?_cons_succ, List.getElem?_cons_zero]; rfl) (fun K hK => ?_) AllReadyH.nil; go_simp; ((with_reducible refine (HSn.out _ (B10.out.trans (n2.mono B10.out.size))).mono ?_); rintro e w13 ⟨rfl, hb13⟩; have n3 := n2.trans (hb13.mono n2.size)); refine hK.out _ _ (by exact HSk.out _ n3) (fun hHeld => ?_); clear hK K; (try simp only [Act.put, List.setIfInBounds_toArray, List.set_cons_zero, List.set_cons_succ]))
      (refine wpAnyH_ready (rs := [12]) (by kernel_rfl) (by simp) ?_; refine AllReadyH.cons (o := _) (by simp only [List.getElem?_toArray, List.getElem?_cons_succ, List.getElem?_cons_zero]; rfl) (fun K hK => ?_) AllReadyH.nil; go_simp; ((with_reducible refine (HRR.out _ n3).mono ?_); rintro e w14 ⟨rfl, hb14⟩; have n4 := n3.trans (hb14.mono n3.size)); refine hK.out _ _ (by exact HSk.out _ n4) (fun hHeld => ?_); clear hK K; (try simp only [Act.put, List.setIfInBounds_toArray, List.set_cons_zero, List.set_cons_succ]))
      (refine wpAnyH_take (i := 13) (v := ?v13n10) (by simp only [List.getElem?_toArray, List.getElem?_cons_succ, List.getElem?_cons_zero]; rfl) (by kernel_rfl) (by kernel_rfl) (by kernel_rfl) (fun _ _ _ h => False.elim h) (Or.inl ⟨by rfl, ?hy13n10⟩) (by assumption) ?rest13n10; (case hy13n10 => (intro w hSw; (try dsimp only at hSw); go_simp; (try with_reducible rfl))); (try simp only [Act.put, List.setIfInBounds_toArray, List.set_cons_zero, List.set_cons_succ]))
      (refine wpAnyH_take (i := 14) (v := ?v14n11) (by simp only [List.getElem?_toArray, List.getElem?_cons_succ, List.getElem?_cons_zero]; rfl) (by kernel_rfl) (by kernel_rfl) (by kernel_rfl) (fun _ _ _ h => False.elim h) (Or.inl ⟨by rfl, ?hy14n11⟩) (by assumption) ?rest14n11; (case hy14n11 => (intro w hSw; (try dsimp only at hSw); go_simp; (try with_reducible rfl))); (try simp only [Act.put, List.setIfInBounds_toArray, List.set_cons_zero, List.set_cons_succ]))
      refine wpAnyH_done (by kernel_rfl) ?_ _
      refine NoPanic.normal ?_
      have M14 := Lib.hid n4
      obtain ⟨⟨⟨p0, p1, p2, p3, p4, p5, p6, p7, p8⟩, q0, q1, q2, q3, q4, q5, q6, q7, q8⟩, _, _⟩ := HSk.out _ n4
      clear n0 n1 n2 n3 n4 hb11 hb12 hb13 hb14 hHeld HSs HRS HSn
      go_wp2_with fail
      with_reducible refine (HCopy.out _ (B10.out.trans (M14.out.mono B10.out.size))).mono ?_
      rintro e w15 ⟨cc, rfl, hc1, hc2, hic, hbc, hb15, how⟩
      rw [ho2] at hc1 hc2
      have hM15 := M14.out.trans (hb15.mono M14.out.size)
      cases o2 with
      | false =>
        have hcc := hc2 rfl
        have hz : nv (.mk 0 [0, 0, 0, 0] 0 0 [] none 0 []) = .agg #[.int .i64 0, .int .u64 0, .int .u64 0, .int .u64 0, .int .u64 0, .slice none 0 0, .int .i64 0, .int .i64 0, .string ⟨#[]⟩] := rfl
        rw [hcc, hz]
        have l16 : (w15.alloc (.cells #[.int .i64 0, .int .u64 0, .int .u64 0, .int .u64 0, .int .u64 0, .slice none 0 0, .int .i64 0, .int .i64 0, .string ⟨#[]⟩] 37 (0, 0))).heap[w15.heap.size]? = _ := World.alloc_heap_new w15 _
        have b16 : Below w15.heap.size w15 (w15.alloc (.cells #[.int .i64 0, .int .u64 0, .int .u64 0, .int .u64 0, .int .u64 0, .slice none 0 0, .int .i64 0, .int .i64 0, .string ⟨#[]⟩] 37 (0, 0))) := (Below.refl _ w15).alloc (Nat.le_refl _) _
        obtain ⟨W16, hW16⟩ : ∃ W16, w15.alloc (.cells #[.int .i64 0, .int .u64 0, .int .u64 0, .int .u64 0, .int .u64 0, .slice none 0 0, .int .i64 0, .int .i64 0, .string ⟨#[]⟩] 37 (0, 0)) = W16 := ⟨_, rfl⟩
        rw [hW16] at l16 b16
        have hM16 := hM15.trans (b16.mono hM15.size)
        obtain ⟨_, ⟨p0, p1, p2, p3, p4, p5, p6, p7, p8⟩, _⟩ := HSk.out _ hM16
        have M16 := Lib.hid hM16
        have L16 := Lib.hid l16
        have HW16 := Lib.hid hW16
        rw [← hW16] at p0 p1 p2 p3 p4 p5 p6 p7 p8
        clear hcc hz l16 b16 hW16 hM16 hc1 hc2 hic hbc hb15 how hM15 q0 q1 q2 q3 q4 q5 q6 q7 q8 HCopy HLast HSC
        go_wp2_with fail
        rw [HW16.out]
        with_reducible refine (HRR.out _ M16.out).mono ?_
        rintro e w17 ⟨rfl, hb17⟩
        have h17 := (hb17.block _ (block_lt L16.out)).trans L16.out
        have d0 := cell_block h17 0
        have d5 := cell_block h17 5
        simp only [List.getElem?_toArray, List.getElem?_cons_zero, List.getElem?_cons_succ] at d0 d5
        have M17 := Lib.hid (M16.out.trans (hb17.mono M16.out.size))
        clear hb17 h17 L16 HW16 p0 p1 p2 p3 p4 p5 p6 p7 p8
        go_wp2
        go_ret
        exact ⟨rfl, B10.out.trans (M17.out.mono B10.out.size)⟩
      | true =>
        have her3 : er cc = er n := hc1 rfl
        obtain ⟨z0, z1, z2, z3, hvs3⟩ := four' hic.len
        obtain ⟨k3, mn3, mx3, a3, nl3, c3, t3, hnv3, hcl3⟩ := nv_explicit hvs3
        have l16 : (w15.alloc (.cells #[.int .i64 k3, .int .u64 (z0 : Int), .int .u64 (z1 : Int), .int .u64 (z2 : Int), .int .u64 (z3 : Int), .slice a3 nl3 c3, .int .i64 mn3, .int .i64 mx3, .string (Str t3)] 37 (0, 0))).heap[w15.heap.size]? = _ := World.alloc_heap_new w15 _
        have b16 : Below w15.heap.size w15 (w15.alloc (.cells #[.int .i64 k3, .int .u64 (z0 : Int), .int .u64 (z1 : Int), .int .u64 (z2 : Int), .int .u64 (z3 : Int), .slice a3 nl3 c3, .int .i64 mn3, .int .i64 mx3, .string (Str t3)] 37 (0, 0))) := (Below.refl _ w15).alloc (Nat.le_refl _) _
        obtain ⟨W16, hW16⟩ : ∃ W16, w15.alloc (.cells #[.int .i64 k3, .int .u64 (z0 : Int), .int .u64 (z1 : Int), .int .u64 (z2 : Int), .int .u64 (z3 : Int), .slice a3 nl3 c3, .int .i64 mn3, .int .i64 mx3, .string (Str t3)] 37 (0, 0)) = W16 := ⟨_, rfl⟩
        rw [hW16] at l16 b16
        have hM16 := hM15.trans (b16.mono hM15.size)
        have hic16 := Is.mono b16.size (Is.below b16 hic)
        have how2 : ∃ xs, w15.ownsRow w14.heap.size 37 9 (.slice a3 nl3 c3) nl3 xs := by
          obtain ⟨q, hq, ho⟩ := how
          obtain ⟨kk, ss, kmn, kmx, kt, ka, kc, kks⟩ := cc
          simp only [Nd.set] at hvs3
          subst hvs3
          simp only [cells, w64, Nd.kind, Nd.set, Nd.a, Nd.kids, Nd.cap, Nd.mn, Nd.mx, Nd.text, List.map_cons, List.map_nil, List.cons_append, List.nil_append, List.cons.injEq, Value.slice.injEq, and_true, true_and] at hcl3
          obtain ⟨_, ⟨rfl, hl, rfl⟩, _⟩ := hcl3
          simp only [Nd.a, Nd.kids, Nd.cap] at hq ho
          rw [← hl, hq]
          exact ⟨_, ho⟩
        have hsc2 : ∀ W, Below W16.heap.size W16 W → Calls Tryd.prog 33 #[nv cc, .agg #[.int .i64 k, .int .u64 (x0 : Int), .int .u64 (x1 : Int), .int .u64 (x2 : Int), .int .u64 (x3 : Int), .slice a nl c, .int .i64 mn, .int .i64 mx, .string (Str t)]] W fun e w' => e = .returned (.bool true) ∧ Below W.heap.size W w' := fun W hb => HSC.out W (B10.out.trans ((hM16.trans (hb.mono hM16.size)).mono B10.out.size)) rfl cc her3 (Is.mono hb.size (Is.below hb hic16))
        rw [hnv3] at hsc2
        rw [hnv3]
        obtain ⟨⟨⟨p0, p1, p2, p3, p4, p5, p6, p7, p8⟩, _⟩, ⟨q0, q1, q2, q3, q4, q5, q6, q7, q8⟩, _⟩ := HSk.out _ hM16
        have M16 := Lib.hid hM16
        have L16 := Lib.hid l16
        have HW16 := Lib.hid hW16
        have HSC2 := Lib.hid hsc2
        have HOw := Lib.hid (And.intro how2 b16)
        rw [← hW16] at p0 p1 p2 p3 p4 p5 p6 p7 p8 q0 q1 q2 q3 q4 q5 q6 q7 q8
        have HB15 := Lib.hid hb15
        clear l16 b16 hW16 hM16 hc1 hc2 hic hic16 hbc hb15 how how2 hM15 HCopy HSC her3 hvs3 hnv3 hcl3 hsc2
        go_wp2_with fail
        rw [HW16.out]
        with_reducible refine (HRR.out _ M16.out).mono ?_
        rintro e w17 ⟨rfl, hb17⟩
        have hM17 := M16.out.trans (hb17.mono M16.out.size)
        obtain ⟨⟨⟨p0, p1, p2, p3, p4, p5, p6, p7, p8⟩, _⟩, _, _⟩ := HSk.out _ hM17
        obtain ⟨d0, d1, d2, d3, d4, d5, d6, d7, d8⟩ := nd_cells ((hb17.block _ (block_lt L16.out)).trans L16.out)
        have M17 := Lib.hid hM17
        have H17 := Lib.hid hb17
        clear hb17 hM17 q0 q1 q2 q3 q4 q5 q6 q7 q8
        go_wp2_with fail
        with_reducible refine (HSC2.out _ H17.out).mono ?_
        rintro e w18 ⟨rfl, hb18⟩
        have hb1618 := H17.out.trans (hb18.mono H17.out.size)
        have M18 := Lib.hid (M17.out.trans (hb18.mono M17.out.size))
        have l18 := (hb1618.block _ (block_lt L16.out)).trans L16.out
        obtain ⟨d0, d1, d2, d3, d4, d5, d6, d7, d8⟩ := nd_cells l18
        have L18 := Lib.hid l18
        have HOw18 : Hid (∃ xs, w18.ownsRow w14.heap.size 37 9 (.slice a3 nl3 c3) nl3 xs ∧ ∀ q, (Value.slice a3 nl3 c3).ownBlock = some q → w14.heap.size ≤ q ∧ q < w15.heap.size) := by
          obtain ⟨⟨xs, h⟩, b16⟩ := HOw.out
          exact Lib.hid ⟨xs, own_keep (own_keep h b16) hb1618, fun q hq => h.lt q hq⟩
        clear hb18 hb1618 l18 p0 p1 p2 p3 p4 p5 p6 p7 p8 HW16 HSC2 HOw H17 M17 L16
        go_wp2_with fail
        go_loopw [67] (fun i W => ∃ j : Nat, j ≤ nl3 ∧ i = .int .i64 (j : Int) ∧ (∃ xs, W.ownsRow w14.heap.size 37 9 (.slice a3 nl3 c3) nl3 xs) ∧ Mod ((Value.slice a3 nl3 c3).ownBlock).toList w18 W) (fun i _ => nl3 - (intOf i).toNat)
        case atStart => exact ⟨0, Nat.zero_le _, rfl, ⟨_, HOw18.out.choose_spec.1⟩, Mod.refl _ _⟩
        case round =>
          obtain ⟨j, hj, rfl, ⟨xs, hown⟩, hM⟩ := hrel
          have hbk := HOw18.out.choose_spec.2
          have hnl : nl3 ≤ 9223372036854775807 := by
            rcases hown.2 with ⟨_, h⟩ | ⟨_, cap, _, _, _, _, h, h', _⟩
            · omega
            · unfold maxLen at h'; omega
          have hlr := (hM.block _ (block_lt L18.out) (fun hq => by have := hbk _ (by simpa using hq); omega)).trans L18.out
          obtain ⟨d0, d1, d2, d3, d4, d5, d6, d7, d8⟩ := nd_cells hlr
          by_cases hjl : j < nl3
          · obtain ⟨g, hag, hg1, hg2⟩ := own_some' hown (by omega)
            subst hag
            obtain ⟨⟨s0, s1, s2, s3, s4, s5, s6, s7, s8, e0, e1, e2, e3, e4, e5, e6, e7, e8⟩, hput⟩ := row_any hown hjl
            have f0 := hown.frozenAt (j * 9)
            have f1 := hown.frozenAt (j * 9 + 1)
            have f2 := hown.frozenAt (j * 9 + 2)
            have f3 := hown.frozenAt (j * 9 + 3)
            have f4 := hown.frozenAt (j * 9 + 4)
            have f5 := hown.frozenAt (j * 9 + 5)
            have f6 := hown.frozenAt (j * 9 + 6)
            have f7 := hown.frozenAt (j * 9 + 7)
            have f8 := hown.frozenAt (j * 9 + 8)
            have hp2 := hput (.int .i64 5) (.int .u64 0) (.int .u64 0) (.int .u64 0) (.int .u64 0) (.slice none 0 0) (.int .i64 0) (.int .i64 0) (.string ⟨#[111, 116, 104, 101, 114]⟩)
            have hM2 := hM.trans hp2.2 (fun x hx => .inl (by simpa [Value.ownBlock] using hx))
            have HPut := Lib.hid (And.intro hp2.1 hM2)
            clear hp2 hM2 hput hown hM hlr hbk hg1 hg2
            go_wp2
            go_roundw
            case rel => exact ⟨j + 1, by omega, by go_num, HPut.out.1, HPut.out.2⟩
            case measure => simp [intOf]; omega
          · obtain rfl : j = nl3 := by omega
            clear d0 d1 d2 d3 d4 d5 d6 d7 d8
            have hMB : Below W10.heap.size W10 wr := M18.out.trans (hM.toBelow M18.out.size (fun q hq => by have := (hbk q (by simpa using hq)).1; have := M14.out.size; omega))
            obtain ⟨⟨⟨p0, p1, p2, p3, p4, p5, p6, p7, p8⟩, _⟩, _, _⟩ := HSk.out _ hMB
            have MB := Lib.hid hMB
            clear hMB hown hM hlr hbk hnl
            go_wp2_with fail
            with_reducible refine (HO.out _ (B10.out.trans (MB.out.mono B10.out.size))).mono ?_
            rintro e w20 ⟨n2, r4, rfl, hr4, _, hi4, _, hb20⟩
            obtain ⟨z0, z1, z2, z3, hvs4⟩ := four' hi4.len
            obtain ⟨k4, mn4, mx4, a4, nl4, c4, t4, hnv4, hcl4⟩ := nv_explicit hvs4
            have her4 : er n2 = er n := (hr4 HSz.out).2
            have l21 : (w20.alloc (.cells #[.int .i64 k4, .int .u64 (z0 : Int), .int .u64 (z1 : Int), .int .u64 (z2 : Int), .int .u64 (z3 : Int), .slice a4 nl4 c4, .int .i64 mn4, .int .i64 mx4, .string (Str t4)] 44 (0, 0))).heap[w20.heap.size]? = _ := World.alloc_heap_new w20 _
            have b21 : Below w20.heap.size w20 (w20.alloc (.cells #[.int .i64 k4, .int .u64 (z0 : Int), .int .u64 (z1 : Int), .int .u64 (z2 : Int), .int .u64 (z3 : Int), .slice a4 nl4 c4, .int .i64 mn4, .int .i64 mx4, .string (Str t4)] 44 (0, 0))) := (Below.refl _ w20).alloc (Nat.le_refl _) _
            obtain ⟨W21, hW21⟩ : ∃ W21, w20.alloc (.cells #[.int .i64 k4, .int .u64 (z0 : Int), .int .u64 (z1 : Int), .int .u64 (z2 : Int), .int .u64 (z3 : Int), .slice a4 nl4 c4, .int .i64 mn4, .int .i64 mx4, .string (Str t4)] 44 (0, 0)) = W21 := ⟨_, rfl⟩
            rw [hW21] at l21 b21
            have hM21 := MB.out.trans ((hb20.mono MB.out.size).trans (b21.mono (by have := MB.out.size; have := hb20.size; omega)))
            have hi21 := Is.mono b21.size (Is.below b21 hi4)
            have hla := HLast.out W21 hM21 (by first | rfl | trivial) n2 her4 hi21
            rw [hnv4] at hla
            rw [hnv4]
            obtain ⟨_, ⟨q0, q1, q2, q3, q4, q5, q6, q7, q8⟩, _⟩ := HSk.out _ hM21
            obtain ⟨g0, g1, g2, g3, g4, g5, g6, g7, g8⟩ := nd_cells l21
            rw [← hW21] at q0 q1 q2 q3 q4 q5 q6 q7 q8 g0 g1 g2 g3 g4 g5 g6 g7 g8
            have HLa := Lib.hid hla
            have M21 := Lib.hid hM21
            have HW21 := Lib.hid hW21
            clear hr4 hi4 hb20 hvs4 hnv4 hcl4 her4 l21 b21 hW21 hM21 hi21 hla p0 p1 p2 p3 p4 p5 p6 p7 p8
            go_wp2_with fail
            rw [HW21.out]
            with_reducible refine HLa.out.mono ?_
            rintro e w22 ⟨rfl, hb22⟩
            go_wp2
            go_ret
            exact ⟨rfl, B10.out.trans ((M21.out.trans (hb22.mono M21.out.size)).mono B10.out.size)⟩
end Tr
end Go.Proofs.YteekonojmpihlaaDoor
