import Derived.Test.YtoeeddfinmfnoaaDoorQTreeRRt
import Derived.Test.YtoeeddfinmfnoaaDoorQTreeBnd
import Derived.Test.YtoeeddfinmfnoaaDoorQRxOd
import Derived.Test.YtoeeddfinmfnoaaDoorQTreeSm
import Derived.Test.YtoeeddfinmfnoaaDoorQSets7
import Derived.Deep.RegionHeld3
import Derived.Deep.DeepCutAuto
/- dofferref07.Same. -/
namespace Go.Proofs.YtoeeddfinmfnoaaDoor
namespace Kt
end Kt
namespace St
end St
namespace Sp
end Sp
namespace Bk
end Bk
open Go Go.RowKit Kt St Sp Bk
namespace Tr
theorem neq_ref (xs ys : List Nat) (hx : xs.length = 4) (hy : ys.length = 4) (w : World) : (binOp .neq 23 (sv xs) (sv ys)).run Tryd.prog w = .ok (.bool (!decide (xs = ys))) w := by
  have u3 := Tryd.underlying22
  obtain ⟨i, hi⟩ : ∃ i, Tryd.prog.info? 22 = some i := Option.isSome_iff_exists.1 (by kernel_rfl)
  have hce : Tryd.prog.cellsOf 22 = 1 := by kernel_rfl
  obtain ⟨x0, x1, x2, x3, rfl⟩ := four hx
  obtain ⟨y0, y1, y2, y3, rfl⟩ := four hy
  simp only [sv, vals, List.map_cons, List.map_nil]
  rw [run_neq_struct, show (10000 : Nat) = 9999 + 1 from rfl, run_equalIn_array (P := Tryd.prog) w 9999 _ _ Tryd.underlying23 hi, hce]
  rw [show List.range 4 = [0, 1, 2, 3] from rfl]
  simp only [Op.eqItems]
  go_simp
  by_cases h0 : x0 = y0 <;> by_cases h1 : x1 = y1 <;> by_cases h2 : x2 = y2 <;> by_cases h3 : x3 = y3 <;> simp [h0, h1, h2, h3] <;> (intros; omega)
theorem cellk {W W' : World} {p : Addr} {v : Value} (hb : Below W.heap.size W W') (h : W.cell? p = some v) : W'.cell? p = some v := (hb.cell (World.block_lt_of_cell? W p (by rw [h]))).trans h
theorem two_new (W : World) (A B : Obj) : ((W.alloc A).alloc B).drew.heap[W.heap.size]? = some A ∧ ((W.alloc A).alloc B).drew.heap[W.heap.size + 1]? = some B ∧ Below W.heap.size W ((W.alloc A).alloc B).drew := by
  have z1 : (W.alloc A).heap.size = W.heap.size + 1 := by simp
  refine ⟨block_alloc (World.alloc_heap_new W A), ?_, (((Below.refl _ W).alloc (Nat.le_refl _) _).alloc (by simp) _).drew⟩
  rw [← z1]
  exact World.alloc_heap_new _ B
set_option maxRecDepth 100000 in
set_option maxHeartbeats 16000000 in
/-- dofferref07.Same. -/
theorem rsame_c (n m : Nd) (ht : ∀ x ∈ walk n, x.1.text.length ≤ 9223372036854775807) (ht' : ∀ x ∈ walk m, x.1.text.length ≤ 9223372036854775807) (w : World) (hIs : Is w.heap.size w n) (hIs' : Is w.heap.size w m) :
    Calls Tryd.prog 18 #[nv n, nv m] w fun e w' => e = .returned (.bool (rgt n && (rgt m && sm n m))) ∧ Below w.heap.size w w' := by
  have hI := fun (W : World) (hb : Below w.heap.size w W) => Is.mono hb.size (Is.below hb hIs)
  have hI' := fun (W : World) (hb : Below w.heap.size w W) => Is.mono hb.size (Is.below hb hIs')
  have hr := fun W hb => rright_c n ht W (hI W hb)
  have hr' := fun W hb => rright_c m ht' W (hI' W hb)
  have hwk := fun W hb => rwalk_c n W (hI W hb)
  have hwk' := fun W hb => rwalk_c m W (hI' W hb)
  have hwl := walk_len hIs
  have hwl' := walk_len hIs'
  have hst : rgt n = true → rgt m = true → ((walk n).map st = (walk m).map st ↔ sm n m = true) := fun h1 h2 => (same_iff h1 h2).trans (sm_iff n m).symm
  obtain ⟨x0, x1, x2, x3, hxs⟩ := four' hIs.len
  obtain ⟨y0, y1, y2, y3, hys⟩ := four' hIs'.len
  obtain ⟨k, mn, mx, a, nl, c, t, hnv, _⟩ := nv_explicit hxs
  obtain ⟨k', mn', mx', a', nl', c', t', hnv', _⟩ := nv_explicit hys
  rw [hnv] at hr hwk ⊢
  rw [hnv'] at hr' hwk' ⊢
  obtain ⟨la, hla⟩ : ∃ la, walk n = la := ⟨_, rfl⟩
  obtain ⟨lb, hlb⟩ : ∃ lb, walk m = lb := ⟨_, rfl⟩
  have h6a : la.length ≤ 601 := by rw [← hla]; simp only [walk, List.length_take]; omega
  have h6b : lb.length ≤ 601 := by rw [← hlb]; simp only [walk, List.length_take]; omega
  rw [hla] at hwk hwl hst
  rw [hlb] at hwk' hwl' hst
  obtain ⟨La, hLa⟩ : ∃ La, la.length = La := ⟨_, rfl⟩
  obtain ⟨Lb, hLb⟩ : ∃ Lb, lb.length = Lb := ⟨_, rfl⟩
  rw [hLa] at hwk h6a
  rw [hLb] at hwk' h6b
  obtain ⟨B1, hB1⟩ : ∃ B1, Obj.cells #[.int .i64 k, .int .u64 (x0 : Int), .int .u64 (x1 : Int), .int .u64 (x2 : Int), .int .u64 (x3 : Int), .slice a nl c, .int .i64 mn, .int .i64 mx, .string (Str t)] 31 (0, 0) = B1 := ⟨_, rfl⟩
  obtain ⟨B2, hB2⟩ : ∃ B2, Obj.cells #[.int .i64 k', .int .u64 (y0 : Int), .int .u64 (y1 : Int), .int .u64 (y2 : Int), .int .u64 (y3 : Int), .slice a' nl' c', .int .i64 mn', .int .i64 mx', .string (Str t')] 31 (0, 0) = B2 := ⟨_, rfl⟩
  have z1 : (w.alloc B1).heap.size = w.heap.size + 1 := by simp
  have l1 : ((w.alloc B1).alloc B2).heap[w.heap.size]? = some B1 := block_alloc (World.alloc_heap_new w B1)
  have l2 : ((w.alloc B1).alloc B2).heap[w.heap.size + 1]? = some B2 := by rw [← z1]; exact World.alloc_heap_new _ B2
  have hB : Below w.heap.size w ((w.alloc B1).alloc B2) := ((Below.refl _ w).alloc (Nat.le_refl _) _).alloc (by simp) _
  obtain ⟨W3, hW3⟩ : ∃ W3, (w.alloc B1).alloc B2 = W3 := ⟨_, rfl⟩
  rw [hW3] at l1 l2 hB
  rw [← hB1, ← hB2] at hW3
  rw [← hB1] at l1
  rw [← hB2] at l2
  clear hB1 hB2 z1 B1 B2
  have hcl : ∀ (W : World), Below W3.heap.size W3 W → (W.cell? ⟨w.heap.size, 0, none⟩ = some (.int .i64 k) ∧ W.cell? ⟨w.heap.size, 1, none⟩ = some (.int .u64 (x0 : Int)) ∧ W.cell? ⟨w.heap.size, 2, none⟩ = some (.int .u64 (x1 : Int)) ∧ W.cell? ⟨w.heap.size, 3, none⟩ = some (.int .u64 (x2 : Int)) ∧ W.cell? ⟨w.heap.size, 4, none⟩ = some (.int .u64 (x3 : Int)) ∧ W.cell? ⟨w.heap.size, 5, none⟩ = some (.slice a nl c) ∧ W.cell? ⟨w.heap.size, 6, none⟩ = some (.int .i64 mn) ∧ W.cell? ⟨w.heap.size, 7, none⟩ = some (.int .i64 mx) ∧ W.cell? ⟨w.heap.size, 8, none⟩ = some (.string (Str t))) ∧
      (W.cell? ⟨w.heap.size + 1, 0, none⟩ = some (.int .i64 k') ∧ W.cell? ⟨w.heap.size + 1, 1, none⟩ = some (.int .u64 (y0 : Int)) ∧ W.cell? ⟨w.heap.size + 1, 2, none⟩ = some (.int .u64 (y1 : Int)) ∧ W.cell? ⟨w.heap.size + 1, 3, none⟩ = some (.int .u64 (y2 : Int)) ∧ W.cell? ⟨w.heap.size + 1, 4, none⟩ = some (.int .u64 (y3 : Int)) ∧ W.cell? ⟨w.heap.size + 1, 5, none⟩ = some (.slice a' nl' c') ∧ W.cell? ⟨w.heap.size + 1, 6, none⟩ = some (.int .i64 mn') ∧ W.cell? ⟨w.heap.size + 1, 7, none⟩ = some (.int .i64 mx') ∧ W.cell? ⟨w.heap.size + 1, 8, none⟩ = some (.string (Str t'))) :=
    fun W hb => And.intro (nd_cells ((hb.block _ (block_lt l1)).trans l1)) (nd_cells ((hb.block _ (block_lt l2)).trans l2))
  have HR := Lib.hid hr
  have HR' := Lib.hid hr'
  have HK := Lib.hid hwk
  have HK' := Lib.hid hwk'
  have HC := Lib.hid hcl
  have HB := Lib.hid hB
  have HW3 := Lib.hid hW3
  have HL := Lib.hid (And.intro hLa (And.intro hLb (And.intro hwl hwl')))
  obtain ⟨rn, hrn⟩ : ∃ rn, rgt n = rn := ⟨_, rfl⟩
  obtain ⟨rm, hrm⟩ : ∃ rm, rgt m = rm := ⟨_, rfl⟩
  rw [hrn] at HR hst ⊢
  rw [hrm] at HR' hst ⊢
  obtain ⟨o, ho⟩ : ∃ o, sm n m = o := ⟨_, rfl⟩
  rw [ho] at hst ⊢
  have HSt := Lib.hid hst
  clear hr hr' hwk hwk' hcl hB hW3 l1 l2 hI hI' hnv hnv' hxs hys ht ht' hIs hIs' hwl hwl' hst ho hla hlb hLa hLb hrn hrm
  go_enter Tryd.func18, Tryd.ntmps18
  go_wp2_with fail
  rw [HW3.out]
  have n0 : Below W3.heap.size W3 W3.drew := (Below.refl _ _).drew
  refine wp_region_noPanic ?_
  refine wp_region_held_drew (S := fun W => (W.cell? ⟨w.heap.size, 0, none⟩ = some (.int .i64 k) ∧ W.cell? ⟨w.heap.size, 1, none⟩ = some (.int .u64 (x0 : Int)) ∧ W.cell? ⟨w.heap.size, 2, none⟩ = some (.int .u64 (x1 : Int)) ∧ W.cell? ⟨w.heap.size, 3, none⟩ = some (.int .u64 (x2 : Int)) ∧ W.cell? ⟨w.heap.size, 4, none⟩ = some (.int .u64 (x3 : Int)) ∧ W.cell? ⟨w.heap.size, 5, none⟩ = some (.slice a nl c) ∧ W.cell? ⟨w.heap.size, 6, none⟩ = some (.int .i64 mn) ∧ W.cell? ⟨w.heap.size, 7, none⟩ = some (.int .i64 mx) ∧ W.cell? ⟨w.heap.size, 8, none⟩ = some (.string (Str t))) ∧
      (W.cell? ⟨w.heap.size + 1, 0, none⟩ = some (.int .i64 k') ∧ W.cell? ⟨w.heap.size + 1, 1, none⟩ = some (.int .u64 (y0 : Int)) ∧ W.cell? ⟨w.heap.size + 1, 2, none⟩ = some (.int .u64 (y1 : Int)) ∧ W.cell? ⟨w.heap.size + 1, 3, none⟩ = some (.int .u64 (y2 : Int)) ∧ W.cell? ⟨w.heap.size + 1, 4, none⟩ = some (.int .u64 (y3 : Int)) ∧ W.cell? ⟨w.heap.size + 1, 5, none⟩ = some (.slice a' nl' c') ∧ W.cell? ⟨w.heap.size + 1, 6, none⟩ = some (.int .i64 mn') ∧ W.cell? ⟨w.heap.size + 1, 7, none⟩ = some (.int .i64 mx') ∧ W.cell? ⟨w.heap.size + 1, 8, none⟩ = some (.string (Str t')))) (by kernel_rfl) (HC.out _ n0) (fun hHeld => ?_)
  (refine wpAnyH_take (i := 0) (v := ?v0n1) (by simp only [List.getElem?_toArray, List.getElem?_cons_succ, List.getElem?_cons_zero]; rfl) (by kernel_rfl) (by kernel_rfl) (by kernel_rfl) (fun _ _ _ h => False.elim h) (Or.inl ⟨by rfl, ?hy0n1⟩) (by assumption) ?rest0n1; (case hy0n1 => (intro w hSw; (try dsimp only at hSw); go_simp; (try with_reducible rfl))); (try simp only [Act.put, List.setIfInBounds_toArray, List.set_cons_zero, List.set_cons_succ]))
  (refine wpAnyH_take (i := 2) (v := ?v2n2) (by simp only [List.getElem?_toArray, List.getElem?_cons_succ, List.getElem?_cons_zero]; rfl) (by kernel_rfl) (by kernel_rfl) (by kernel_rfl) (fun _ _ _ h => False.elim h) (Or.inl ⟨by rfl, ?hy2n2⟩) (by assumption) ?rest2n2; (case hy2n2 => (intro w hSw; (try dsimp only at hSw); go_simp; (try with_reducible rfl))); (try simp only [Act.put, List.setIfInBounds_toArray, List.set_cons_zero, List.set_cons_succ]))
  (refine wpAnyH_ready (rs := [1]) (by kernel_rfl) (by simp) ?_; refine AllReadyH.cons (o := _) (by simp only [List.getElem?_toArray, List.getElem?_cons_succ, List.getElem?_cons_zero]; rfl) (fun K hK => ?_) AllReadyH.nil; go_simp; ((with_reducible refine (HK.out _ (HB.out.trans (n0.mono HB.out.size))).mono ?_); rintro e w4 ⟨ra, rc, rfl, hwra, hb4⟩; have n1 := n0.trans (hb4.mono n0.size)); refine hK.out _ _ (by exact HC.out _ n1) (fun hHeld => ?_); clear hK K; (try simp only [Act.put, List.setIfInBounds_toArray, List.set_cons_zero, List.set_cons_succ]))
  (refine wpAnyH_ready (rs := [3]) (by kernel_rfl) (by simp) ?_; refine AllReadyH.cons (o := _) (by simp only [List.getElem?_toArray, List.getElem?_cons_succ, List.getElem?_cons_zero]; rfl) (fun K hK => ?_) AllReadyH.nil; go_simp; ((with_reducible refine (HK'.out _ (HB.out.trans (n1.mono HB.out.size))).mono ?_); rintro e w5 ⟨rb, rcb, rfl, hwrb, hb5⟩; have n2 := n1.trans (hb5.mono n1.size)); refine hK.out _ _ (by exact HC.out _ n2) (fun hHeld => ?_); clear hK K; (try simp only [Act.put, List.setIfInBounds_toArray, List.set_cons_zero, List.set_cons_succ]))
  (refine wpAnyH_take (i := 4) (v := ?v4n3) (by simp only [List.getElem?_toArray, List.getElem?_cons_succ, List.getElem?_cons_zero]; rfl) (by kernel_rfl) (by kernel_rfl) (by kernel_rfl) (fun _ _ _ h => False.elim h) (Or.inl ⟨by rfl, ?hy4n3⟩) (by assumption) ?rest4n3; (case hy4n3 => (intro w hSw; (try dsimp only at hSw); go_simp; (try with_reducible rfl))); (try simp only [Act.put, List.setIfInBounds_toArray, List.set_cons_zero, List.set_cons_succ]))
  (refine wpAnyH_take (i := 5) (v := ?v5n4) (by simp only [List.getElem?_toArray, List.getElem?_cons_succ, List.getElem?_cons_zero]; rfl) (by kernel_rfl) (by kernel_rfl) (by kernel_rfl) (fun _ _ _ h => False.elim h) (Or.inl ⟨by rfl, ?hy5n4⟩) (by assumption) ?rest5n4; (case hy5n4 => (intro w hSw; (try dsimp only at hSw); go_simp; (try with_reducible rfl))); (try simp only [Act.put, List.setIfInBounds_toArray, List.set_cons_zero, List.set_cons_succ]))
  refine wpAnyH_done (by kernel_rfl) ?_ _
  refine NoPanic.normal ?_
  have HRa := Lib.hid ((wr_rd hwra).keep hb5)
  have HRb := Lib.hid (wr_rd hwrb)
  have N2 := Lib.hid n2
  have HB5 := Lib.hid (HB.out.trans (n2.mono HB.out.size))
  obtain ⟨⟨p0, p1, p2, p3, p4, p5, p6, p7, p8⟩, q0, q1, q2, q3, q4, q5, q6, q7, q8⟩ := HC.out _ n2
  clear hwra hwrb hb4 hb5 n0 n1 n2 hHeld
  cases rn with
  | false =>
    go_wp2_with fail
    with_reducible refine (HR.out _ HB5.out).mono ?_
    rintro e w6 ⟨rfl, hb6⟩
    go_wp2
    go_ret
    exact ⟨rfl, HB5.out.trans (hb6.mono HB5.out.size)⟩
  | true =>
    go_wp2_with fail
    with_reducible refine (HR.out _ HB5.out).mono ?_
    rintro e w6 ⟨rfl, hb6⟩
    have HB6 := Lib.hid (HB5.out.trans (hb6.mono HB5.out.size))
    have N6 := Lib.hid (N2.out.trans (hb6.mono N2.out.size))
    have HB56 := Lib.hid hb6
    obtain ⟨_, q0, q1, q2, q3, q4, q5, q6, q7, q8⟩ := HC.out _ N6.out
    clear hb6
    cases rm with
    | false =>
      go_wp2_with fail
      with_reducible refine (HR'.out _ HB6.out).mono ?_
      rintro e w7 ⟨rfl, hb7⟩
      go_wp2
      go_ret
      exact ⟨rfl, HB6.out.trans (hb7.mono HB6.out.size)⟩
    | true =>
      have HIff : Hid (la.map st = lb.map st ↔ o = true) := Lib.hid (HSt.out (by first | rfl | trivial) (by first | rfl | trivial))
      clear HSt
      by_cases hne : La = Lb
      · subst hne
        go_wp2_with fail
        with_reducible refine (HR'.out _ HB6.out).mono ?_
        rintro e w7 ⟨rfl, hb7⟩
        have HB7 := Lib.hid (HB6.out.trans (hb7.mono HB6.out.size))
        have HRa := Lib.hid ((HRa.out.keep HB56.out).keep hb7)
        have HRb := Lib.hid ((HRb.out.keep HB56.out).keep hb7)
        clear hb7 q0 q1 q2 q3 q4 q5 q6 q7 q8 p0 p1 p2 p3 p4 p5 p6 p7 p8
        go_wp2_with fail
        go_loopw [31] (fun i W => ∃ j : Nat, j ≤ La ∧ i = .int .i64 (j : Int) ∧ (la.take j).map st = (lb.take j).map st ∧ Below w7.heap.size w7 W) (fun i _ => La - (intOf i).toNat)
        case atStart => exact ⟨0, Nat.zero_le _, rfl, rfl, Below.refl _ _⟩
        case round =>
          obtain ⟨j, hj, rfl, hall, hb⟩ := hrel
          by_cases hjl : j < La
          · have hja : j < la.length := by rw [HL.out.1]; exact hjl
            have hjb : j < lb.length := by rw [HL.out.2.1]; exact hjl
            obtain ⟨xb, xo, rfl, hcs⟩ := step_at (HRa.out.keep hb) HL.out.2.2.1 j hja
            obtain ⟨yb, yo, rfl, hct⟩ := step_at (HRb.out.keep hb) HL.out.2.2.2 j hjb
            have hs1 := HL.out.2.2.1 _ (List.getElem_mem hja)
            have hs2 := HL.out.2.2.2 _ (List.getElem_mem hjb)
            have hna : (la.take (j + 1)).map st = (la.take j).map st ++ [st la[j]] := map_take' st la j hja
            have hnb : (lb.take (j + 1)).map st = (lb.take j).map st ++ [st lb[j]] := map_take' st lb j hjb
            have hyes : st la[j] = st lb[j] → (la.take (j + 1)).map st = (lb.take (j + 1)).map st := fun h => by rw [hna, hnb, hall, h]
            have hno : st la[j] ≠ st lb[j] → o = false := fun h => by
              rw [Bool.eq_false_iff]
              intro ho
              apply h
              have h1 := HIff.out.2 ho
              have h2 := congrArg (fun l => l[j]?) h1
              simp only [List.getElem?_map, List.getElem?_eq_getElem hja, List.getElem?_eq_getElem hjb, Option.map_some, Option.some.injEq] at h2
              exact h2
            obtain ⟨⟨X, lv⟩, hX⟩ : ∃ x, la[j] = x := ⟨_, rfl⟩
            obtain ⟨⟨Y, lw⟩, hY⟩ : ∃ x, lb[j] = x := ⟨_, rfl⟩
            rw [hX] at hcs hs1 hyes hno
            rw [hY] at hct hs2 hyes hno
            obtain ⟨e0, e1, e2, e3, hes⟩ := four' hs1
            obtain ⟨g0, g1, g2, g3, hgs⟩ := four' hs2
            obtain ⟨xk, xs, xmn, xmx, xt, xa, xc, xks⟩ := X
            obtain ⟨yk, ys, ymn, ymx, yt, ya, yc, yks⟩ := Y
            simp only [Nd.set] at hes hgs
            subst hes hgs
            have a0 := hcs 0 _ rfl (by omega)
            have a1 := hcs 1 _ rfl (by omega)
            have a2 := hcs 2 _ rfl (by omega)
            have a3 := hcs 3 _ rfl (by omega)
            have a4 := hcs 4 _ rfl (by omega)
            have a5 := hcs 5 _ rfl (by omega)
            have a6 := hcs 6 _ rfl (by omega)
            have a7 := hcs 7 _ rfl (by omega)
            have a8 := hcs 8 _ rfl (by omega)
            have a9 := hcs 9 _ rfl (by omega)
            have a10 := hcs 10 _ rfl (by omega)
            have b0 := hct 0 _ rfl (by omega)
            have b1 := hct 1 _ rfl (by omega)
            have b2 := hct 2 _ rfl (by omega)
            have b3 := hct 3 _ rfl (by omega)
            have b4 := hct 4 _ rfl (by omega)
            have b5 := hct 5 _ rfl (by omega)
            have b6 := hct 6 _ rfl (by omega)
            have b7 := hct 7 _ rfl (by omega)
            have b8 := hct 8 _ rfl (by omega)
            have b9 := hct 9 _ rfl (by omega)
            have b10 := hct 10 _ rfl (by omega)
            simp only [← Nat.add_assoc, Nat.add_zero, Nd.kind, Nd.kids, Nd.mn, Nd.mx, Nd.text] at a0 a1 a2 a3 a4 a5 a6 a7 a8 a9 a10 b0 b1 b2 b3 b4 b5 b6 b7 b8 b9 b10
            simp only [st, Nd.kind, Nd.set, Nd.kids, Nd.mn, Nd.mx, Nd.text] at hyes hno
            obtain ⟨xl, hxl⟩ : ∃ xl, xks.length = xl := ⟨_, rfl⟩
            obtain ⟨yl, hyl⟩ : ∃ yl, yks.length = yl := ⟨_, rfl⟩
            rw [hxl] at a10 hyes hno
            rw [hyl] at b10 hyes hno
            have HYes := Lib.hid hyes
            have HNo := Lib.hid hno
            have HBb := Lib.hid hb
            clear hyes hno hb hall hna hnb hX hY hs1 hs2 hcs hct hxl hyl
            have hsk : ∀ W, Below wr.heap.size wr W → (W.cell? ⟨xb, xo + j * 11, none⟩ = some (.int .i64 xk) ∧ W.cell? ⟨xb, xo + j * 11 + 1, none⟩ = some (.int .u64 (e0 : Int)) ∧ W.cell? ⟨xb, xo + j * 11 + 2, none⟩ = some (.int .u64 (e1 : Int)) ∧ W.cell? ⟨xb, xo + j * 11 + 3, none⟩ = some (.int .u64 (e2 : Int)) ∧ W.cell? ⟨xb, xo + j * 11 + 4, none⟩ = some (.int .u64 (e3 : Int)) ∧ W.cell? ⟨xb, xo + j * 11 + 5, none⟩ = some (.slice none 0 0) ∧ W.cell? ⟨xb, xo + j * 11 + 6, none⟩ = some (.int .i64 xmn) ∧ W.cell? ⟨xb, xo + j * 11 + 7, none⟩ = some (.int .i64 xmx) ∧ W.cell? ⟨xb, xo + j * 11 + 8, none⟩ = some (.string (Str xt))) ∧ (W.cell? ⟨yb, yo + j * 11, none⟩ = some (.int .i64 yk) ∧ W.cell? ⟨yb, yo + j * 11 + 1, none⟩ = some (.int .u64 (g0 : Int)) ∧ W.cell? ⟨yb, yo + j * 11 + 2, none⟩ = some (.int .u64 (g1 : Int)) ∧ W.cell? ⟨yb, yo + j * 11 + 3, none⟩ = some (.int .u64 (g2 : Int)) ∧ W.cell? ⟨yb, yo + j * 11 + 4, none⟩ = some (.int .u64 (g3 : Int)) ∧ W.cell? ⟨yb, yo + j * 11 + 5, none⟩ = some (.slice none 0 0) ∧ W.cell? ⟨yb, yo + j * 11 + 6, none⟩ = some (.int .i64 ymn) ∧ W.cell? ⟨yb, yo + j * 11 + 7, none⟩ = some (.int .i64 ymx) ∧ W.cell? ⟨yb, yo + j * 11 + 8, none⟩ = some (.string (Str yt))) := fun W hb => by
              exact ⟨⟨cellk hb a0, cellk hb a1, cellk hb a2, cellk hb a3, cellk hb a4, cellk hb a5, cellk hb a6, cellk hb a7, cellk hb a8⟩, cellk hb b0, cellk hb b1, cellk hb b2, cellk hb b3, cellk hb b4, cellk hb b5, cellk hb b6, cellk hb b7, cellk hb b8⟩
            have hbx := two_new wr
            have HSk := Lib.hid hsk
            have HBx := Lib.hid hbx
            have HA9 := Lib.hid (And.intro a9 (And.intro a10 (And.intro b9 b10)))
            clear hsk hbx a9 a10 b9 b10
            go_wp2_with fail
            go_cut [8, 9] (fun p q W => ∃ p8 q8 : Nat, p = .pointer (some ⟨p8, 0, none⟩) ∧ q = .pointer (some ⟨q8, 0, none⟩) ∧ W.heap[p8]? = some (.cells #[.int .i64 xk, .int .u64 (e0 : Int), .int .u64 (e1 : Int), .int .u64 (e2 : Int), .int .u64 (e3 : Int), .slice none 0 0, .int .i64 xmn, .int .i64 xmx, .string (Str xt)] 31 (0, 0)) ∧ W.heap[q8]? = some (.cells #[.int .i64 yk, .int .u64 (g0 : Int), .int .u64 (g1 : Int), .int .u64 (g2 : Int), .int .u64 (g3 : Int), .slice none 0 0, .int .i64 ymn, .int .i64 ymx, .string (Str yt)] 31 (0, 0)) ∧ Below wr.heap.size wr W)
            case first =>
              have n0 : Below wr.heap.size wr wr.drew := (Below.refl _ _).drew
              refine wp_region_noPanic ?_
              refine wp_region_held_drew (S := fun W => (W.cell? ⟨xb, xo + j * 11, none⟩ = some (.int .i64 xk) ∧ W.cell? ⟨xb, xo + j * 11 + 1, none⟩ = some (.int .u64 (e0 : Int)) ∧ W.cell? ⟨xb, xo + j * 11 + 2, none⟩ = some (.int .u64 (e1 : Int)) ∧ W.cell? ⟨xb, xo + j * 11 + 3, none⟩ = some (.int .u64 (e2 : Int)) ∧ W.cell? ⟨xb, xo + j * 11 + 4, none⟩ = some (.int .u64 (e3 : Int)) ∧ W.cell? ⟨xb, xo + j * 11 + 5, none⟩ = some (.slice none 0 0) ∧ W.cell? ⟨xb, xo + j * 11 + 6, none⟩ = some (.int .i64 xmn) ∧ W.cell? ⟨xb, xo + j * 11 + 7, none⟩ = some (.int .i64 xmx) ∧ W.cell? ⟨xb, xo + j * 11 + 8, none⟩ = some (.string (Str xt))) ∧ (W.cell? ⟨yb, yo + j * 11, none⟩ = some (.int .i64 yk) ∧ W.cell? ⟨yb, yo + j * 11 + 1, none⟩ = some (.int .u64 (g0 : Int)) ∧ W.cell? ⟨yb, yo + j * 11 + 2, none⟩ = some (.int .u64 (g1 : Int)) ∧ W.cell? ⟨yb, yo + j * 11 + 3, none⟩ = some (.int .u64 (g2 : Int)) ∧ W.cell? ⟨yb, yo + j * 11 + 4, none⟩ = some (.int .u64 (g3 : Int)) ∧ W.cell? ⟨yb, yo + j * 11 + 5, none⟩ = some (.slice none 0 0) ∧ W.cell? ⟨yb, yo + j * 11 + 6, none⟩ = some (.int .i64 ymn) ∧ W.cell? ⟨yb, yo + j * 11 + 7, none⟩ = some (.int .i64 ymx) ∧ W.cell? ⟨yb, yo + j * 11 + 8, none⟩ = some (.string (Str yt)))) (by kernel_rfl) (HSk.out _ n0) (fun hHeld => ?_)
              (refine wpAnyH_take (i := 0) (v := ?v0n5) (by simp only [List.getElem?_toArray, List.getElem?_cons_succ, List.getElem?_cons_zero]; rfl) (by kernel_rfl) (by kernel_rfl) (by kernel_rfl) (fun _ _ _ h => False.elim h) (Or.inl ⟨by rfl, ?hy0n5⟩) (by assumption) ?rest0n5; (case hy0n5 => (intro w hSw; (try dsimp only at hSw); go_simp; (try with_reducible rfl))); (try simp only [Act.put, List.setIfInBounds_toArray, List.set_cons_zero, List.set_cons_succ]))
              (refine wpAnyH_take (i := 1) (v := ?v1n6) (by simp only [List.getElem?_toArray, List.getElem?_cons_succ, List.getElem?_cons_zero]; rfl) (by kernel_rfl) (by kernel_rfl) (by kernel_rfl) (fun _ _ _ h => False.elim h) (Or.inl ⟨by rfl, ?hy1n6⟩) (by assumption) ?rest1n6; (case hy1n6 => (intro w hSw; (try dsimp only at hSw); go_simp; (try with_reducible rfl))); (try simp only [Act.put, List.setIfInBounds_toArray, List.set_cons_zero, List.set_cons_succ]))
              (refine wpAnyH_take (i := 2) (v := ?v2n7) (by simp only [List.getElem?_toArray, List.getElem?_cons_succ, List.getElem?_cons_zero]; rfl) (by kernel_rfl) (by kernel_rfl) (by kernel_rfl) (fun _ _ _ h => False.elim h) (Or.inl ⟨by rfl, ?hy2n7⟩) (by assumption) ?rest2n7; (case hy2n7 => (intro w hSw; (try dsimp only at hSw); go_simp; (try with_reducible rfl))); (try simp only [Act.put, List.setIfInBounds_toArray, List.set_cons_zero, List.set_cons_succ]))
              (refine wpAnyH_take (i := 3) (v := ?v3n8) (by simp only [List.getElem?_toArray, List.getElem?_cons_succ, List.getElem?_cons_zero]; rfl) (by kernel_rfl) (by kernel_rfl) (by kernel_rfl) (fun _ _ _ h => False.elim h) (Or.inl ⟨by rfl, ?hy3n8⟩) (by assumption) ?rest3n8; (case hy3n8 => (intro w hSw; (try dsimp only at hSw); go_simp; (try with_reducible rfl))); (try simp only [Act.put, List.setIfInBounds_toArray, List.set_cons_zero, List.set_cons_succ]))
              (refine wpAnyH_take (i := 4) (v := ?v4n9) (by simp only [List.getElem?_toArray, List.getElem?_cons_succ, List.getElem?_cons_zero]; rfl) (by kernel_rfl) (by kernel_rfl) (by kernel_rfl) (fun _ _ _ h => False.elim h) (Or.inl ⟨by rfl, ?hy4n9⟩) (by assumption) ?rest4n9; (case hy4n9 => (intro w hSw; (try dsimp only at hSw); go_simp; (try with_reducible rfl))); (try simp only [Act.put, List.setIfInBounds_toArray, List.set_cons_zero, List.set_cons_succ]))
              (refine wpAnyH_take (i := 5) (v := ?v5n10) (by simp only [List.getElem?_toArray, List.getElem?_cons_succ, List.getElem?_cons_zero]; rfl) (by kernel_rfl) (by kernel_rfl) (by kernel_rfl) (fun _ _ _ h => False.elim h) (Or.inl ⟨by rfl, ?hy5n10⟩) (by assumption) ?rest5n10; (case hy5n10 => (intro w hSw; (try dsimp only at hSw); go_simp; (try with_reducible rfl))); (try simp only [Act.put, List.setIfInBounds_toArray, List.set_cons_zero, List.set_cons_succ]))
              (refine wpAnyH_take (i := 6) (v := ?v6n11) (by simp only [List.getElem?_toArray, List.getElem?_cons_succ, List.getElem?_cons_zero]; rfl) (by kernel_rfl) (by kernel_rfl) (by kernel_rfl) (fun _ _ _ h => False.elim h) (Or.inl ⟨by rfl, ?hy6n11⟩) (by assumption) ?rest6n11; (case hy6n11 => (intro w hSw; (try dsimp only at hSw); go_simp; (try with_reducible rfl))); (try simp only [Act.put, List.setIfInBounds_toArray, List.set_cons_zero, List.set_cons_succ]))
              (refine wpAnyH_take (i := 7) (v := ?v7n12) (by simp only [List.getElem?_toArray, List.getElem?_cons_succ, List.getElem?_cons_zero]; rfl) (by kernel_rfl) (by kernel_rfl) (by kernel_rfl) (fun _ _ _ h => False.elim h) (Or.inl ⟨by rfl, ?hy7n12⟩) (by assumption) ?rest7n12; (case hy7n12 => (intro w hSw; (try dsimp only at hSw); go_simp; (try with_reducible rfl))); (try simp only [Act.put, List.setIfInBounds_toArray, List.set_cons_zero, List.set_cons_succ]))
              (refine wpAnyH_take (i := 8) (v := ?v8n13) (by simp only [List.getElem?_toArray, List.getElem?_cons_succ, List.getElem?_cons_zero]; rfl) (by kernel_rfl) (by kernel_rfl) (by kernel_rfl) (fun _ _ _ h => False.elim h) (Or.inl ⟨by rfl, ?hy8n13⟩) (by assumption) ?rest8n13; (case hy8n13 => (intro w hSw; (try dsimp only at hSw); go_simp; (try with_reducible rfl))); (try simp only [Act.put, List.setIfInBounds_toArray, List.set_cons_zero, List.set_cons_succ]))
              (refine wpAnyH_take (i := 9) (v := ?v9n14) (by simp only [List.getElem?_toArray, List.getElem?_cons_succ, List.getElem?_cons_zero]; rfl) (by kernel_rfl) (by kernel_rfl) (by kernel_rfl) (fun _ _ _ h => False.elim h) (Or.inl ⟨by rfl, ?hy9n14⟩) (by assumption) ?rest9n14; (case hy9n14 => (intro w hSw; (try dsimp only at hSw); go_simp; (try with_reducible rfl))); (try simp only [Act.put, List.setIfInBounds_toArray, List.set_cons_zero, List.set_cons_succ]))
              refine wpAnyH_ready (rs := [10, 11]) (by kernel_rfl) (by simp) ?_
              refine AllReadyH.cons (o := _) (by simp only [List.getElem?_toArray, List.getElem?_cons_succ, List.getElem?_cons_zero]; rfl) (fun K hK => ?_) ?_
              · (go_simp; (skip); refine hK.out _ _ (by exact HSk.out _ ((Below.refl _ wr).alloc (Nat.le_refl _) _).drew) (fun hHeld => ?_); clear hK K; (try simp only [Act.put, List.setIfInBounds_toArray, List.set_cons_zero, List.set_cons_succ]))
                (refine wpAnyH_ready (rs := [11]) (by kernel_rfl) (by simp) ?_; refine AllReadyH.cons (o := _) (by simp only [List.getElem?_toArray, List.getElem?_cons_succ, List.getElem?_cons_zero]; rfl) (fun K hK => ?_) AllReadyH.nil; go_simp; (skip); refine hK.out _ _ (by exact HSk.out _ (HBx.out _ _).2.2) (fun hHeld => ?_); clear hK K; (try simp only [Act.put, List.setIfInBounds_toArray, List.set_cons_zero, List.set_cons_succ]))
                (refine wpAnyH_ready (rs := [12]) (by kernel_rfl) (by simp) ?_; refine AllReadyH.cons (o := _) (by simp only [List.getElem?_toArray, List.getElem?_cons_succ, List.getElem?_cons_zero]; rfl) (fun K hK => ?_) AllReadyH.nil; go_simp; (skip); refine hK.out _ _ (by exact HSk.out _ (HBx.out _ _).2.2) (fun hHeld => ?_); clear hK K; (try simp only [Act.put, List.setIfInBounds_toArray, List.set_cons_zero, List.set_cons_succ]))
                (refine wpAnyH_ready (rs := [13]) (by kernel_rfl) (by simp) ?_; refine AllReadyH.cons (o := _) (by simp only [List.getElem?_toArray, List.getElem?_cons_succ, List.getElem?_cons_zero]; rfl) (fun K hK => ?_) AllReadyH.nil; go_simp; (skip); refine hK.out _ _ (by exact HSk.out _ (HBx.out _ _).2.2) (fun hHeld => ?_); clear hK K; (try simp only [Act.put, List.setIfInBounds_toArray, List.set_cons_zero, List.set_cons_succ]))
                refine wpAnyH_done (by kernel_rfl) ?_ _
                refine NoPanic.normal ?_
                go_wp2
                go_meet
                case rel => exact ⟨_, _, rfl, rfl, (HBx.out _ _).1, (HBx.out _ _).2.1, (HBx.out _ _).2.2⟩
              · refine AllReadyH.cons (o := _) (by simp only [List.getElem?_toArray, List.getElem?_cons_succ, List.getElem?_cons_zero]; rfl) (fun K hK => ?_) AllReadyH.nil
                (go_simp; (skip); refine hK.out _ _ (by exact HSk.out _ ((Below.refl _ wr).alloc (Nat.le_refl _) _).drew) (fun hHeld => ?_); clear hK K; (try simp only [Act.put, List.setIfInBounds_toArray, List.set_cons_zero, List.set_cons_succ]))
                (refine wpAnyH_ready (rs := [10]) (by kernel_rfl) (by simp) ?_; refine AllReadyH.cons (o := _) (by simp only [List.getElem?_toArray, List.getElem?_cons_succ, List.getElem?_cons_zero]; rfl) (fun K hK => ?_) AllReadyH.nil; go_simp; (skip); refine hK.out _ _ (by exact HSk.out _ (HBx.out _ _).2.2) (fun hHeld => ?_); clear hK K; (try simp only [Act.put, List.setIfInBounds_toArray, List.set_cons_zero, List.set_cons_succ]))
                (refine wpAnyH_ready (rs := [12]) (by kernel_rfl) (by simp) ?_; refine AllReadyH.cons (o := _) (by simp only [List.getElem?_toArray, List.getElem?_cons_succ, List.getElem?_cons_zero]; rfl) (fun K hK => ?_) AllReadyH.nil; go_simp; (skip); refine hK.out _ _ (by exact HSk.out _ (HBx.out _ _).2.2) (fun hHeld => ?_); clear hK K; (try simp only [Act.put, List.setIfInBounds_toArray, List.set_cons_zero, List.set_cons_succ]))
                (refine wpAnyH_ready (rs := [13]) (by kernel_rfl) (by simp) ?_; refine AllReadyH.cons (o := _) (by simp only [List.getElem?_toArray, List.getElem?_cons_succ, List.getElem?_cons_zero]; rfl) (fun K hK => ?_) AllReadyH.nil; go_simp; (skip); refine hK.out _ _ (by exact HSk.out _ (HBx.out _ _).2.2) (fun hHeld => ?_); clear hK K; (try simp only [Act.put, List.setIfInBounds_toArray, List.set_cons_zero, List.set_cons_succ]))
                refine wpAnyH_done (by kernel_rfl) ?_ _
                refine NoPanic.normal ?_
                go_wp2
                go_meet
                case rel => exact ⟨_, _, rfl, rfl, (HBx.out _ _).2.1, (HBx.out _ _).1, (HBx.out _ _).2.2⟩
            case rest =>
              obtain ⟨p8, q8, rfl, rfl, hp, hq, hbc⟩ := hcut
              obtain ⟨c0, c1, c2, c3, c4, c5, c6, c7, c8⟩ := nd_cells hp
              obtain ⟨d0, d1, d2, d3, d4, d5, d6, d7, d8⟩ := nd_cells hq
              have a9 := cellk hbc HA9.out.1
              have a10 := cellk hbc HA9.out.2.1
              have b9 := cellk hbc HA9.out.2.2.1
              have b10 := cellk hbc HA9.out.2.2.2
              have HBc := Lib.hid (HBb.out.trans (hbc.mono HBb.out.size))
              clear hp hq hbc HA9 HSk HBx HBb a0 a1 a2 a3 a4 a5 a6 a7 a8 b0 b1 b2 b3 b4 b5 b6 b7 b8
              go_wp2_with fail
              by_cases hl : lv = lw
              rotate_left 1
              · have HO := Lib.hid (HNo.out (fun h => hl (by simp only [Prod.mk.injEq] at h; (first | exact h.1 | exact h.2.1 | exact h.2.2.1 | exact h.2.2.2.1 | exact h.2.2.2.2.1 | exact h.2.2.2.2.2.1 | exact h.2.2.2.2.2.2))))
                have hd1 : ((lv : Int) != (lw : Int)) = true := by simp; omega
                have hd2 : ((lv : Int) == (lw : Int)) = false := by simp; omega
                have hd3 : ¬ ((lv : Int) = (lw : Int)) := by omega
                clear HNo HYes
                go_quiet (fail)
                go_wp2
                go_ret
                exact ⟨by rw [HO.out]; rfl, HB7.out.trans ((below_drewN HBc.out _).mono HB7.out.size)⟩
              subst hl
              by_cases hn : xl = yl
              rotate_left 1
              · have HO := Lib.hid (HNo.out (fun h => hn (by simp only [Prod.mk.injEq] at h; (first | exact h.1 | exact h.2.1 | exact h.2.2.1 | exact h.2.2.2.1 | exact h.2.2.2.2.1 | exact h.2.2.2.2.2.1 | exact h.2.2.2.2.2.2))))
                have hd1 : ((xl : Int) != (yl : Int)) = true := by simp; omega
                have hd2 : ((xl : Int) == (yl : Int)) = false := by simp; omega
                have hd3 : ¬ ((xl : Int) = (yl : Int)) := by omega
                clear HNo HYes
                go_quiet (fail)
                go_wp2
                go_ret
                exact ⟨by rw [HO.out]; rfl, HB7.out.trans ((below_drewN HBc.out _).mono HB7.out.size)⟩
              subst hn
              by_cases hk : xk = yk
              rotate_left 1
              · have HO := Lib.hid (HNo.out (fun h => hk (by simp only [Prod.mk.injEq] at h; (first | exact h.1 | exact h.2.1 | exact h.2.2.1 | exact h.2.2.2.1 | exact h.2.2.2.2.1 | exact h.2.2.2.2.2.1 | exact h.2.2.2.2.2.2))))
                have hd1 : (xk != yk) = true := by simpa using hk
                have hd2 : (xk == yk) = false := by simpa using hk
                clear HNo HYes
                go_quiet (fail)
                go_wp2
                go_ret
                exact ⟨by rw [HO.out]; rfl, HB7.out.trans ((below_drewN HBc.out _).mono HB7.out.size)⟩
              subst hk
              by_cases hs : [e0, e1, e2, e3] = [g0, g1, g2, g3]
              rotate_left 1
              · have HO := Lib.hid (HNo.out (fun h => hs (by simp only [Prod.mk.injEq] at h; exact h.2.1)))
                have hd1 : ∀ W, (binOp .neq 23 (.agg #[.int .u64 (e0 : Int), .int .u64 (e1 : Int), .int .u64 (e2 : Int), .int .u64 (e3 : Int)]) (.agg #[.int .u64 (g0 : Int), .int .u64 (g1 : Int), .int .u64 (g2 : Int), .int .u64 (g3 : Int)])).run Tryd.prog W = .ok (.bool true) W := fun W => by have := neq_ref [e0, e1, e2, e3] [g0, g1, g2, g3] rfl rfl W; rw [decide_eq_false hs] at this; exact this
                clear HNo HYes
                go_quiet (fail)
                go_wp2
                go_ret
                exact ⟨by rw [HO.out]; rfl, HB7.out.trans ((below_drewN HBc.out _).mono HB7.out.size)⟩
              obtain ⟨rfl, rfl, rfl, rfl⟩ : e0 = g0 ∧ e1 = g1 ∧ e2 = g2 ∧ e3 = g3 := by simpa using hs
              have hds : ∀ W, (binOp .neq 23 (.agg #[.int .u64 (e0 : Int), .int .u64 (e1 : Int), .int .u64 (e2 : Int), .int .u64 (e3 : Int)]) (.agg #[.int .u64 (e0 : Int), .int .u64 (e1 : Int), .int .u64 (e2 : Int), .int .u64 (e3 : Int)])).run Tryd.prog W = .ok (.bool false) W := fun W => by have := neq_ref [e0, e1, e2, e3] [e0, e1, e2, e3] rfl rfl W; rw [decide_eq_true rfl] at this; exact this
              clear hs
              by_cases hmn : xmn = ymn
              rotate_left 1
              · have HO := Lib.hid (HNo.out (fun h => hmn (by simp only [Prod.mk.injEq] at h; (first | exact h.1 | exact h.2.1 | exact h.2.2.1 | exact h.2.2.2.1 | exact h.2.2.2.2.1 | exact h.2.2.2.2.2.1 | exact h.2.2.2.2.2.2))))
                have hd1 : (xmn != ymn) = true := by simpa using hmn
                have hd2 : (xmn == ymn) = false := by simpa using hmn
                clear HNo HYes
                go_quiet (fail)
                go_wp2
                go_ret
                exact ⟨by rw [HO.out]; rfl, HB7.out.trans ((below_drewN HBc.out _).mono HB7.out.size)⟩
              subst hmn
              by_cases hmx : xmx = ymx
              rotate_left 1
              · have HO := Lib.hid (HNo.out (fun h => hmx (by simp only [Prod.mk.injEq] at h; (first | exact h.1 | exact h.2.1 | exact h.2.2.1 | exact h.2.2.2.1 | exact h.2.2.2.2.1 | exact h.2.2.2.2.2.1 | exact h.2.2.2.2.2.2))))
                have hd1 : (xmx != ymx) = true := by simpa using hmx
                have hd2 : (xmx == ymx) = false := by simpa using hmx
                clear HNo HYes
                go_quiet (fail)
                go_wp2
                go_ret
                exact ⟨by rw [HO.out]; rfl, HB7.out.trans ((below_drewN HBc.out _).mono HB7.out.size)⟩
              subst hmx
              by_cases ht : xt = yt
              rotate_left 1
              · have HO := Lib.hid (HNo.out (fun h => ht (by simp only [Prod.mk.injEq] at h; (first | exact h.1 | exact h.2.1 | exact h.2.2.1 | exact h.2.2.2.1 | exact h.2.2.2.2.1 | exact h.2.2.2.2.2.1 | exact h.2.2.2.2.2.2))))
                have hd1 : ¬ Str xt = Str yt := fun h => ht (Str_inj h)
                have hd2 : ((Str xt).toList == (Str yt).toList) = false := by rw [Str_beq]; simpa using ht
                clear HNo HYes
                go_quiet (fail)
                go_wp2
                go_ret
                exact ⟨by rw [HO.out]; rfl, HB7.out.trans ((below_drewN HBc.out _).mono HB7.out.size)⟩
              subst ht
              have HO := Lib.hid (HYes.out rfl)
              clear HNo HYes
              go_quiet (fail)
              go_wp2
              go_roundw
              case rel => exact ⟨j + 1, by omega, by go_num, HO.out, below_drewN HBc.out _⟩
              case measure => simp [intOf]; omega
          · obtain rfl : j = La := by omega
            rw [List.take_of_length_le (by rw [HL.out.1]; exact Nat.le_refl _), List.take_of_length_le (by rw [HL.out.2.1]; exact Nat.le_refl _)] at hall
            have ho := HIff.out.1 hall
            have HO := Lib.hid ho
            have HBb := Lib.hid hb
            clear hall ho hb
            go_wp2
            go_ret
            exact ⟨by rw [HO.out]; rfl, HB7.out.trans (HBb.out.mono HB7.out.size)⟩
      · have ho : o = false := by
          rw [Bool.eq_false_iff]
          intro h
          have h1 := congrArg List.length (HIff.out.2 h)
          simp only [List.length_map, HL.out.1, HL.out.2.1] at h1
          exact hne h1
        have hd : ((La : Int) != (Lb : Int)) = true := by simp; omega
        have hd2 : ((La : Int) == (Lb : Int)) = false := by simp; omega
        subst ho
        clear hne
        go_wp2_with fail
        with_reducible refine (HR'.out _ HB6.out).mono ?_
        rintro e w7 ⟨rfl, hb7⟩
        go_wp2
        go_ret
        exact ⟨rfl, HB6.out.trans (hb7.mono HB6.out.size)⟩
end Tr
end Go.Proofs.YtoeeddfinmfnoaaDoor
