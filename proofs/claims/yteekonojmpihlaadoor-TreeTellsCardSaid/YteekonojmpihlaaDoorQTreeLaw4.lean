import Derived.Test.YteekonojmpihlaaDoorQTreeRtext
import Derived.Test.YteekonojmpihlaaDoorQTreeLaw3
import Derived.Test.YteekonojmpihlaaDoorQTreeNms
import Derived.Test.YteekonojmpihlaaDoorQTreeDep
import Derived.Test.YteekonojmpihlaaDoorQBuildM
/- dofferlaw07.TreeTells. -/
namespace Go.Proofs.YteekonojmpihlaaDoor
open Go Go.RowKit Kt St Sp Bk
namespace Tr
theorem deep_snoc (l : List (Nd × Nat)) (x : Nd × Nat) : deep (l ++ [x]) = max (deep l) x.2 := by unfold deep; rw [List.foldl_append]; rfl
theorem mem_snoc_dec (A : List (List UInt8)) (z kt : List UInt8) : decide (kt ∈ A ++ [z]) = (decide (kt ∈ A) || decide (z = kt)) := by
  rw [Bool.eq_iff_iff]
  simp only [decide_eq_true_eq, Bool.or_eq_true, List.mem_append, List.mem_singleton]
  constructor
  · rintro (h | h)
    · exact .inl h
    · exact .inr h.symm
  · rintro (h | h)
    · exact .inl h
    · exact .inr h.symm
mutual
theorem er_wd : ∀ (n : Nd), wd n → wd (er n)
  | .mk _ _ _ _ _ _ _ ks, h => ⟨h.1, er_wds ks h.2⟩
theorem er_wds : ∀ (ks : List Nd), wds ks → wds (ers ks)
  | [], _ => trivial
  | n :: r, h => ⟨er_wd n h.1, er_wds r h.2⟩
end
mutual
theorem wd_er : ∀ (n : Nd), wd (er n) → wd n
  | .mk _ _ _ _ _ _ _ ks, h => ⟨h.1, wds_er ks h.2⟩
theorem wds_er : ∀ (ks : List Nd), wds (ers ks) → wds ks
  | [], _ => trivial
  | n :: r, h => ⟨wd_er n h.1, wds_er r h.2⟩
end
/-- Where the loop over the walk stands. -/
structure TlR (l : List (Nd × Nat)) (W4 : World) (d ns i : Value) (W : World) : Prop where
  ex : ∃ (j : Nat) (a : Option Addr) (c : Nat), j ≤ l.length ∧ i = .int .i64 (j : Int) ∧ d = .int .i64 ((deep (l.take j) : Nat) : Int) ∧ ns = .slice a (names (l.take j)).length c ∧
    W.ownsRow W4.heap.size 9 1 (.slice a (names (l.take j)).length c) (names (l.take j)).length ((names (l.take j)).map fun t => .string (Str t)) ∧ Below W4.heap.size W4 W
set_option maxRecDepth 100000 in
set_option maxHeartbeats 16000000 in
/-- The law TreeTells. -/
theorem tells_law (n : Nd) (w : World) (hT : Bt.Tab w) (hIs : Is w.heap.size w n) (hw : wd n) : Calls Tryd.prog 12 #[nv n] w fun e w' => e = .returned (.bool true) ∧ Below w.heap.size w w' := by
  have hI := fun (W : World) (hb : Below w.heap.size w W) => Is.mono hb.size (Is.below hb hIs)
  have hv := fun W hb => heavy_c n W (hI W hb)
  have hof : ∀ W, Below w.heap.size w W → Calls Tryd.prog 57 #[nv n, .int .i64 2000] W (OfP n 2000 W) := fun W hb => of_all n 2000 (by decide) (by decide) W (hI W hb)
  have hrt := fun (ht : ∀ x ∈ walk n, x.1.text.length ≤ 50) W hb => right_c n (long_of ht) W (hI W hb)
  have htx := fun (ht : ∀ x ∈ walk n, x.1.text.length ≤ 50) W (hb : Below w.heap.size w W) => Text_c n (long_of ht) hw W (hT.below hb) (hI W hb)
  have hdp := fun W hb => depth_c n W (hI W hb)
  have hcn := fun W hb => count_c n W (hI W hb)
  have hnm := fun W hb => names_c0 n (walk_len hIs) W (hI W hb)
  have hal := fun W (hb : Below w.heap.size w W) => alive_c W (hT.below hb)
  obtain ⟨x0, x1, x2, x3, hxs⟩ := four' hIs.len
  obtain ⟨k, mn, mx, a, nl, c, t, hnv, _⟩ := nv_explicit hxs
  rw [hnv] at hv hof hrt htx hdp hcn hnm ⊢
  have l1 := heap_alloc_new w (.cells #[.int .i64 k, .int .u64 (x0 : Int), .int .u64 (x1 : Int), .int .u64 (x2 : Int), .int .u64 (x3 : Int), .slice a nl c, .int .i64 mn, .int .i64 mx, .string (Str t)] 37)
  have hB := (Below.refl w.heap.size w).alloc (Nat.le_refl _) (.cells #[.int .i64 k, .int .u64 (x0 : Int), .int .u64 (x1 : Int), .int .u64 (x2 : Int), .int .u64 (x3 : Int), .slice a nl c, .int .i64 mn, .int .i64 mx, .string (Str t)] 37)
  obtain ⟨W3, hW3⟩ : ∃ W3, w.alloc (.cells #[.int .i64 k, .int .u64 (x0 : Int), .int .u64 (x1 : Int), .int .u64 (x2 : Int), .int .u64 (x3 : Int), .slice a nl c, .int .i64 mn, .int .i64 mx, .string (Str t)] 37) = W3 := ⟨_, rfl⟩
  have z3 : W3.heap.size = w.heap.size + 1 := by rw [← hW3]; simp
  rw [hW3] at l1 hB
  have hcl := fun (W : World) (hb : Below W3.heap.size W3 W) => nd_cells ((hb.block _ (block_lt l1)).trans l1)
  have HAl := Lib.hid (hal W3 hB)
  have HV := Lib.hid hv
  have HO := Lib.hid hof
  have HRt := Lib.hid hrt
  have HTx := Lib.hid htx
  have HDp := Lib.hid hdp
  have HCn := Lib.hid hcn
  have HNm := Lib.hid hnm
  have HC := Lib.hid hcl
  have HB := Lib.hid hB
  have HW3 := Lib.hid hW3
  have HZ := Lib.hid z3
  have HWd := Lib.hid hw
  have HLn := Lib.hid (walk_len hIs)
  clear hI hv hof hrt htx hdp hcn hnm hal hxs hnv hIs hT hcl hB hW3 z3 l1 hw
  go_enter Tryd.func12, Tryd.ntmps12
  go_wp2_with fail
  rw [HW3.out]
  with_reducible refine HAl.out.mono ?_
  rintro e w4 ⟨rfl, hb4⟩
  have N4 := Lib.hid hb4
  obtain ⟨p0, p1, p2, p3, p4, p5, p6, p7, p8⟩ := HC.out _ hb4
  clear hb4
  go_wp2_with fail
  with_reducible refine (HV.out _ (HB.out.trans (N4.out.mono HB.out.size))).mono ?_
  rintro e w5 ⟨h1, rfl, hh1, hb5⟩
  have N5 := Lib.hid (N4.out.trans (hb5.mono N4.out.size))
  have HH1 := Lib.hid hh1
  obtain ⟨p0, p1, p2, p3, p4, p5, p6, p7, p8⟩ := HC.out _ N5.out
  clear hb5 hh1
  cases h1 with
  | true =>
    go_wp2_with fail
    go_ret
    exact ⟨rfl, HB.out.trans (N5.out.mono HB.out.size)⟩
  | false =>
    have HS1 := Lib.hid (HH1.out rfl)
    clear HH1 HV
    go_wp2_with fail
    with_reducible refine (HO.out _ (HB.out.trans (N5.out.mono HB.out.size))).mono ?_
    rintro e w7 ⟨n1, r1, rfl, hr1, _, hi1, hbl1, hb7⟩
    obtain ⟨v0, v1, v2, v3, hvs1⟩ := four' hi1.len
    obtain ⟨k1, mn1, mx1, a1, nl1, c1, t1, hnv1, hcl1⟩ := nv_explicit hvs1
    have her1 : er n1 = er n := (hr1 HS1.out.1).2
    have l7 : (w7.alloc (.cells #[.int .i64 k1, .int .u64 (v0 : Int), .int .u64 (v1 : Int), .int .u64 (v2 : Int), .int .u64 (v3 : Int), .slice a1 nl1 c1, .int .i64 mn1, .int .i64 mx1, .string (Str t1)] 44 (0, 0))).heap[w7.heap.size]? = _ := World.alloc_heap_new w7 _
    have b7 : Below w7.heap.size w7 (w7.alloc (.cells #[.int .i64 k1, .int .u64 (v0 : Int), .int .u64 (v1 : Int), .int .u64 (v2 : Int), .int .u64 (v3 : Int), .slice a1 nl1 c1, .int .i64 mn1, .int .i64 mx1, .string (Str t1)] 44 (0, 0))) := (Below.refl _ w7).alloc (Nat.le_refl _) _
    obtain ⟨W8, hW8⟩ : ∃ W8, w7.alloc (.cells #[.int .i64 k1, .int .u64 (v0 : Int), .int .u64 (v1 : Int), .int .u64 (v2 : Int), .int .u64 (v3 : Int), .slice a1 nl1 c1, .int .i64 mn1, .int .i64 mx1, .string (Str t1)] 44 (0, 0)) = W8 := ⟨_, rfl⟩
    rw [hW8] at l7 b7
    have hN8 := N5.out.trans ((hb7.mono N5.out.size).trans (b7.mono (by have := N5.out.size; have := hb7.size; omega)))
    have hin1 := Is.mono b7.size (Is.below b7 hi1)
    -- what the calls answer
    have hwk := fun W (hb : Below W8.heap.size W8 W) => rwalk_c n1 W (Is.mono hb.size (Is.below hb hin1))
    have hrr : ∀ W, Below W8.heap.size W8 W → Calls Tryd.prog 26 #[nv n1] W fun e w' => e = .returned (.bool (rgt n)) ∧ Below W.heap.size W w' := fun W hb => by
      have h := rright_c n1 (text_er her1 HS1.out.2) W (Is.mono hb.size (Is.below hb hin1))
      rw [same_rgt her1] at h
      exact h
    have hrx : ∀ W, Below W8.heap.size W8 W → rgt n = true → Calls Tryd.prog 59 #[nv n1] W fun e w' => e = .returned (.string (Str (txt n))) ∧ Below W.heap.size W w' := fun W hb hrg => by
      have hrg1 : rgt n1 = true := by rw [same_rgt her1]; exact hrg
      have h := rtext_all n1 (rgt_good hrg1) (wd_er _ (her1 ▸ er_wd _ HWd.out)) (rgt_sz hrg1) W (Is.mono hb.size (Is.below hb hin1))
      unfold TxP at h
      rw [← er_txt n1, her1, er_txt n] at h
      exact h
    have hww : (walk n1).map erx = (walk n).map erx := by rw [← er_walk, ← er_walk, her1]
    have hdd : deep (walk n1) = deep (walk n) := by rw [← deep_map, hww, deep_map]
    have hnn : names (walk n1) = names (walk n) := by rw [← names_map, hww, names_map]
    have hll : (walk n1).length = (walk n).length := by rw [← List.length_map (f := erx), hww, List.length_map]
    have hwl := walk_len hin1
    obtain ⟨l, hl⟩ : ∃ l, walk n1 = l := ⟨_, rfl⟩
    have hl6 : l.length ≤ 601 := by rw [← hl]; simp only [walk, List.length_take]; omega
    rw [hl] at hwk hdd hnn hll hwl
    obtain ⟨L, hL⟩ : ∃ L, l.length = L := ⟨_, rfl⟩
    rw [hL] at hwk hll hl6
    rw [hnv1] at hwk hrr hrx ⊢
    have hc1 := fun (W : World) (hb : Below W8.heap.size W8 W) => nd_cells ((hb.block _ (block_lt l7)).trans l7)
    obtain ⟨q0, q1, q2, q3, q4, q5, q6, q7, q8⟩ := nd_cells l7
    rw [← hW8] at q0 q1 q2 q3 q4 q5 q6 q7 q8
    have hdp : ∀ W, Below w.heap.size w W → Calls Tryd.prog 54 #[.agg #[.int .i64 k, .int .u64 (x0 : Int), .int .u64 (x1 : Int), .int .u64 (x2 : Int), .int .u64 (x3 : Int), .slice a nl c, .int .i64 mn, .int .i64 mx, .string (Str t)]] W fun e w' => e = .returned (.int .i64 ((deep l : Nat) : Int)) ∧ Below W.heap.size W w' := by rw [hdd]; exact HDp.out
    have hcn : ∀ W, Below w.heap.size w W → Calls Tryd.prog 55 #[.agg #[.int .i64 k, .int .u64 (x0 : Int), .int .u64 (x1 : Int), .int .u64 (x2 : Int), .int .u64 (x3 : Int), .slice a nl c, .int .i64 mn, .int .i64 mx, .string (Str t)]] W fun e w' => e = .returned (.int .i64 (L : Int)) ∧ Below W.heap.size W w' := by rw [hll]; exact HCn.out
    have hnm : ∀ W, Below w.heap.size w W → Calls Tryd.prog 31 #[.agg #[.int .i64 k, .int .u64 (x0 : Int), .int .u64 (x1 : Int), .int .u64 (x2 : Int), .int .u64 (x3 : Int), .slice a nl c, .int .i64 mn, .int .i64 mx, .string (Str t)]] W fun e W' => ∃ v, e = .returned v ∧ W'.ownsRow W.heap.size 9 1 v (names l).length ((names l).map fun t => .string (Str t)) ∧ Below W.heap.size W W' := by rw [hnn]; exact HNm.out
    have hrt := HRt.out HS1.out.2
    have htx := HTx.out HS1.out.2
    obtain ⟨X, hX⟩ : ∃ X, txt n = X := ⟨_, rfl⟩
    rw [hX] at htx hrx
    obtain ⟨rg, hrg⟩ : ∃ rg, rgt n = rg := ⟨_, rfl⟩
    rw [hrg] at htx hrx hrr hrt
    have HWk := Lib.hid (hwk W8 (Below.refl _ _))
    have HRr := Lib.hid hrr
    have HRx := Lib.hid hrx
    have HDp2 := Lib.hid hdp
    have HCn2 := Lib.hid hcn
    have HNm2 := Lib.hid hnm
    have HRt2 := Lib.hid hrt
    have HTx2 := Lib.hid htx
    have HC1 := Lib.hid hc1
    have N8 := Lib.hid hN8
    have HW8 := Lib.hid hW8
    have HL := Lib.hid (And.intro hL (And.intro hl6 hwl))
    clear hr1 hi1 hbl1 hb7 hvs1 hnv1 hcl1 her1 l7 b7 hW8 hN8 hin1 hwk hrr hrx hww hdd hnn hll hwl hl hL hl6 hc1 hdp hcn hnm hrt htx hX hrg HDp HCn HNm HRt HTx HO HAl HWd HLn HS1
    go_wp2_with fail
    rw [HW8.out]
    with_reducible refine HWk.out.mono ?_
    rintro e w9 ⟨wa, wc, rfl, hwr, hb9⟩
    have own0 : (w9.alloc (.cells #[] 9)).ownsRow w9.heap.size 9 1 (.slice (some ⟨w9.heap.size, 0, none⟩) 0 0) 0 [] := World.ownsRow_made w9 _ 0 (Nat.le_refl _) (by decide) rfl
    have b10 := (Below.refl w9.heap.size w9).alloc (Nat.le_refl _) (.cells #[] 9)
    have N9 := Lib.hid (And.intro hb9 (N8.out.trans (hb9.mono N8.out.size)))
    have HRd := Lib.hid (wr_rd hwr)
    have H0 := Lib.hid (show TlR l w9 (.int .i64 0) (.slice (some ⟨w9.heap.size, 0, none⟩) 0 0) (.int .i64 0) (w9.alloc (.cells #[] 9)) from ⟨0, some ⟨w9.heap.size, 0, none⟩, 0, Nat.zero_le _, rfl, rfl, rfl, own0, b10⟩)
    clear hwr hb9 own0 b10 p0 p1 p2 p3 p4 p5 p6 p7 p8 q0 q1 q2 q3 q4 q5 q6 q7 q8 HWk HW8
    go_wp2_with fail
    go_loopw [6, 7, 9, 10, 12, 28, 44] (fun d ns _ _ _ i _ W => TlR l w9 d ns i W) (fun _ _ _ _ _ i _ _ => L - (intOf i).toNat)
    case atStart => exact H0.out
    case round =>
      clear H0
      obtain ⟨⟨j, na, nc, hj, rfl, rfl, rfl, hown, hb⟩⟩ := hrel
      rw [HL.out.1] at hj
      by_cases hjl : j < L
      · have hjk : j < l.length := by rw [HL.out.1]; exact hjl
        have hin : l[j] ∈ l := List.getElem_mem hjk
        obtain ⟨b, off, rfl, hcs⟩ := step_at (HRd.out.keep hb) HL.out.2.2 j hjk
        have hset := HL.out.2.2 _ hin
        have hjk' : j + 1 ≤ l.length := hjk
        have hdn := deep_snoc (l.take j) l[j]
        have hno := names_no (l.take j) l[j]
        have hyes := names_yes (l.take j) l[j]
        have hle := names_le (l.take j)
        have hl6 := HL.out.2.1
        rw [List.take_append_getElem hjk] at hdn hno hyes
        rw [List.length_take] at hle
        obtain ⟨⟨y, lv⟩, hx⟩ : ∃ x, l[j] = x := ⟨_, rfl⟩
        rw [hx] at hcs hset hdn hno hyes
        obtain ⟨y0, y1, y2, y3, hys⟩ := four' hset
        obtain ⟨kk, ksx, kmn, kmx, kt, ka, kc, kks⟩ := y
        simp only [Nd.set] at hys
        subst hys
        have q0 := hcs 0 _ rfl (by omega)
        have q1 := hcs 1 _ rfl (by omega)
        have q2 := hcs 2 _ rfl (by omega)
        have q3 := hcs 3 _ rfl (by omega)
        have q4 := hcs 4 _ rfl (by omega)
        have q5 := hcs 5 _ rfl (by omega)
        have q6 := hcs 6 _ rfl (by omega)
        have q7 := hcs 7 _ rfl (by omega)
        have q8 := hcs 8 _ rfl (by omega)
        have q9 := hcs 9 _ rfl (by omega)
        have q10 := hcs 10 _ rfl (by omega)
        simp only [← Nat.add_assoc, Nat.add_zero, Nd.kind, Nd.kids, Nd.mn, Nd.mx, Nd.text] at q0 q1 q2 q3 q4 q5 q6 q7 q8 q9 q10 hdn hno hyes
        obtain ⟨kl, hkl⟩ : ∃ kl, kks.length = kl := ⟨_, rfl⟩
        rw [hkl] at q10
        obtain ⟨NL, hNL⟩ : ∃ NL, names (l.take j) = NL := ⟨_, rfl⟩
        rw [hNL] at hown hno hyes hle ⊢
        obtain ⟨D, hD⟩ : ∃ D, deep (l.take j) = D := ⟨_, rfl⟩
        rw [hD] at hdn ⊢
        obtain ⟨D', hD'⟩ : ∃ D', deep (l.take (j + 1)) = D' := ⟨_, rfl⟩
        rw [hD'] at hdn
        obtain ⟨m, hm⟩ : ∃ m, NL.length = m := ⟨_, rfl⟩
        rw [hm] at hown hle ⊢
        have l5 := heap_alloc_new wr (.cells #[.int .i64 kk, .int .u64 (y0 : Int), .int .u64 (y1 : Int), .int .u64 (y2 : Int), .int .u64 (y3 : Int), .slice none 0 0, .int .i64 kmn, .int .i64 kmx, .string (Str kt), .int .i64 (lv : Int), .int .i64 (kl : Int)] 100)
        have b5 := (Below.refl wr.heap.size wr).alloc (Nat.le_refl _) (.cells #[.int .i64 kk, .int .u64 (y0 : Int), .int .u64 (y1 : Int), .int .u64 (y2 : Int), .int .u64 (y3 : Int), .slice none 0 0, .int .i64 kmn, .int .i64 kmx, .string (Str kt), .int .i64 (lv : Int), .int .i64 (kl : Int)] 100)
        obtain ⟨W5, hW5⟩ : ∃ W5, wr.alloc (.cells #[.int .i64 kk, .int .u64 (y0 : Int), .int .u64 (y1 : Int), .int .u64 (y2 : Int), .int .u64 (y3 : Int), .slice none 0 0, .int .i64 kmn, .int .i64 kmx, .string (Str kt), .int .i64 (lv : Int), .int .i64 (kl : Int)] 100) = W5 := ⟨_, rfl⟩
        rw [hW5] at l5 b5
        have e0 := cell_block (i := 0) l5
        have e8 := cell_block (i := 8) l5
        have e9 := cell_block (i := 9) l5
        simp only [List.getElem?_toArray, List.getElem?_cons_zero, List.getElem?_cons_succ] at e0 e8 e9
        have f0 := e0
        have f8 := e8
        rw [← hW5] at e0 e8 e9
        have hown5 := own_keep hown b5
        have hB5 := hb.trans (b5.mono hb.size)
        have HB5 := Lib.hid hB5
        have HW5 := Lib.hid hW5
        have HF := Lib.hid (And.intro f0 f8)
        have HDn := Lib.hid hdn
        have HNo := Lib.hid hno
        have HYes := Lib.hid hyes
        have HOw := Lib.hid hown5
        have HM := Lib.hid (And.intro hm (And.intro hle hl6))
        have hm6 : m ≤ 601 := by omega
        have HDD := Lib.hid hD'
        have HNL := Lib.hid hNL
        clear hcs hset hdn hno hyes hx hkl hNL hD hD' hm hle l5 b5 hW5 hown hown5 hB5 hb f0 f8 hin hjk
        obtain ⟨s0, hs0⟩ : ∃ s0, (kk != 5) = s0 := ⟨_, rfl⟩
        go_upto_if 35 with (fail)
        go_cut [6] (fun d W => d = .int .i64 (D' : Int) ∧ W5 = W)
        case first =>
          have hdn := HDn.out
          obtain ⟨bd, hbd⟩ : ∃ bd, decide (D < lv) = bd := ⟨_, rfl⟩
          rw [hbd]
          cases bd with
          | true =>
            have e : D' = lv := by have := of_decide_eq_true hbd; omega
            have E := Lib.hid e
            clear hdn e hbd
            go_wp2
            go_meet
            case rel => exact ⟨by rw [E.out], HW5.out.symm⟩
          | false =>
            have e : D' = D := by have := of_decide_eq_false hbd; omega
            have E := Lib.hid e
            clear hdn e hbd
            go_wp2
            go_meet
            case rel => exact ⟨by rw [E.out], HW5.out.symm⟩
        case rest =>
          obtain ⟨rfl, rfl⟩ := hcut
          clear e0 e8 e9 q0 q1 q2 q3 q4 q5 q6 q7 q8 q9 q10
          obtain ⟨f0, f8⟩ := HF.out
          go_wp2_with fail
          go_loopw [10, 12, 44] (fun s _ i W => ∃ q : Nat, q ≤ m ∧ i = .int .i64 (q : Int) ∧ s = .bool (s0 || decide (kt ∈ NL.take q)) ∧ W5 = W) (fun _ _ i _ => m - (intOf i).toNat)
          case atStart => exact ⟨0, Nat.zero_le _, rfl, by simp, rfl⟩
          case round =>
            obtain ⟨q, hq, rfl, rfl, rfl⟩ := hrel
            by_cases hqm : q < m
            · have hqn : q < NL.length := by rw [HM.out.1]; exact hqm
              obtain ⟨b2, off2, rfl, c2⟩ := (Rd.own HOw.out).map_at q hqn
              have hnx : (s0 || decide (kt ∈ NL.take (q + 1))) = ((s0 || decide (kt ∈ NL.take q)) || decide (NL[q] = kt)) := by
                rw [← List.take_append_getElem hqn, Bool.or_assoc, mem_snoc_dec]
              obtain ⟨sv, hsv⟩ : ∃ sv, (s0 || decide (kt ∈ NL.take q)) = sv := ⟨_, rfl⟩
              obtain ⟨sv', hsv'⟩ : ∃ sv', (s0 || decide (kt ∈ NL.take (q + 1))) = sv' := ⟨_, rfl⟩
              rw [hsv, hsv'] at hnx
              rw [hsv]
              obtain ⟨z, hz⟩ : ∃ z, NL[q] = z := ⟨_, rfl⟩
              rw [hz] at hnx c2
              have HS := Lib.hid hsv'
              have HNx := Lib.hid hnx
              clear hsv hsv' hnx hz hqn
              cases sv with
              | true =>
                go_wp2_with fail
                go_roundw
                case rel => exact ⟨q + 1, by omega, by go_num, by rw [HS.out, HNx.out]; rfl, by first | rfl | trivial⟩
                case measure => simp [intOf]; omega
              | false =>
                have hbe : ((Str z).toList == (Str kt).toList) = decide (z = kt) := by
                  rw [Str_list, Str_list]
                  by_cases h : z = kt <;> simp [h]
                generalize decide (z = kt) = be at *
                go_wp2_with fail
                go_roundw
                case rel => exact ⟨q + 1, by omega, by go_num, by rw [HS.out, HNx.out]; rfl, by first | rfl | trivial⟩
                case measure => simp [intOf]; omega
            · obtain rfl : q = m := by omega
              rw [List.take_of_length_le (by rw [HM.out.1]; exact Nat.le_refl _)]
              obtain ⟨sv, hsv⟩ : ∃ sv, (s0 || decide (kt ∈ NL)) = sv := ⟨_, rfl⟩
              rw [hsv]
              have HS := Lib.hid hsv
              have HK := Lib.hid hs0
              clear hsv hs0
              cases sv with
              | true =>
                have he : names (l.take (j + 1)) = NL := HNo.out fun h => by
                  have h1 := HS.out
                  have h2 : (kk != 5) = false := by rw [h.1]; rfl
                  rw [← HK.out, h2] at h1
                  simp at h1
                  exact h.2 h1
                have HE := Lib.hid he
                have HJ' := Lib.hid hjk'
                clear he f0 f8 hjk'
                go_wp2_with fail
                go_roundw
                case rel => exact ⟨j + 1, na, nc, HJ'.out, by go_num, by rw [HDD.out], by rw [HE.out, HM.out.1], by rw [HE.out, HM.out.1]; exact HOw.out, HB5.out⟩
                case measure => simp [intOf]; omega
              | false =>
                have hs := HS.out
                rw [Bool.or_eq_false_iff] at hs
                have h5 : kk = 5 := by
                  have h := HK.out
                  rw [hs.1] at h
                  simpa using h
                have hnew : names (l.take (j + 1)) = NL ++ [kt] := HYes.out h5 (of_decide_eq_false hs.2)
                have b6 := (Below.refl W5.heap.size W5).alloc (Nat.le_refl _) (.cells #[.string (Str kt)] 9)
                have hrow1 := own_keep HOw.out b6
                have hrn : Rd (W5.alloc (.cells #[.string (Str kt)] 9)) (some ⟨W5.heap.size, 0, none⟩) [.string (Str kt)] := Rd.new W5 #[.string (Str kt)] 9 (0, 0) _ rfl
                obtain ⟨g2, cap2, W6, hrun, own2, gr2, hlie, hg2⟩ := elStr.lies w9.heap.size (ty := 38) hrow1 1 1 rfl (by decide) hrn (by simp [Value.oneCell']) (by unfold maxLen; omega) (by omega) (by have := HB5.out.size; simp; omega)
                have hne : ∀ k, (Value.slice na q nc).ownBlock = some k → w9.heap.size ≤ k := fun k hk => (hrow1.lt k hk).1
                have hB6 : Below w9.heap.size w9 W6 := HB5.out.trans ((((Mod.refl (Value.slice na q nc).ownBlock.toList W5).alloc (.cells #[.string (Str kt)] 9)).grown gr2 (fun k hk => .inl (by simp [hk]))).toBelow HB5.out.size fun k hk => hne k (by simpa using hk))
                have HE := Lib.hid hnew
                have HJ' := Lib.hid hjk'
                have HO2 := Lib.hid own2
                have HB6 := Lib.hid hB6
                clear hs h5 hnew b6 hrow1 hrn own2 gr2 hlie hg2 hne hB6 hjk'
                go_wp2_with ((at_builtin; (with_reducible apply wpList_append_run hrun); rfl; rfl; rfl; rfl; rfl))
                go_roundw
                case rel => exact ⟨j + 1, _, _, HJ'.out, by go_num, by rw [HDD.out], by rw [HE.out, List.length_append, HM.out.1]; rfl, by rw [HE.out, List.length_append, HM.out.1, List.map_append]; exact HO2.out, HB6.out⟩
                case measure => simp [intOf]; omega
      · obtain rfl : j = L := by omega
        have hll := HL.out.1
        rw [List.take_of_length_le (by omega)] at hown ⊢
        have hlen := names_le l
        rw [hll] at hlen
        have hl6 := HL.out.2.1
        have hrow := Rd.own hown
        have hM8 := N9.out.1.trans (hb.mono N9.out.1.size)
        have hM3 := N9.out.2.trans (hb.mono N9.out.2.size)
        obtain ⟨NM, hNM⟩ : ∃ NM, names l = NM := ⟨_, rfl⟩
        obtain ⟨DP, hDP⟩ : ∃ DP, deep l = DP := ⟨_, rfl⟩
        have hnm := HNm2.out
        have hdp := HDp2.out
        rw [hNM] at hrow hlen hnm ⊢
        rw [hDP] at hdp ⊢
        obtain ⟨m, hm⟩ : ∃ m, NM.length = m := ⟨_, rfl⟩
        rw [hm] at hlen hnm ⊢
        obtain ⟨T, hT⟩ : ∃ T, (if rg = true then X else []) = T := ⟨_, rfl⟩
        have htx := HTx2.out
        rw [hT] at htx
        have HRow := Lib.hid hrow
        have HNm3 := Lib.hid hnm
        have HDp3 := Lib.hid hdp
        have HTx3 := Lib.hid htx
        have HT := Lib.hid hT
        have HM := Lib.hid hm
        have M8 := Lib.hid hM8
        have M3 := Lib.hid hM3
        have hmm : m ≤ 601 := by omega
        obtain ⟨q0, q1, q2, q3, q4, q5, q6, q7, q8⟩ := HC1.out _ hM8
        clear hown hb hrow hM8 hM3 hNM hDP hnm hdp hm hT htx hll hlen HNm2 HDp2 HTx2 HL
        go_upto_if 67 with (go_at_call 26; (with_reducible refine (HRr.out _ M8.out).mono ?_); rintro e w11 ⟨rfl, hb11⟩)
        have hM8' := M8.out.trans (hb11.mono M8.out.size)
        obtain ⟨q0, q1, q2, q3, q4, q5, q6, q7, q8⟩ := HC1.out _ hM8'
        have HB11 := Lib.hid hb11
        have M8' := Lib.hid hM8'
        clear hb11 hM8'
        go_cut [13] (fun v W => v = .string (Str T) ∧ Below wr.heap.size wr W)
        case first =>
          cases rg with
          | true =>
            have hx := fun W hb => HRx.out W hb rfl
            have HX := Lib.hid hx
            have ht : X = T := by rw [← HT.out]; rfl
            subst ht
            clear hx HRx
            go_wp2_with (go_at_call 59; (with_reducible refine (HX.out _ M8'.out).mono ?_); rintro e w12 ⟨rfl, hb12⟩)
            go_meet
            case rel => exact ⟨rfl, HB11.out.trans (hb12.mono HB11.out.size)⟩
          | false =>
            have ht : [] = T := by rw [← HT.out]; rfl
            subst ht
            go_wp2
            go_meet
            case rel => exact ⟨rfl, HB11.out⟩
        case rest =>
          obtain ⟨rfl, hb13⟩ := hcut
          have HSk : Hid (∀ W2, Below wr.heap.size wr W2 → (fun W => (W.cell? ⟨w.heap.size, 0, none⟩ = some (.int .i64 k) ∧ W.cell? ⟨w.heap.size, 1, none⟩ = some (.int .u64 (x0 : Int)) ∧ W.cell? ⟨w.heap.size, 2, none⟩ = some (.int .u64 (x1 : Int)) ∧ W.cell? ⟨w.heap.size, 3, none⟩ = some (.int .u64 (x2 : Int)) ∧ W.cell? ⟨w.heap.size, 4, none⟩ = some (.int .u64 (x3 : Int)) ∧ W.cell? ⟨w.heap.size, 5, none⟩ = some (.slice a nl c) ∧ W.cell? ⟨w.heap.size, 6, none⟩ = some (.int .i64 mn) ∧ W.cell? ⟨w.heap.size, 7, none⟩ = some (.int .i64 mx) ∧ W.cell? ⟨w.heap.size, 8, none⟩ = some (.string (Str t))) ∧ (W.cell? ⟨w7.heap.size, 0, none⟩ = some (.int .i64 k1) ∧ W.cell? ⟨w7.heap.size, 1, none⟩ = some (.int .u64 (v0 : Int)) ∧ W.cell? ⟨w7.heap.size, 2, none⟩ = some (.int .u64 (v1 : Int)) ∧ W.cell? ⟨w7.heap.size, 3, none⟩ = some (.int .u64 (v2 : Int)) ∧ W.cell? ⟨w7.heap.size, 4, none⟩ = some (.int .u64 (v3 : Int)) ∧ W.cell? ⟨w7.heap.size, 5, none⟩ = some (.slice a1 nl1 c1) ∧ W.cell? ⟨w7.heap.size, 6, none⟩ = some (.int .i64 mn1) ∧ W.cell? ⟨w7.heap.size, 7, none⟩ = some (.int .i64 mx1) ∧ W.cell? ⟨w7.heap.size, 8, none⟩ = some (.string (Str t1)))) W2) := Lib.hid (fun W2 hb => ⟨HC.out W2 (M3.out.trans (hb.mono M3.out.size)), HC1.out W2 (M8.out.trans (hb.mono M8.out.size))⟩)
          have HBw := Lib.hid (fun W2 (hb : Below wr.heap.size wr W2) => HB.out.trans ((M3.out.trans (hb.mono M3.out.size)).mono HB.out.size))
          obtain ⟨⟨p0, p1, p2, p3, p4, p5, p6, p7, p8⟩, q0, q1, q2, q3, q4, q5, q6, q7, q8⟩ := HSk.out _ hb13
          go_wp2_with fail
          have n0 := hb13.drew
          refine wp_region_noPanic ?_
          refine wp_region_held_drew (S := fun W => (W.cell? ⟨w.heap.size, 0, none⟩ = some (.int .i64 k) ∧ W.cell? ⟨w.heap.size, 1, none⟩ = some (.int .u64 (x0 : Int)) ∧ W.cell? ⟨w.heap.size, 2, none⟩ = some (.int .u64 (x1 : Int)) ∧ W.cell? ⟨w.heap.size, 3, none⟩ = some (.int .u64 (x2 : Int)) ∧ W.cell? ⟨w.heap.size, 4, none⟩ = some (.int .u64 (x3 : Int)) ∧ W.cell? ⟨w.heap.size, 5, none⟩ = some (.slice a nl c) ∧ W.cell? ⟨w.heap.size, 6, none⟩ = some (.int .i64 mn) ∧ W.cell? ⟨w.heap.size, 7, none⟩ = some (.int .i64 mx) ∧ W.cell? ⟨w.heap.size, 8, none⟩ = some (.string (Str t))) ∧ (W.cell? ⟨w7.heap.size, 0, none⟩ = some (.int .i64 k1) ∧ W.cell? ⟨w7.heap.size, 1, none⟩ = some (.int .u64 (v0 : Int)) ∧ W.cell? ⟨w7.heap.size, 2, none⟩ = some (.int .u64 (v1 : Int)) ∧ W.cell? ⟨w7.heap.size, 3, none⟩ = some (.int .u64 (v2 : Int)) ∧ W.cell? ⟨w7.heap.size, 4, none⟩ = some (.int .u64 (v3 : Int)) ∧ W.cell? ⟨w7.heap.size, 5, none⟩ = some (.slice a1 nl1 c1) ∧ W.cell? ⟨w7.heap.size, 6, none⟩ = some (.int .i64 mn1) ∧ W.cell? ⟨w7.heap.size, 7, none⟩ = some (.int .i64 mx1) ∧ W.cell? ⟨w7.heap.size, 8, none⟩ = some (.string (Str t1)))) (by kernel_rfl) (HSk.out _ n0) (fun hHeld => ?_)
          (refine wpAnyH_take (i := 0) (v := ?v0n1) (by simp only [List.getElem?_toArray, List.getElem?_cons_succ, List.getElem?_cons_zero]; rfl) (by kernel_rfl) (by kernel_rfl) (by kernel_rfl) (fun _ _ _ h => False.elim h) (Or.inl ⟨by rfl, ?hy0n1⟩) (by assumption) ?rest0n1; (case hy0n1 => (intro w hSw; (try dsimp only at hSw); go_simp; (try with_reducible rfl))); (try simp only [Act.put, List.setIfInBounds_toArray, List.set_cons_zero, List.set_cons_succ]))
          (refine wpAnyH_take (i := 2) (v := ?v2n2) (by simp only [List.getElem?_toArray, List.getElem?_cons_succ, List.getElem?_cons_zero]; rfl) (by kernel_rfl) (by kernel_rfl) (by kernel_rfl) (fun _ _ _ h => False.elim h) (Or.inl ⟨by rfl, ?hy2n2⟩) (by assumption) ?rest2n2; (case hy2n2 => (intro w hSw; (try dsimp only at hSw); go_simp; (try with_reducible rfl))); (try simp only [Act.put, List.setIfInBounds_toArray, List.set_cons_zero, List.set_cons_succ]))
          (refine wpAnyH_ready (rs := [1]) (by kernel_rfl) (by simp) ?_; refine AllReadyH.cons (o := _) (by simp only [List.getElem?_toArray, List.getElem?_cons_succ, List.getElem?_cons_zero]; rfl) (fun K hK => ?_) AllReadyH.nil; go_simp; ((with_reducible refine (HRt2.out _ (HBw.out _ n0)).mono ?_); rintro e w14 ⟨rfl, hb14⟩; have n1 := n0.trans (hb14.mono n0.size)); refine hK.out _ _ (by exact HSk.out _ n1) (fun hHeld => ?_); clear hK K; (try simp only [Act.put, List.setIfInBounds_toArray, List.set_cons_zero, List.set_cons_succ]))
          (refine wpAnyH_ready (rs := [3]) (by kernel_rfl) (by simp) ?_; refine AllReadyH.cons (o := _) (by simp only [List.getElem?_toArray, List.getElem?_cons_succ, List.getElem?_cons_zero]; rfl) (fun K hK => ?_) AllReadyH.nil; go_simp; ((with_reducible refine (HRr.out _ (M8.out.trans (n1.mono M8.out.size))).mono ?_); rintro e w15 ⟨rfl, hb15⟩; have n2 := n1.trans (hb15.mono n1.size)); refine hK.out _ _ (by exact HSk.out _ n2) (fun hHeld => ?_); clear hK K; (try simp only [Act.put, List.setIfInBounds_toArray, List.set_cons_zero, List.set_cons_succ]))
          (refine wpAnyH_take (i := 4) (v := ?v4n3) (by simp only [List.getElem?_toArray, List.getElem?_cons_succ, List.getElem?_cons_zero]; rfl) (by kernel_rfl) (by kernel_rfl) (by kernel_rfl) (fun _ _ _ h => False.elim h) (Or.inl ⟨by rfl, ?hy4n3⟩) (by assumption) ?rest4n3; (case hy4n3 => (intro w hSw; (try dsimp only at hSw); go_simp; (try with_reducible rfl))); (try simp only [Act.put, List.setIfInBounds_toArray, List.set_cons_zero, List.set_cons_succ]))
          (refine wpAnyH_take (i := 5) (v := ?v5n4) (by simp only [List.getElem?_toArray, List.getElem?_cons_succ, List.getElem?_cons_zero]; rfl) (by kernel_rfl) (by kernel_rfl) (by kernel_rfl) (fun _ _ _ h => False.elim h) (Or.inl ⟨by rfl, ?hy5n4⟩) (by assumption) ?rest5n4; (case hy5n4 => (intro w hSw; (try dsimp only at hSw); go_simp; (try with_reducible rfl))); (try simp only [Act.put, List.setIfInBounds_toArray, List.set_cons_zero, List.set_cons_succ]))
          (refine wpAnyH_take (i := 6) (v := ?v6n5) (by simp only [List.getElem?_toArray, List.getElem?_cons_succ, List.getElem?_cons_zero]; rfl) (by kernel_rfl) (by kernel_rfl) (by kernel_rfl) (fun _ _ _ h => False.elim h) (Or.inl ⟨by rfl, ?hy6n5⟩) (by assumption) ?rest6n5; (case hy6n5 => (intro w hSw; (try dsimp only at hSw); go_simp; (try with_reducible rfl))); (try simp only [Act.put, List.setIfInBounds_toArray, List.set_cons_zero, List.set_cons_succ]))
          (refine wpAnyH_take (i := 8) (v := ?v8n6) (by simp only [List.getElem?_toArray, List.getElem?_cons_succ, List.getElem?_cons_zero]; rfl) (by kernel_rfl) (by kernel_rfl) (by kernel_rfl) (fun _ _ _ h => False.elim h) (Or.inl ⟨by rfl, ?hy8n6⟩) (by assumption) ?rest8n6; (case hy8n6 => (intro w hSw; (try dsimp only at hSw); go_simp; (try with_reducible rfl))); (try simp only [Act.put, List.setIfInBounds_toArray, List.set_cons_zero, List.set_cons_succ]))
          (refine wpAnyH_ready (rs := [7]) (by kernel_rfl) (by simp) ?_; refine AllReadyH.cons (o := _) (by simp only [List.getElem?_toArray, List.getElem?_cons_succ, List.getElem?_cons_zero]; rfl) (fun K hK => ?_) AllReadyH.nil; go_simp; ((with_reducible refine (HTx3.out _ (HBw.out _ n2)).mono ?_); rintro e w16 ⟨rfl, hb16⟩; have n3 := n2.trans (hb16.mono n2.size)); refine hK.out _ _ (by exact HSk.out _ n3) (fun hHeld => ?_); clear hK K; (try simp only [Act.put, List.setIfInBounds_toArray, List.set_cons_zero, List.set_cons_succ]))
          (refine wpAnyH_take (i := 9) (v := ?v9n7) (by simp only [List.getElem?_toArray, List.getElem?_cons_succ, List.getElem?_cons_zero]; rfl) (by kernel_rfl) (by kernel_rfl) (by kernel_rfl) (fun _ _ _ h => False.elim h) (Or.inl ⟨by rfl, ?hy9n7⟩) (by assumption) ?rest9n7; (case hy9n7 => (intro w hSw; (try dsimp only at hSw); go_simp; (try with_reducible rfl))); (try simp only [Act.put, List.setIfInBounds_toArray, List.set_cons_zero, List.set_cons_succ]))
          (refine wpAnyH_take (i := 10) (v := ?v10n8) (by simp only [List.getElem?_toArray, List.getElem?_cons_succ, List.getElem?_cons_zero]; rfl) (by kernel_rfl) (by kernel_rfl) (by kernel_rfl) (fun _ _ _ h => False.elim h) (Or.inl ⟨by rfl, ?hy10n8⟩) (by assumption) ?rest10n8; (case hy10n8 => (intro w hSw; (try dsimp only at hSw); go_simp; (try with_reducible rfl))); (try simp only [Act.put, List.setIfInBounds_toArray, List.set_cons_zero, List.set_cons_succ]))
          (refine wpAnyH_take (i := 11) (v := ?v11n9) (by simp only [List.getElem?_toArray, List.getElem?_cons_succ, List.getElem?_cons_zero]; rfl) (by kernel_rfl) (by kernel_rfl) (by kernel_rfl) (fun _ _ _ h => False.elim h) (Or.inl ⟨by rfl, ?hy11n9⟩) (by assumption) ?rest11n9; (case hy11n9 => (intro w hSw; (try dsimp only at hSw); go_simp; (try with_reducible rfl))); (try simp only [Act.put, List.setIfInBounds_toArray, List.set_cons_zero, List.set_cons_succ]))
          (refine wpAnyH_take (i := 12) (v := ?v12n10) (by simp only [List.getElem?_toArray, List.getElem?_cons_succ, List.getElem?_cons_zero]; rfl) (by kernel_rfl) (by kernel_rfl) (by kernel_rfl) (fun _ _ _ h => False.elim h) (Or.inl ⟨by rfl, ?hy12n10⟩) (by assumption) ?rest12n10; (case hy12n10 => (intro w hSw; (try dsimp only at hSw); go_simp; (try with_reducible rfl))); (try simp only [Act.put, List.setIfInBounds_toArray, List.set_cons_zero, List.set_cons_succ]))
          (refine wpAnyH_take (i := 14) (v := ?v14n11) (by simp only [List.getElem?_toArray, List.getElem?_cons_succ, List.getElem?_cons_zero]; rfl) (by kernel_rfl) (by kernel_rfl) (by kernel_rfl) (fun _ _ _ h => False.elim h) (Or.inl ⟨by rfl, ?hy14n11⟩) (by assumption) ?rest14n11; (case hy14n11 => (intro w hSw; (try dsimp only at hSw); go_simp; (try with_reducible rfl))); (try simp only [Act.put, List.setIfInBounds_toArray, List.set_cons_zero, List.set_cons_succ]))
          (refine wpAnyH_ready (rs := [13]) (by kernel_rfl) (by simp) ?_; refine AllReadyH.cons (o := _) (by simp only [List.getElem?_toArray, List.getElem?_cons_succ, List.getElem?_cons_zero]; rfl) (fun K hK => ?_) AllReadyH.nil; go_simp; ((with_reducible refine (HDp3.out _ (HBw.out _ n3)).mono ?_); rintro e w17 ⟨rfl, hb17⟩; have n4 := n3.trans (hb17.mono n3.size)); refine hK.out _ _ (by exact HSk.out _ n4) (fun hHeld => ?_); clear hK K; (try simp only [Act.put, List.setIfInBounds_toArray, List.set_cons_zero, List.set_cons_succ]))
          (refine wpAnyH_take (i := 15) (v := ?v15n12) (by simp only [List.getElem?_toArray, List.getElem?_cons_succ, List.getElem?_cons_zero]; rfl) (by kernel_rfl) (by kernel_rfl) (by kernel_rfl) (fun _ _ _ h => False.elim h) (Or.inl ⟨by rfl, ?hy15n12⟩) (by assumption) ?rest15n12; (case hy15n12 => (intro w hSw; (try dsimp only at hSw); go_simp; (try with_reducible rfl))); (try simp only [Act.put, List.setIfInBounds_toArray, List.set_cons_zero, List.set_cons_succ]))
          (refine wpAnyH_take (i := 16) (v := ?v16n13) (by simp only [List.getElem?_toArray, List.getElem?_cons_succ, List.getElem?_cons_zero]; rfl) (by kernel_rfl) (by kernel_rfl) (by kernel_rfl) (fun _ _ _ h => False.elim h) (Or.inl ⟨by rfl, ?hy16n13⟩) (by assumption) ?rest16n13; (case hy16n13 => (intro w hSw; (try dsimp only at hSw); go_simp; (try with_reducible rfl))); (try simp only [Act.put, List.setIfInBounds_toArray, List.set_cons_zero, List.set_cons_succ]))
          (refine wpAnyH_take (i := 17) (v := ?v17n14) (by simp only [List.getElem?_toArray, List.getElem?_cons_succ, List.getElem?_cons_zero]; rfl) (by kernel_rfl) (by kernel_rfl) (by kernel_rfl) (fun _ _ _ h => False.elim h) (Or.inl ⟨by rfl, ?hy17n14⟩) (by assumption) ?rest17n14; (case hy17n14 => (intro w hSw; (try dsimp only at hSw); go_simp; (try with_reducible rfl))); (try simp only [Act.put, List.setIfInBounds_toArray, List.set_cons_zero, List.set_cons_succ]))
          (refine wpAnyH_take (i := 18) (v := ?v18n15) (by simp only [List.getElem?_toArray, List.getElem?_cons_succ, List.getElem?_cons_zero]; rfl) (by kernel_rfl) (by kernel_rfl) (by kernel_rfl) (fun _ _ _ h => False.elim h) (Or.inl ⟨by rfl, ?hy18n15⟩) (by assumption) ?rest18n15; (case hy18n15 => (intro w hSw; (try dsimp only at hSw); go_simp; (try with_reducible rfl))); (try simp only [Act.put, List.setIfInBounds_toArray, List.set_cons_zero, List.set_cons_succ]))
          (refine wpAnyH_take (i := 20) (v := ?v20n16) (by simp only [List.getElem?_toArray, List.getElem?_cons_succ, List.getElem?_cons_zero]; rfl) (by kernel_rfl) (by kernel_rfl) (by kernel_rfl) (fun _ _ _ h => False.elim h) (Or.inl ⟨by rfl, ?hy20n16⟩) (by assumption) ?rest20n16; (case hy20n16 => (intro w hSw; (try dsimp only at hSw); go_simp; (try with_reducible rfl))); (try simp only [Act.put, List.setIfInBounds_toArray, List.set_cons_zero, List.set_cons_succ]))
          (refine wpAnyH_take (i := 21) (v := ?v21n17) (by simp only [List.getElem?_toArray, List.getElem?_cons_succ, List.getElem?_cons_zero]; rfl) (by kernel_rfl) (by kernel_rfl) (by kernel_rfl) (fun _ _ _ h => False.elim h) (Or.inl ⟨by rfl, ?hy21n17⟩) (by assumption) ?rest21n17; (case hy21n17 => (intro w hSw; (try dsimp only at hSw); go_simp; (try with_reducible rfl))); (try simp only [Act.put, List.setIfInBounds_toArray, List.set_cons_zero, List.set_cons_succ]))
          (refine wpAnyH_ready (rs := [19]) (by kernel_rfl) (by simp) ?_; refine AllReadyH.cons (o := _) (by simp only [List.getElem?_toArray, List.getElem?_cons_succ, List.getElem?_cons_zero]; rfl) (fun K hK => ?_) AllReadyH.nil; go_simp; ((with_reducible refine (HCn2.out _ (HBw.out _ n4)).mono ?_); rintro e w18 ⟨rfl, hb18⟩; have n5 := n4.trans (hb18.mono n4.size)); refine hK.out _ _ (by exact HSk.out _ n5) (fun hHeld => ?_); clear hK K; (try simp only [Act.put, List.setIfInBounds_toArray, List.set_cons_zero, List.set_cons_succ]))
          (refine wpAnyH_take (i := 22) (v := ?v22n18) (by simp only [List.getElem?_toArray, List.getElem?_cons_succ, List.getElem?_cons_zero]; rfl) (by kernel_rfl) (by kernel_rfl) (by kernel_rfl) (fun _ _ _ h => False.elim h) (Or.inl ⟨by rfl, ?hy22n18⟩) (by assumption) ?rest22n18; (case hy22n18 => (intro w hSw; (try dsimp only at hSw); go_simp; (try with_reducible rfl))); (try simp only [Act.put, List.setIfInBounds_toArray, List.set_cons_zero, List.set_cons_succ]))
          (refine wpAnyH_take (i := 23) (v := ?v23n19) (by simp only [List.getElem?_toArray, List.getElem?_cons_succ, List.getElem?_cons_zero]; rfl) (by kernel_rfl) (by kernel_rfl) (by kernel_rfl) (fun _ _ _ h => False.elim h) (Or.inl ⟨by rfl, ?hy23n19⟩) (by assumption) ?rest23n19; (case hy23n19 => (intro w hSw; (try dsimp only at hSw); go_simp; (try with_reducible rfl))); (try simp only [Act.put, List.setIfInBounds_toArray, List.set_cons_zero, List.set_cons_succ]))
          (refine wpAnyH_take (i := 24) (v := ?v24n20) (by simp only [List.getElem?_toArray, List.getElem?_cons_succ, List.getElem?_cons_zero]; rfl) (by kernel_rfl) (by kernel_rfl) (by kernel_rfl) (fun _ _ _ h => False.elim h) (Or.inl ⟨by rfl, ?hy24n20⟩) (by assumption) ?rest24n20; (case hy24n20 => (intro w hSw; (try dsimp only at hSw); go_simp; (try with_reducible rfl))); (try simp only [Act.put, List.setIfInBounds_toArray, List.set_cons_zero, List.set_cons_succ]))
          (refine wpAnyH_take (i := 25) (v := ?v25n21) (by simp only [List.getElem?_toArray, List.getElem?_cons_succ, List.getElem?_cons_zero]; rfl) (by kernel_rfl) (by kernel_rfl) (by kernel_rfl) (fun _ _ _ h => False.elim h) (Or.inl ⟨by rfl, ?hy25n21⟩) (by assumption) ?rest25n21; (case hy25n21 => (intro w hSw; (try dsimp only at hSw); go_simp; (try with_reducible rfl))); (try simp only [Act.put, List.setIfInBounds_toArray, List.set_cons_zero, List.set_cons_succ]))
          (refine wpAnyH_take (i := 27) (v := ?v27n22) (by simp only [List.getElem?_toArray, List.getElem?_cons_succ, List.getElem?_cons_zero]; rfl) (by kernel_rfl) (by kernel_rfl) (by kernel_rfl) (fun _ _ _ h => False.elim h) (Or.inl ⟨by rfl, ?hy27n22⟩) (by assumption) ?rest27n22; (case hy27n22 => (intro w hSw; (try dsimp only at hSw); go_simp; (try with_reducible rfl))); (try simp only [Act.put, List.setIfInBounds_toArray, List.set_cons_zero, List.set_cons_succ]))
          (refine wpAnyH_ready (rs := [26]) (by kernel_rfl) (by simp) ?_; refine AllReadyH.cons (o := _) (by simp only [List.getElem?_toArray, List.getElem?_cons_succ, List.getElem?_cons_zero]; rfl) (fun K hK => ?_) AllReadyH.nil; go_simp; ((with_reducible refine (HNm3.out _ (HBw.out _ n5)).mono ?_); rintro e w19 ⟨nv', rfl, hown19, hb19⟩; obtain ⟨ra, rc, rfl, _, _, hrd, _⟩ := rd_own hown19; have n6 := n5.trans (hb19.mono n5.size)); refine hK.out _ _ (by exact HSk.out _ n6) (fun hHeld => ?_); clear hK K; (try simp only [Act.put, List.setIfInBounds_toArray, List.set_cons_zero, List.set_cons_succ]))
          (refine wpAnyH_ready (rs := [28]) (by kernel_rfl) (by simp) ?_; refine AllReadyH.cons (o := _) (by simp only [List.getElem?_toArray, List.getElem?_cons_succ, List.getElem?_cons_zero]; rfl) (fun K hK => ?_) AllReadyH.nil; go_simp; ((with_reducible refine (Sm.sameT_eq ra na rc nc m m NM _ HM.out HM.out (by omega) hrd (HRow.out.keep n6)).mono ?_); rintro e w20 ⟨rfl, n20, h20⟩; have n7 := n6.trans ((show Below w19.heap.size w19 w20 by subst h20; exact below_drewN (Below.refl _ _) _).mono n6.size)); refine hK.out _ _ (by exact HSk.out _ n7) (fun hHeld => ?_); clear hK K; (try simp only [Act.put, List.setIfInBounds_toArray, List.set_cons_zero, List.set_cons_succ]))
          (refine wpAnyH_take (i := 29) (v := ?v29n23) (by simp only [List.getElem?_toArray, List.getElem?_cons_succ, List.getElem?_cons_zero]; rfl) (by kernel_rfl) (by kernel_rfl) (by kernel_rfl) (fun _ _ _ h => False.elim h) (Or.inl ⟨by rfl, ?hy29n23⟩) (by assumption) ?rest29n23; (case hy29n23 => (intro w hSw; (try dsimp only at hSw); go_simp; (try with_reducible rfl))); (try simp only [Act.put, List.setIfInBounds_toArray, List.set_cons_zero, List.set_cons_succ]))
          (refine wpAnyH_take (i := 30) (v := ?v30n24) (by simp only [List.getElem?_toArray, List.getElem?_cons_succ, List.getElem?_cons_zero]; rfl) (by kernel_rfl) (by kernel_rfl) (by kernel_rfl) (fun _ _ _ h => False.elim h) (Or.inl ⟨by rfl, ?hy30n24⟩) (by assumption) ?rest30n24; (case hy30n24 => (intro w hSw; (try dsimp only at hSw); go_simp; (try with_reducible rfl))); (try simp only [Act.put, List.setIfInBounds_toArray, List.set_cons_zero, List.set_cons_succ]))
          refine wpAnyH_done (by kernel_rfl) ?_ _
          refine NoPanic.normal ?_
          have M20 := Lib.hid (HBw.out _ n7)
          clear n0 n1 n2 n3 n4 n5 n6 n7 hb14 hb15 hb16 hb17 hb18 hb19 hown19 hrd h20 hHeld p0 p1 p2 p3 p4 p5 p6 p7 p8 q0 q1 q2 q3 q4 q5 q6 q7 q8
          go_wp2
          go_ret
          exact ⟨by first | rfl | simp, M20.out⟩
end Tr
end Go.Proofs.YteekonojmpihlaaDoor
