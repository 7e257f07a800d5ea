import Derived.Test.YteekonojmpihlaaDoorQNmBooks
import Derived.Test.YteekonojmpihlaaDoorQNmAlive
import Derived.Test.YteekonojmpihlaaDoorQTreeSs
import Derived.Test.YteekonojmpihlaaDoorQTreeNms
/- The law NamesAgain's walk. Printed by gen_nmlaw3.py. Condition: the sentinels read as laid. -/
namespace Go.Proofs.YteekonojmpihlaaDoor
namespace Kt
end Kt
namespace St
end St
namespace Sp
end Sp
namespace Bk
end Bk
namespace Tr
end Tr
open Go Go.RowKit Kt St Sp Bk Tr
namespace Bo
theorem er_names (n : Nd) : names (walk (er n)) = names (walk n) := by rw [er_walk, names_map]
/-- Without an error: what is spread is right, has no name, and is spread as it is. -/
theorem sh_ok {B : Bks} (hB : ∀ x ∈ B, rgt x.2 = true) {n m : Nd} (h : shE B n = 0) (hm : er m = (spr B 64 [] 1 0 (er n)).2.2) : rgt n = true ∧ rgt m = true ∧ names (walk m) = [] := by
  have hr : rgt n = true := by
    by_cases hh : rgt n = false
    · rw [shE, if_pos hh] at h; cases h
    · simpa using hh
  rw [shE, if_neg (by simp [hr])] at h
  obtain ⟨h1, h2, h3⟩ := spr_done B (fun p hp => rgt_good (hB p hp)) (er n) (by rw [er_rgt]; exact hr) h
  rw [← hm] at h1 h2
  exact ⟨hr, by rw [er_rgt] at h1; exact h1, by rw [er_names] at h2; exact h2⟩
/-- A right tree without names is spread as it is. -/
theorem sh_plain (B : Bks) {n : Nd} (hr : rgt n = true) (hn : names (walk n) = []) : shE B n = 0 ∧ (spr B 64 [] 1 0 (er n)).2.2 = er n := by
  obtain ⟨q, hq⟩ := spr_plain B (er n) (by rw [er_rgt]; exact hr) (by rw [er_names]; exact hn)
  rw [shE, if_neg (by simp [hr]), hq]
  exact ⟨rfl, er_er n⟩
set_option maxRecDepth 100000 in
set_option maxHeartbeats 2000000 in
theorem again_law (E : Nat → Addr) (la : Option Addr) (lc n : Nat) (ds : Bks) (x : Nd) (w : World) (hn : ds.length = n) (hr : Rd w la (ds.flatMap dcells)) (hd : ∀ x ∈ ds, Is w.heap.size w x.2 ∧ tl x.2 ∧ x.1.length ≤ 9223372036854775807) (hse : Sent 204 w E Er.egs) (hn63 : n ≤ 9223372036854775807) (hIs : Is w.heap.size w x) (htl : tl x) :
    Calls Tryd.prog 5 #[.slice la n lc, nv x] w fun e w' => e = .returned (.bool true) ∧ Below w.heap.size w w' := by
  obtain ⟨x0, x1, x2, x3, xs⟩ := four' (hIs).len
  obtain ⟨xk, xn, xm, xa, xl, xc, xt, hnv, _⟩ := nv_explicit xs
  obtain ⟨W1, hW1⟩ : ∃ W1, w.alloc (.cells #[.int .i64 xk, .int .u64 (x0 : Int), .int .u64 (x1 : Int), .int .u64 (x2 : Int), .int .u64 (x3 : Int), .slice xa xl xc, .int .i64 xn, .int .i64 xm, .string (Str xt)] 37 (0, 0)) = W1 := ⟨_, rfl⟩
  have b1 : Below w.heap.size w W1 := by rw [← hW1]; exact (Below.refl _ _).alloc (Nat.le_refl _) _
  have s1 : W1.heap[w.heap.size]? = some (.cells #[.int .i64 xk, .int .u64 (x0 : Int), .int .u64 (x1 : Int), .int .u64 (x2 : Int), .int .u64 (x3 : Int), .slice xa xl xc, .int .i64 xn, .int .i64 xm, .string (Str xt)] 37 (0, 0)) := by rw [← hW1]; exact World.alloc_heap_new _ _
  have hxt := tl_walk htl
  have hal := alive_c E W1 (hse.keep b1)
  have hbo := fun (W : World) (hb : Below w.heap.size w W) => books_c E la lc n ds W hn (hr.keep hb) (fun x hx => ⟨Is.mono hb.size (Is.below hb (hd x hx).1), (hd x hx).2⟩) (hse.keep hb) hn63
  have hbox : ∀ V : World, Below W1.heap.size W1 V → V.cell? ⟨w.heap.size, 0, none⟩ = some (.int .i64 xk) ∧ V.cell? ⟨w.heap.size, 1, none⟩ = some (.int .u64 (x0 : Int)) ∧ V.cell? ⟨w.heap.size, 2, none⟩ = some (.int .u64 (x1 : Int)) ∧ V.cell? ⟨w.heap.size, 3, none⟩ = some (.int .u64 (x2 : Int)) ∧ V.cell? ⟨w.heap.size, 4, none⟩ = some (.int .u64 (x3 : Int)) ∧ V.cell? ⟨w.heap.size, 5, none⟩ = some (.slice xa xl xc) ∧ V.cell? ⟨w.heap.size, 6, none⟩ = some (.int .i64 xn) ∧ V.cell? ⟨w.heap.size, 7, none⟩ = some (.int .i64 xm) ∧ V.cell? ⟨w.heap.size, 8, none⟩ = some (.string (Str xt)) := fun V hb => nd_cells ((hb.block _ (block_lt s1)).trans s1)
  rw [hnv]
  have HAl := Lib.hid hal
  have HBo := Lib.hid hbo
  have HX := Lib.hid (And.intro hIs (And.intro hxt (And.intro hnv hse)))
  have HBox := Lib.hid hbox
  have HB1 := Lib.hid b1
  have HW1 := Lib.hid hW1
  clear hal hbo hn hr hd hse hIs htl hxt hnv hbox b1 s1 hW1 xs
  go_enter Tryd.func5, Tryd.ntmps5
  go_upto_region 1 with (fail)
  rw [HW1.out]
  go_wp2_with fail
  with_reducible refine HAl.out.mono ?_
  rintro e w2 ⟨rfl, hb2⟩
  go_wp2_with fail
  with_reducible refine (HBo.out w2 (HB1.out.trans (hb2.mono HB1.out.size))).mono ?_
  rintro e w3 (⟨rfl, hb3⟩ | ⟨p, q, L, B, rfl, hBR⟩)
  · have hfin := (HB1.out.trans (hb2.mono HB1.out.size)).trans (hb3.mono (by have := HB1.out.size; have := hb2.size; omega))
    have HFin := Lib.hid hfin
    clear hfin hb2 hb3
    go_wp2
    go_ret
    exact ⟨rfl, HFin.out⟩
  · have hb13 : Below W1.heap.size W1 w3 := hb2.trans (hBR.hb.mono hb2.size)
    have hbw3 : Below w.heap.size w w3 := HB1.out.trans (hb13.mono HB1.out.size)
    obtain ⟨hIs, hxt, hnv, hse⟩ := HX.out
    have hsm := small11_c x w3 (Is.mono hbw3.size (Is.below hbw3 hIs))
    rw [hnv] at hsm
    obtain ⟨u0, u1, u2, u3, u4, u5, u6, u7, u8⟩ := HBox.out w3 hb13
    have HSm := Lib.hid hsm
    have H3 := Lib.hid (And.intro hBR (And.intro hb13 hbw3))
    clear hsm hBR hb13 hbw3 hIs hxt hnv hse hb2
    go_wp2_with fail
    with_reducible refine HSm.out.mono ?_
    rintro e w4 ⟨m, rfl, _, hmi, _, hb4⟩
    obtain ⟨hBR, hb13, hbw3⟩ := H3.out
    obtain ⟨m0, m1, m2, m3, ms⟩ := four' hmi.len
    obtain ⟨mk, mn, mm, ma, ml, mc, mt, hnvm, _⟩ := nv_explicit ms
    obtain ⟨W5, hW5⟩ : ∃ W5, w4.alloc (.cells #[.int .i64 mk, .int .u64 (m0 : Int), .int .u64 (m1 : Int), .int .u64 (m2 : Int), .int .u64 (m3 : Int), .slice ma ml mc, .int .i64 mn, .int .i64 mm, .string (Str mt)] 44) = W5 := ⟨_, rfl⟩
    have b5 : Below w4.heap.size w4 W5 := by rw [← hW5]; exact (Below.refl _ _).alloc (Nat.le_refl _) _
    have hb35 := hb4.trans (b5.mono hb4.size)
    have hb15 := hb13.trans (hb35.mono hb13.size)
    have hbw5 := hbw3.trans (hb35.mono hbw3.size)
    have hBR5 := hBR.below hb35
    rw [hnvm]
    have HW5 := Lib.hid hW5
    by_cases h7 : sz x < 700
    rotate_left 1
    · rw [decide_eq_false h7]
      have HFin := Lib.hid hbw5
      clear hW5 b5 hb35 hb15 hbw5 hBR5 hBR hb13 hbw3 hmi ms hnvm hb4 u0 u1 u2 u3 u4 u5 u6 u7 u8
      go_upto_region 7 with (fail)
      rw [HW5.out]
      go_wp2
      go_ret
      exact ⟨rfl, HFin.out⟩
    · rw [decide_eq_true h7]
      obtain ⟨hIs, hxt, hnv, hse⟩ := HX.out
      have hsp := Spread_c E p L [q] B x hxt W5 (Is.mono hbw5.size (Is.below hbw5 hIs)) hBR5.bk (hse.keep hbw5)
      rw [hnv] at hsp
      have HSp := Lib.hid hsp
      have H5 := Lib.hid (And.intro hBR5 (And.intro hb15 hbw5))
      clear hsp hW5 b5 hb35 hBR hb13 hbw3 hmi ms hnvm hb4 hIs hxt hnv hse hBR5 hbw5 u0 u1 u2 u3 u4 u5 u6 u7 u8
      go_upto_region 7 with (fail)
      rw [HW5.out]
      obtain ⟨u0, u1, u2, u3, u4, u5, u6, u7, u8⟩ := HBox.out W5 hb15
      clear hb15
      go_wp2_with fail
      with_reducible refine HSp.out.mono ?_
      rintro e w6 ⟨y, rfl, hy1, hy2, hyi, _, hb6⟩
      clear u0 u1 u2 u3 u4 u5 u6 u7 u8
      obtain ⟨hBR5, hb15, hbw5⟩ := H5.out
      obtain ⟨y0, y1, y2, y3, ys⟩ := four' hyi.len
      obtain ⟨yk, yn, ym, ya, yl, yc, yt, hnvy, _⟩ := nv_explicit ys
      obtain ⟨W7, hW7⟩ : ∃ W7, w6.alloc (.cells #[.int .i64 yk, .int .u64 (y0 : Int), .int .u64 (y1 : Int), .int .u64 (y2 : Int), .int .u64 (y3 : Int), .slice ya yl yc, .int .i64 yn, .int .i64 ym, .string (Str yt)] 37) = W7 := ⟨_, rfl⟩
      have b7 : Below w6.heap.size w6 W7 := by rw [← hW7]; exact (Below.refl _ _).alloc (Nat.le_refl _) _
      have s7 : W7.heap[w6.heap.size]? = some (.cells #[.int .i64 yk, .int .u64 (y0 : Int), .int .u64 (y1 : Int), .int .u64 (y2 : Int), .int .u64 (y3 : Int), .slice ya yl yc, .int .i64 yn, .int .i64 ym, .string (Str yt)] 37 (0, 0)) := by rw [← hW7]; exact heap_alloc_new w6 _
      have hb57 := hb6.trans (b7.mono hb6.size)
      have hb17 := hb15.trans (hb57.mono hb15.size)
      have hbw7 := hbw5.trans (hb57.mono hbw5.size)
      have hBR7 := hBR5.below hb57
      have hyi7 : Is W7.heap.size W7 y := Is.mono b7.size (Is.below b7 hyi)
      have hboy : ∀ V : World, Below W7.heap.size W7 V → (V.cell? ⟨w6.heap.size, 0, none⟩ = some (.int .i64 yk) ∧ V.cell? ⟨w6.heap.size, 1, none⟩ = some (.int .u64 (y0 : Int)) ∧ V.cell? ⟨w6.heap.size, 2, none⟩ = some (.int .u64 (y1 : Int)) ∧ V.cell? ⟨w6.heap.size, 3, none⟩ = some (.int .u64 (y2 : Int)) ∧ V.cell? ⟨w6.heap.size, 4, none⟩ = some (.int .u64 (y3 : Int)) ∧ V.cell? ⟨w6.heap.size, 5, none⟩ = some (.slice ya yl yc) ∧ V.cell? ⟨w6.heap.size, 6, none⟩ = some (.int .i64 yn) ∧ V.cell? ⟨w6.heap.size, 7, none⟩ = some (.int .i64 ym) ∧ V.cell? ⟨w6.heap.size, 8, none⟩ = some (.string (Str yt))) ∧ (V.cell? ⟨w.heap.size, 0, none⟩ = some (.int .i64 xk) ∧ V.cell? ⟨w.heap.size, 1, none⟩ = some (.int .u64 (x0 : Int)) ∧ V.cell? ⟨w.heap.size, 2, none⟩ = some (.int .u64 (x1 : Int)) ∧ V.cell? ⟨w.heap.size, 3, none⟩ = some (.int .u64 (x2 : Int)) ∧ V.cell? ⟨w.heap.size, 4, none⟩ = some (.int .u64 (x3 : Int)) ∧ V.cell? ⟨w.heap.size, 5, none⟩ = some (.slice xa xl xc) ∧ V.cell? ⟨w.heap.size, 6, none⟩ = some (.int .i64 xn) ∧ V.cell? ⟨w.heap.size, 7, none⟩ = some (.int .i64 xm) ∧ V.cell? ⟨w.heap.size, 8, none⟩ = some (.string (Str xt))) := fun V hb => ⟨nd_cells ((hb.block _ (block_lt s7)).trans s7), HBox.out V (hb17.trans (hb.mono hb17.size))⟩
      have HBoy := Lib.hid hboy
      have HW7 := Lib.hid hW7
      rw [hnvy]
      by_cases h0 : shE B x = 0
      rotate_left 1
      · -- an error
        have hy0 := hy2 h0
        obtain rfl : yk = 0 := by
          have := hnvy
          rw [hy0] at this
          simp only [nv, nil0, cells, Nd.kind, Value.agg.injEq] at this
          have h2 := congrArg Array.toList this
          simp only [List.cons.injEq, Value.int.injEq, true_and] at h2
          exact h2.1.symm
        obtain ⟨ev, hev⟩ : ∃ v, ee E (shE B x) = .iface 204 (.pointer (some v)) := ⟨E (Er.egs.getD ((shE B x).toNat - 1) 0), by unfold ee; rw [if_neg h0]; rfl⟩
        rw [hev]
        obtain ⟨hIs, hxt, hnv, hse⟩ := HX.out
        have hIx := fun (V : World) (hb : Below W7.heap.size W7 V) => (Is.mono (Nat.le_trans hbw7.size hb.size) (Is.below (hbw7.trans (hb.mono hbw7.size)) hIs) : Is V.heap.size V x)
        have hnm := names_c0 x (walk_len hIs) W7 (hIx W7 (Below.refl _ _))
        have hrt := fun (V : World) (hb : Below W7.heap.size W7 V) => right_c x hxt V (hIx V hb)
        have hcase : 0 < (names (walk x)).length ∨ ((names (walk x)).length = 0 ∧ rgt x = false) := by
          by_cases hz : (names (walk x)).length = 0
          · refine .inr ⟨hz, ?_⟩
            by_cases hg : rgt x = true
            · exact absurd (sh_plain B hg (List.eq_nil_of_length_eq_zero hz)).1 h0
            · simpa using hg
          · exact .inl (by omega)
        rw [hnv] at hnm hrt
        obtain ⟨N, hN⟩ : ∃ N, (names (walk x)).length = N := ⟨_, rfl⟩
        rw [hN] at hnm hcase
        have HNm := Lib.hid hnm
        have HRt := Lib.hid hrt
        have HB7 := Lib.hid (And.intro hbw7 hBR7)
        obtain ⟨⟨o0, o1, o2, o3, o4, o5, o6, o7, o8⟩, u0, u1, u2, u3, u4, u5, u6, u7, u8⟩ := hboy W7 (Below.refl _ _)
        clear hnm hrt hboy hW7 b7 s7 hb57 hb17 hbw7 hBR7 hyi7 hyi ys hnvy hb6 hBR5 hb15 hbw5 hy0 hy1 hy2 hIs hxt hnv hse hIx hN hev h0
        go_upto_region 10 with (fail)
        rw [HW7.out]
        go_wp2_with fail
        with_reducible refine HNm.out.mono ?_
        rintro e w8 ⟨v, rfl, own8, hb8⟩
        obtain ⟨va, vc, rfl, _⟩ := rd_own own8
        have hB8 := HB7.out.1.trans (hb8.mono HB7.out.1.size)
        rcases hcase with hN0 | ⟨rfl, hg⟩
        · have hN0' : (0 : Int) < (N : Int) := by omega
          have HB8 := Lib.hid hB8
          clear own8 hB8 hb8
          go_wp2
          go_ret
          exact ⟨rfl, HB8.out⟩
        · have hrt8 := HRt.out w8 hb8
          rw [hg] at hrt8
          have HRt8 := Lib.hid hrt8
          have HB8 := Lib.hid hB8
          obtain ⟨_, p0, p1, p2, p3, p4, p5, p6, p7, p8⟩ := HBoy.out w8 hb8
          clear own8 hB8 hb8 hrt8 u0 u1 u2 u3 u4 u5 u6 u7 u8
          go_wp2_with fail
          with_reducible refine HRt8.out.mono ?_
          rintro e w9 ⟨rfl, hb9⟩
          have hfin := HB8.out.trans (hb9.mono HB8.out.size)
          go_wp2
          go_ret
          exact ⟨rfl, hfin⟩
      · -- no error
        have hBr := hBR7.bk.rgt
        obtain ⟨hrx, hry, hny⟩ := sh_ok hBr h0 (hy1 h0)
        have hzy : names (walk y) = [] := hny
        obtain ⟨hs1, hs2⟩ := sh_plain B hry hny
        obtain ⟨hs3, hs4⟩ := sh_plain [] hry hny
        have hyx : names (walk x) = [] → er y = er x := fun hz => (hy1 h0).trans (sh_plain B hrx hz).2
        obtain ⟨hIs, hxt, hnv, hse⟩ := HX.out
        have hyt := rgt_texts hry
        have hsp := fun (V : World) (hb : Below W7.heap.size W7 V) => Spread_c E p L [q] B y hyt V (Is.mono hb.size (Is.below hb hyi7)) (hBR7.below hb).bk (hse.keep (hbw7.trans (hb.mono hbw7.size)))
        have hsp2 := fun (V : World) (p2 : Nat) (L2 : List Nat) (hb : Below W7.heap.size W7 V) (hk : BK V p2 L2 [] []) => Spread_c E p2 L2 [] [] y hyt V (Is.mono hb.size (Is.below hb hyi7)) hk (hse.keep (hbw7.trans (hb.mono hbw7.size)))
        have hIx := fun (V : World) (hb : Below W7.heap.size W7 V) => (Is.mono (Nat.le_trans hbw7.size hb.size) (Is.below (hbw7.trans (hb.mono hbw7.size)) hIs) : Is V.heap.size V x)
        have hIy := fun (V : World) (hb : Below W7.heap.size W7 V) => (Is.mono hb.size (Is.below hb hyi7) : Is V.heap.size V y)
        rw [h0, show ee E 0 = .nilIface from rfl]
        rw [hnvy] at hsp hsp2
        have HSp1 := Lib.hid hsp
        have HSp2 := Lib.hid hsp2
        have HIx := Lib.hid (And.intro hIx hxt)
        have HIy := Lib.hid (And.intro hIy hyt)
        have HP := Lib.hid (And.intro hry (And.intro hs1 (And.intro hs2 (And.intro hs3 (And.intro hs4 (And.intro hyx (And.intro hrx (And.intro hnv hnvy))))))))
        have HB7 := Lib.hid hbw7
        obtain ⟨⟨o0, o1, o2, o3, o4, o5, o6, o7, o8⟩, u0, u1, u2, u3, u4, u5, u6, u7, u8⟩ := hboy W7 (Below.refl _ _)
        clear hsp hsp2 hIx hIy hboy hW7 b7 s7 hb57 hb17 hbw7 hBR7 hyi7 hyi ys hnvy hb6 hBR5 hb15 hbw5 hy1 hy2 hIs hxt hnv hse h0 hBr hrx hry hny hzy hs1 hs2 hs3 hs4 hyx hyt
        go_upto_region 10 with (fail)
        rw [HW7.out]
        clear u0 u1 u2 u3 u4 u5 u6 u7 u8
        go_wp2_with fail
        with_reducible refine (HSp1.out W7 (Below.refl _ _)).mono ?_
        rintro e w8 ⟨z, rfl, hz1, _, hzi, _, hb8⟩
        clear o0 o1 o2 o3 o4 o5 o6 o7 o8
        obtain ⟨z0, z1, z2, z3, zs⟩ := four' hzi.len
        obtain ⟨zk, zn, zm, za, zl, zc, zt, hnvz, _⟩ := nv_explicit zs
        obtain ⟨W9, hW9⟩ : ∃ W9, w8.alloc (.cells #[.int .i64 zk, .int .u64 (z0 : Int), .int .u64 (z1 : Int), .int .u64 (z2 : Int), .int .u64 (z3 : Int), .slice za zl zc, .int .i64 zn, .int .i64 zm, .string (Str zt)] 37) = W9 := ⟨_, rfl⟩
        have b9 : Below w8.heap.size w8 W9 := by rw [← hW9]; exact (Below.refl _ _).alloc (Nat.le_refl _) _
        have s9 : W9.heap[w8.heap.size]? = some (.cells #[.int .i64 zk, .int .u64 (z0 : Int), .int .u64 (z1 : Int), .int .u64 (z2 : Int), .int .u64 (z3 : Int), .slice za zl zc, .int .i64 zn, .int .i64 zm, .string (Str zt)] 37 (0, 0)) := by rw [← hW9]; exact heap_alloc_new w8 _
        have hb79 := hb8.trans (b9.mono hb8.size)
        have hez : er z = er y := (hz1 HP.out.2.1).trans HP.out.2.2.1
        have hzi9 : Is W9.heap.size W9 z := Is.mono b9.size (Is.below b9 hzi)
        have hboz : ∀ V : World, Below W9.heap.size W9 V → (V.cell? ⟨w8.heap.size, 0, none⟩ = some (.int .i64 zk) ∧ V.cell? ⟨w8.heap.size, 1, none⟩ = some (.int .u64 (z0 : Int)) ∧ V.cell? ⟨w8.heap.size, 2, none⟩ = some (.int .u64 (z1 : Int)) ∧ V.cell? ⟨w8.heap.size, 3, none⟩ = some (.int .u64 (z2 : Int)) ∧ V.cell? ⟨w8.heap.size, 4, none⟩ = some (.int .u64 (z3 : Int)) ∧ V.cell? ⟨w8.heap.size, 5, none⟩ = some (.slice za zl zc) ∧ V.cell? ⟨w8.heap.size, 6, none⟩ = some (.int .i64 zn) ∧ V.cell? ⟨w8.heap.size, 7, none⟩ = some (.int .i64 zm) ∧ V.cell? ⟨w8.heap.size, 8, none⟩ = some (.string (Str zt))) ∧ (V.cell? ⟨w6.heap.size, 0, none⟩ = some (.int .i64 yk) ∧ V.cell? ⟨w6.heap.size, 1, none⟩ = some (.int .u64 (y0 : Int)) ∧ V.cell? ⟨w6.heap.size, 2, none⟩ = some (.int .u64 (y1 : Int)) ∧ V.cell? ⟨w6.heap.size, 3, none⟩ = some (.int .u64 (y2 : Int)) ∧ V.cell? ⟨w6.heap.size, 4, none⟩ = some (.int .u64 (y3 : Int)) ∧ V.cell? ⟨w6.heap.size, 5, none⟩ = some (.slice ya yl yc) ∧ V.cell? ⟨w6.heap.size, 6, none⟩ = some (.int .i64 yn) ∧ V.cell? ⟨w6.heap.size, 7, none⟩ = some (.int .i64 ym) ∧ V.cell? ⟨w6.heap.size, 8, none⟩ = some (.string (Str yt))) ∧ (V.cell? ⟨w.heap.size, 0, none⟩ = some (.int .i64 xk) ∧ V.cell? ⟨w.heap.size, 1, none⟩ = some (.int .u64 (x0 : Int)) ∧ V.cell? ⟨w.heap.size, 2, none⟩ = some (.int .u64 (x1 : Int)) ∧ V.cell? ⟨w.heap.size, 3, none⟩ = some (.int .u64 (x2 : Int)) ∧ V.cell? ⟨w.heap.size, 4, none⟩ = some (.int .u64 (x3 : Int)) ∧ V.cell? ⟨w.heap.size, 5, none⟩ = some (.slice xa xl xc) ∧ V.cell? ⟨w.heap.size, 6, none⟩ = some (.int .i64 xn) ∧ V.cell? ⟨w.heap.size, 7, none⟩ = some (.int .i64 xm) ∧ V.cell? ⟨w.heap.size, 8, none⟩ = some (.string (Str xt))) := fun V hb => ⟨nd_cells ((hb.block _ (block_lt s9)).trans s9), HBoy.out V (hb79.trans (hb.mono hb79.size))⟩
        rw [hnvz, HP.out.2.1, show ee E 0 = .nilIface from rfl]
        have HBoz := Lib.hid hboz
        have HW9 := Lib.hid hW9
        have H9 := Lib.hid (And.intro hb79 (And.intro hez (And.intro hzi9 hnvz)))
        clear hW9 b9 s9 hb79 hez hzi9 hboz hnvz zs hzi hb8 hz1
        go_upto_region 13 with (fail)
        rw [HW9.out]
        -- the third spread, and its box, in whatever order
        go_cut [13, 14] (fun v e V => ∃ (bz : Nat) (t : Nd), v = .pointer (some ⟨bz, 0, none⟩) ∧ e = .nilIface ∧ V.heap[bz]? = some (.cells (cells t).toArray 37 (0, 0)) ∧ er t = er y ∧ Is V.heap.size V t ∧ Below W9.heap.size W9 V)
        case first =>
          obtain ⟨hb79, _, _, _⟩ := H9.out
          have hsk : ∀ V : World, Below W9.heap.size W9 V → V.cell? ⟨w6.heap.size, 0, none⟩ = some (.int .i64 yk) ∧ V.cell? ⟨w6.heap.size, 1, none⟩ = some (.int .u64 (y0 : Int)) ∧ V.cell? ⟨w6.heap.size, 2, none⟩ = some (.int .u64 (y1 : Int)) ∧ V.cell? ⟨w6.heap.size, 3, none⟩ = some (.int .u64 (y2 : Int)) ∧ V.cell? ⟨w6.heap.size, 4, none⟩ = some (.int .u64 (y3 : Int)) ∧ V.cell? ⟨w6.heap.size, 5, none⟩ = some (.slice ya yl yc) ∧ V.cell? ⟨w6.heap.size, 6, none⟩ = some (.int .i64 yn) ∧ V.cell? ⟨w6.heap.size, 7, none⟩ = some (.int .i64 ym) ∧ V.cell? ⟨w6.heap.size, 8, none⟩ = some (.string (Str yt)) := fun V hb => (HBoz.out V hb).2.1
          have hnew := fun (V : World) => new_c [] V
          have hspn := fun (V : World) (p2 : Nat) (L2 : List Nat) (hb : Below W9.heap.size W9 V) (hk : BK V p2 L2 [] []) => HSp2.out V p2 L2 (hb79.trans (hb.mono hb79.size)) hk
          have HSk := Lib.hid hsk
          have HNew := Lib.hid hnew
          have HSpn := Lib.hid hspn
          have HE3 := Lib.hid (show ∀ t : Nd, (shE [] y = 0 → er t = (spr [] 64 [] 1 0 (er y)).2.2) → er t = er y from fun t h => (h HP.out.2.2.2.1).trans HP.out.2.2.2.2.1)
          have HE0 := Lib.hid (show ee E (shE [] y) = .nilIface by rw [HP.out.2.2.2.1]; rfl)
          clear hsk hnew hspn hb79 HSp2 HBoz H9
          have n0 : Below W9.heap.size W9 W9.drew := (Below.refl _ _).drew
          refine wp_region_noPanic ?_
          refine wp_region_held_drew (S := fun V => V.cell? ⟨w6.heap.size, 0, none⟩ = some (.int .i64 yk) ∧ V.cell? ⟨w6.heap.size, 1, none⟩ = some (.int .u64 (y0 : Int)) ∧ V.cell? ⟨w6.heap.size, 2, none⟩ = some (.int .u64 (y1 : Int)) ∧ V.cell? ⟨w6.heap.size, 3, none⟩ = some (.int .u64 (y2 : Int)) ∧ V.cell? ⟨w6.heap.size, 4, none⟩ = some (.int .u64 (y3 : Int)) ∧ V.cell? ⟨w6.heap.size, 5, none⟩ = some (.slice ya yl yc) ∧ V.cell? ⟨w6.heap.size, 6, none⟩ = some (.int .i64 yn) ∧ V.cell? ⟨w6.heap.size, 7, none⟩ = some (.int .i64 ym) ∧ V.cell? ⟨w6.heap.size, 8, none⟩ = some (.string (Str yt))) (by kernel_rfl) (HSk.out _ n0) (fun hHeld => ?_)
          (refine wpAnyH_take (i := 1) (v := ?v1n1) (by simp only [List.getElem?_toArray, List.getElem?_cons_succ, List.getElem?_cons_zero]; rfl) (by kernel_rfl) (by kernel_rfl) (by kernel_rfl) (fun _ _ _ h => False.elim h) (Or.inl ⟨by rfl, ?hy1n1⟩) (by assumption) ?rest1n1; (case hy1n1 => (intro w hSw; (try dsimp only at hSw); go_simp; (try with_reducible rfl))); (try simp only [Act.put, List.setIfInBounds_toArray, List.set_cons_zero, List.set_cons_succ]))
          refine wpAnyH_ready (rs := [0, 6]) (by kernel_rfl) (by simp) ?_
          refine AllReadyH.cons (o := _) (by simp only [List.getElem?_toArray, List.getElem?_cons_succ, List.getElem?_cons_zero]; rfl) (fun K hK => ?_) ?_
          · (go_simp; ((with_reducible refine (HNew.out _).mono ?_); rintro e g1 ⟨p2, L2, rfl, bk2, _, hg1⟩; have n1 := n0.trans (hg1.mono n0.size)); refine hK.out _ _ (by exact HSk.out _ n1) (fun hHeld => ?_); clear hK K; (try simp only [Act.put, List.setIfInBounds_toArray, List.set_cons_zero, List.set_cons_succ]))
            refine wpAnyH_ready (rs := [2, 6]) (by kernel_rfl) (by simp) ?_
            refine AllReadyH.cons (o := _) (by simp only [List.getElem?_toArray, List.getElem?_cons_succ, List.getElem?_cons_zero]; rfl) (fun K hK => ?_) ?_
            · (go_simp; ((with_reducible refine (HSpn.out _ p2 L2 n1 bk2).mono ?_); rintro e g2 ⟨t, rfl, ht1, _, hti, htb, hg2⟩; have n2 := n1.trans (hg2.mono n1.size)); refine hK.out _ _ (by exact HSk.out _ n2) (fun hHeld => ?_); clear hK K; (try simp only [Act.put, List.setIfInBounds_toArray, List.set_cons_zero, List.set_cons_succ]))
              obtain ⟨t0, t1, t2, t3, ts⟩ := four' hti.len
              obtain ⟨tk, tn, tm, ta, tl, tc, tt, hnvt, hclt⟩ := nv_explicit ts
              rw [hnvt, HE0.out]
              (refine wpAnyH_take (i := 3) (v := ?v3n2) (by simp only [List.getElem?_toArray, List.getElem?_cons_succ, List.getElem?_cons_zero]; rfl) (by kernel_rfl) (by kernel_rfl) (by kernel_rfl) (fun _ _ _ h => False.elim h) (Or.inl ⟨by rfl, ?hy3n2⟩) (by assumption) ?rest3n2; (case hy3n2 => (intro w hSw; (try dsimp only at hSw); go_simp; (try with_reducible rfl))); (try simp only [Act.put, List.setIfInBounds_toArray, List.set_cons_zero, List.set_cons_succ]))
              (refine wpAnyH_take (i := 4) (v := ?v4n3) (by simp only [List.getElem?_toArray, List.getElem?_cons_succ, List.getElem?_cons_zero]; rfl) (by kernel_rfl) (by kernel_rfl) (by kernel_rfl) (fun _ _ _ h => False.elim h) (Or.inl ⟨by rfl, ?hy4n3⟩) (by assumption) ?rest4n3; (case hy4n3 => (intro w hSw; (try dsimp only at hSw); go_simp; (try with_reducible rfl))); (try simp only [Act.put, List.setIfInBounds_toArray, List.set_cons_zero, List.set_cons_succ]))
              (refine wpAnyH_take (i := 5) (v := ?v5n4) (by simp only [List.getElem?_toArray, List.getElem?_cons_succ, List.getElem?_cons_zero]; rfl) (by kernel_rfl) (by kernel_rfl) (by kernel_rfl) (fun _ _ _ h => False.elim h) (Or.inl ⟨by rfl, ?hy5n4⟩) (by assumption) ?rest5n4; (case hy5n4 => (intro w hSw; (try dsimp only at hSw); go_simp; (try with_reducible rfl))); (try simp only [Act.put, List.setIfInBounds_toArray, List.set_cons_zero, List.set_cons_succ]))
              obtain ⟨W10, hW10⟩ : ∃ W10, g2.alloc (.cells #[.int .i64 0, .int .u64 0, .int .u64 0, .int .u64 0, .int .u64 0, .slice none 0 0, .int .i64 0, .int .i64 0, .string ⟨#[]⟩] 37) = W10 := ⟨_, rfl⟩
              have b10 : Below g2.heap.size g2 W10 := by rw [← hW10]; exact (Below.refl _ _).alloc (Nat.le_refl _) _
              have s10 : W10.heap[g2.heap.size]? = some (.cells #[.int .i64 0, .int .u64 0, .int .u64 0, .int .u64 0, .int .u64 0, .slice none 0 0, .int .i64 0, .int .i64 0, .string ⟨#[]⟩] 37 (0, 0)) := by rw [← hW10]; exact heap_alloc_new g2 _
              have n3 := n2.trans (b10.mono n2.size)
              have hti10 : Is W10.heap.size W10 t := Is.mono b10.size (Is.below b10 hti)
              have htlt := Is.bl hti
              have het := HE3.out t ht1
              (refine wpAnyH_ready (rs := [6]) (by kernel_rfl) (by simp) ?_; refine AllReadyH.cons (o := _) (by simp only [List.getElem?_toArray, List.getElem?_cons_succ, List.getElem?_cons_zero]; rfl) (fun K hK => ?_) AllReadyH.nil; go_simp; (skip); refine hK.out _ _ (by exact HSk.out _ n3) (fun hHeld => ?_); clear hK K; (try simp only [Act.put, List.setIfInBounds_toArray, List.set_cons_zero, List.set_cons_succ]))
              obtain ⟨d0, d1, d2, d3, d4, d5, d6, d7, d8⟩ := nd_cells s10
              obtain ⟨f0, f1, f2, f3, f4, f5, f6, f7, f8⟩ := frz9 s10
              have hpb := put9_block s10 (.int .i64 tk) (.int .u64 (t0 : Int)) (.int .u64 (t1 : Int)) (.int .u64 (t2 : Int)) (.int .u64 (t3 : Int)) (.slice ta tl tc) (.int .i64 tn) (.int .i64 tm) (.string (Str tt))
              have hpm := put9_mod W10 g2.heap.size (.int .i64 tk) (.int .u64 (t0 : Int)) (.int .u64 (t1 : Int)) (.int .u64 (t2 : Int)) (.int .u64 (t3 : Int)) (.slice ta tl tc) (.int .i64 tn) (.int .i64 tm) (.string (Str tt))
              have hn3 := n3.trans (hpm.toBelow n3.size (by simp; exact n2.size))
              have hti3 : Is (put9 W10 g2.heap.size (.int .i64 tk) (.int .u64 (t0 : Int)) (.int .u64 (t1 : Int)) (.int .u64 (t2 : Int)) (.int .u64 (t3 : Int)) (.slice ta tl tc) (.int .i64 tn) (.int .i64 tm) (.string (Str tt))).heap.size (put9 W10 g2.heap.size (.int .i64 tk) (.int .u64 (t0 : Int)) (.int .u64 (t1 : Int)) (.int .u64 (t2 : Int)) (.int .u64 (t3 : Int)) (.slice ta tl tc) (.int .i64 tn) (.int .i64 tm) (.string (Str tt))) t := is_mod hti10 htlt hpm (fun b hb => .inl fun hq => by simp at hb; omega)
              (refine wpAnyH_ready (rs := [7]) (by kernel_rfl) (by simp) ?_; refine AllReadyH.cons (o := _) (by simp only [List.getElem?_toArray, List.getElem?_cons_succ, List.getElem?_cons_zero]; rfl) (fun K hK => ?_) AllReadyH.nil; go_simp; (skip); refine hK.out _ _ (by exact HSk.out _ hn3) (fun hHeld => ?_); clear hK K; (try simp only [Act.put, List.setIfInBounds_toArray, List.set_cons_zero, List.set_cons_succ]))
              (refine wpAnyH_take (i := 8) (v := ?v8n5) (by simp only [List.getElem?_toArray, List.getElem?_cons_succ, List.getElem?_cons_zero]; rfl) (by kernel_rfl) (by kernel_rfl) (by kernel_rfl) (fun _ _ _ h => False.elim h) (Or.inl ⟨by rfl, ?hy8n5⟩) (by assumption) ?rest8n5; (case hy8n5 => (intro w hSw; (try dsimp only at hSw); go_simp; (try with_reducible rfl))); (try simp only [Act.put, List.setIfInBounds_toArray, List.set_cons_zero, List.set_cons_succ]))
              refine wpAnyH_done (by kernel_rfl) ?_ _
              refine NoPanic.normal ?_
              go_wp2
              go_meet
              case rel => exact ⟨_, t, rfl, rfl, by rw [hclt]; exact hpb, het, hti3, hn3⟩
            · refine AllReadyH.cons (o := _) (by simp only [List.getElem?_toArray, List.getElem?_cons_succ, List.getElem?_cons_zero]; rfl) (fun K hK => ?_) AllReadyH.nil
              (go_simp; (skip); refine hK.out _ _ (by exact HSk.out _ (n1.alloc n1.size _)) (fun hHeld => ?_); clear hK K; (try simp only [Act.put, List.setIfInBounds_toArray, List.set_cons_zero, List.set_cons_succ]))
              obtain ⟨W5a, hW5a⟩ : ∃ W5a, g1.alloc (.cells #[.int .i64 0, .int .u64 0, .int .u64 0, .int .u64 0, .int .u64 0, .slice none 0 0, .int .i64 0, .int .i64 0, .string ⟨#[]⟩] 37) = W5a := ⟨_, rfl⟩
              have b5 : Below g1.heap.size g1 W5a := by rw [← hW5a]; exact (Below.refl _ _).alloc (Nat.le_refl _) _
              have s5 : W5a.heap[g1.heap.size]? = some (.cells #[.int .i64 0, .int .u64 0, .int .u64 0, .int .u64 0, .int .u64 0, .slice none 0 0, .int .i64 0, .int .i64 0, .string ⟨#[]⟩] 37 (0, 0)) := by rw [← hW5a]; exact heap_alloc_new g1 _
              have hz5 : W5a.heap.size = g1.heap.size + 1 := by rw [← hW5a]; simp
              have n1a := n1.trans (b5.mono n1.size)
              have bk2a := bk2.below b5
              have hbn := n1.size
              rw [hW5a]
              (refine wpAnyH_ready (rs := [2]) (by kernel_rfl) (by simp) ?_; refine AllReadyH.cons (o := _) (by simp only [List.getElem?_toArray, List.getElem?_cons_succ, List.getElem?_cons_zero]; rfl) (fun K hK => ?_) AllReadyH.nil; go_simp; ((with_reducible refine (HSpn.out _ p2 L2 n1a bk2a).mono ?_); rintro e g2 ⟨t, rfl, ht1, _, hti, htb, hg2⟩; have n2 := n1a.trans (hg2.mono n1a.size)); refine hK.out _ _ (by exact HSk.out _ n2) (fun hHeld => ?_); clear hK K; (try simp only [Act.put, List.setIfInBounds_toArray, List.set_cons_zero, List.set_cons_succ]))
              obtain ⟨t0, t1, t2, t3, ts⟩ := four' hti.len
              obtain ⟨tk, tn, tm, ta, tl, tc, tt, hnvt, hclt⟩ := nv_explicit ts
              rw [hnvt, HE0.out]
              (refine wpAnyH_take (i := 3) (v := ?v3n6) (by simp only [List.getElem?_toArray, List.getElem?_cons_succ, List.getElem?_cons_zero]; rfl) (by kernel_rfl) (by kernel_rfl) (by kernel_rfl) (fun _ _ _ h => False.elim h) (Or.inl ⟨by rfl, ?hy3n6⟩) (by assumption) ?rest3n6; (case hy3n6 => (intro w hSw; (try dsimp only at hSw); go_simp; (try with_reducible rfl))); (try simp only [Act.put, List.setIfInBounds_toArray, List.set_cons_zero, List.set_cons_succ]))
              (refine wpAnyH_take (i := 4) (v := ?v4n7) (by simp only [List.getElem?_toArray, List.getElem?_cons_succ, List.getElem?_cons_zero]; rfl) (by kernel_rfl) (by kernel_rfl) (by kernel_rfl) (fun _ _ _ h => False.elim h) (Or.inl ⟨by rfl, ?hy4n7⟩) (by assumption) ?rest4n7; (case hy4n7 => (intro w hSw; (try dsimp only at hSw); go_simp; (try with_reducible rfl))); (try simp only [Act.put, List.setIfInBounds_toArray, List.set_cons_zero, List.set_cons_succ]))
              (refine wpAnyH_take (i := 5) (v := ?v5n8) (by simp only [List.getElem?_toArray, List.getElem?_cons_succ, List.getElem?_cons_zero]; rfl) (by kernel_rfl) (by kernel_rfl) (by kernel_rfl) (fun _ _ _ h => False.elim h) (Or.inl ⟨by rfl, ?hy5n8⟩) (by assumption) ?rest5n8; (case hy5n8 => (intro w hSw; (try dsimp only at hSw); go_simp; (try with_reducible rfl))); (try simp only [Act.put, List.setIfInBounds_toArray, List.set_cons_zero, List.set_cons_succ]))
              have l0 := (hg2.block _ (block_lt s5)).trans s5
              obtain ⟨d0, d1, d2, d3, d4, d5, d6, d7, d8⟩ := nd_cells l0
              obtain ⟨f0, f1, f2, f3, f4, f5, f6, f7, f8⟩ := frz9 l0
              have hpb := put9_block l0 (.int .i64 tk) (.int .u64 (t0 : Int)) (.int .u64 (t1 : Int)) (.int .u64 (t2 : Int)) (.int .u64 (t3 : Int)) (.slice ta tl tc) (.int .i64 tn) (.int .i64 tm) (.string (Str tt))
              have hpm := put9_mod g2 g1.heap.size (.int .i64 tk) (.int .u64 (t0 : Int)) (.int .u64 (t1 : Int)) (.int .u64 (t2 : Int)) (.int .u64 (t3 : Int)) (.slice ta tl tc) (.int .i64 tn) (.int .i64 tm) (.string (Str tt))
              have het := HE3.out t ht1
              have hn3 := n2.trans (hpm.toBelow n2.size (by intro k hk; simp at hk; subst hk; exact hbn))
              have hti3 : Is (put9 g2 g1.heap.size (.int .i64 tk) (.int .u64 (t0 : Int)) (.int .u64 (t1 : Int)) (.int .u64 (t2 : Int)) (.int .u64 (t3 : Int)) (.slice ta tl tc) (.int .i64 tn) (.int .i64 tm) (.string (Str tt))).heap.size (put9 g2 g1.heap.size (.int .i64 tk) (.int .u64 (t0 : Int)) (.int .u64 (t1 : Int)) (.int .u64 (t2 : Int)) (.int .u64 (t3 : Int)) (.slice ta tl tc) (.int .i64 tn) (.int .i64 tm) (.string (Str tt))) t := is_mod hti htb hpm (fun b hb => .inl fun hq => by simp at hb; omega)
              (refine wpAnyH_ready (rs := [7]) (by kernel_rfl) (by simp) ?_; refine AllReadyH.cons (o := _) (by simp only [List.getElem?_toArray, List.getElem?_cons_succ, List.getElem?_cons_zero]; rfl) (fun K hK => ?_) AllReadyH.nil; go_simp; (skip); refine hK.out _ _ (by exact HSk.out _ hn3) (fun hHeld => ?_); clear hK K; (try simp only [Act.put, List.setIfInBounds_toArray, List.set_cons_zero, List.set_cons_succ]))
              (refine wpAnyH_take (i := 8) (v := ?v8n9) (by simp only [List.getElem?_toArray, List.getElem?_cons_succ, List.getElem?_cons_zero]; rfl) (by kernel_rfl) (by kernel_rfl) (by kernel_rfl) (fun _ _ _ h => False.elim h) (Or.inl ⟨by rfl, ?hy8n9⟩) (by assumption) ?rest8n9; (case hy8n9 => (intro w hSw; (try dsimp only at hSw); go_simp; (try with_reducible rfl))); (try simp only [Act.put, List.setIfInBounds_toArray, List.set_cons_zero, List.set_cons_succ]))
              refine wpAnyH_done (by kernel_rfl) ?_ _
              refine NoPanic.normal ?_
              go_wp2
              go_meet
              case rel => exact ⟨_, t, rfl, rfl, by rw [hclt]; exact hpb, het, hti3, hn3⟩
          · refine AllReadyH.cons (o := _) (by simp only [List.getElem?_toArray, List.getElem?_cons_succ, List.getElem?_cons_zero]; rfl) (fun K hK => ?_) AllReadyH.nil
            (go_simp; (skip); refine hK.out _ _ (by exact HSk.out _ (((Below.refl _ _).alloc (Nat.le_refl _) _).drew)) (fun hHeld => ?_); clear hK K; (try simp only [Act.put, List.setIfInBounds_toArray, List.set_cons_zero, List.set_cons_succ]))
            obtain ⟨W5a, hW5a⟩ : ∃ W5a, (W9.alloc (.cells #[.int .i64 0, .int .u64 0, .int .u64 0, .int .u64 0, .int .u64 0, .slice none 0 0, .int .i64 0, .int .i64 0, .string ⟨#[]⟩] 37)).drew = W5a := ⟨_, rfl⟩
            have b5 : Below W9.heap.size W9 W5a := by rw [← hW5a]; exact ((Below.refl _ _).alloc (Nat.le_refl _) _).drew
            have s50 : W5a.heap[W9.heap.size]? = some (.cells #[.int .i64 0, .int .u64 0, .int .u64 0, .int .u64 0, .int .u64 0, .slice none 0 0, .int .i64 0, .int .i64 0, .string ⟨#[]⟩] 37 (0, 0)) := by rw [← hW5a]; exact drew_at (heap_alloc_new W9 _)
            have hz5 : W5a.heap.size = W9.heap.size + 1 := by rw [← hW5a]; simp
            rw [hW5a]
            (refine wpAnyH_ready (rs := [0]) (by kernel_rfl) (by simp) ?_; refine AllReadyH.cons (o := _) (by simp only [List.getElem?_toArray, List.getElem?_cons_succ, List.getElem?_cons_zero]; rfl) (fun K hK => ?_) AllReadyH.nil; go_simp; ((with_reducible refine (HNew.out _).mono ?_); rintro e g1 ⟨p2, L2, rfl, bk2, _, hg1⟩; have n1a := b5.trans (hg1.mono b5.size)); refine hK.out _ _ (by exact HSk.out _ n1a) (fun hHeld => ?_); clear hK K; (try simp only [Act.put, List.setIfInBounds_toArray, List.set_cons_zero, List.set_cons_succ]))
            have s5 := (hg1.block _ (block_lt s50)).trans s50
            have hz6 := hg1.size
            (refine wpAnyH_ready (rs := [2]) (by kernel_rfl) (by simp) ?_; refine AllReadyH.cons (o := _) (by simp only [List.getElem?_toArray, List.getElem?_cons_succ, List.getElem?_cons_zero]; rfl) (fun K hK => ?_) AllReadyH.nil; go_simp; ((with_reducible refine (HSpn.out _ p2 L2 n1a bk2).mono ?_); rintro e g2 ⟨t, rfl, ht1, _, hti, htb, hg2⟩; have n2 := n1a.trans (hg2.mono n1a.size)); refine hK.out _ _ (by exact HSk.out _ n2) (fun hHeld => ?_); clear hK K; (try simp only [Act.put, List.setIfInBounds_toArray, List.set_cons_zero, List.set_cons_succ]))
            have hbn := Nat.le_refl W9.heap.size
            obtain ⟨t0, t1, t2, t3, ts⟩ := four' hti.len
            obtain ⟨tk, tn, tm, ta, tl, tc, tt, hnvt, hclt⟩ := nv_explicit ts
            rw [hnvt, HE0.out]
            (refine wpAnyH_take (i := 3) (v := ?v3n10) (by simp only [List.getElem?_toArray, List.getElem?_cons_succ, List.getElem?_cons_zero]; rfl) (by kernel_rfl) (by kernel_rfl) (by kernel_rfl) (fun _ _ _ h => False.elim h) (Or.inl ⟨by rfl, ?hy3n10⟩) (by assumption) ?rest3n10; (case hy3n10 => (intro w hSw; (try dsimp only at hSw); go_simp; (try with_reducible rfl))); (try simp only [Act.put, List.setIfInBounds_toArray, List.set_cons_zero, List.set_cons_succ]))
            (refine wpAnyH_take (i := 4) (v := ?v4n11) (by simp only [List.getElem?_toArray, List.getElem?_cons_succ, List.getElem?_cons_zero]; rfl) (by kernel_rfl) (by kernel_rfl) (by kernel_rfl) (fun _ _ _ h => False.elim h) (Or.inl ⟨by rfl, ?hy4n11⟩) (by assumption) ?rest4n11; (case hy4n11 => (intro w hSw; (try dsimp only at hSw); go_simp; (try with_reducible rfl))); (try simp only [Act.put, List.setIfInBounds_toArray, List.set_cons_zero, List.set_cons_succ]))
            (refine wpAnyH_take (i := 5) (v := ?v5n12) (by simp only [List.getElem?_toArray, List.getElem?_cons_succ, List.getElem?_cons_zero]; rfl) (by kernel_rfl) (by kernel_rfl) (by kernel_rfl) (fun _ _ _ h => False.elim h) (Or.inl ⟨by rfl, ?hy5n12⟩) (by assumption) ?rest5n12; (case hy5n12 => (intro w hSw; (try dsimp only at hSw); go_simp; (try with_reducible rfl))); (try simp only [Act.put, List.setIfInBounds_toArray, List.set_cons_zero, List.set_cons_succ]))
            have l0 := (hg2.block _ (block_lt s5)).trans s5
            obtain ⟨d0, d1, d2, d3, d4, d5, d6, d7, d8⟩ := nd_cells l0
            obtain ⟨f0, f1, f2, f3, f4, f5, f6, f7, f8⟩ := frz9 l0
            have hpb := put9_block l0 (.int .i64 tk) (.int .u64 (t0 : Int)) (.int .u64 (t1 : Int)) (.int .u64 (t2 : Int)) (.int .u64 (t3 : Int)) (.slice ta tl tc) (.int .i64 tn) (.int .i64 tm) (.string (Str tt))
            have hpm := put9_mod g2 W9.heap.size (.int .i64 tk) (.int .u64 (t0 : Int)) (.int .u64 (t1 : Int)) (.int .u64 (t2 : Int)) (.int .u64 (t3 : Int)) (.slice ta tl tc) (.int .i64 tn) (.int .i64 tm) (.string (Str tt))
            have het := HE3.out t ht1
            have hn3 := n2.trans (hpm.toBelow n2.size (by intro k hk; simp at hk; subst hk; exact hbn))
            have hti3 : Is (put9 g2 W9.heap.size (.int .i64 tk) (.int .u64 (t0 : Int)) (.int .u64 (t1 : Int)) (.int .u64 (t2 : Int)) (.int .u64 (t3 : Int)) (.slice ta tl tc) (.int .i64 tn) (.int .i64 tm) (.string (Str tt))).heap.size (put9 g2 W9.heap.size (.int .i64 tk) (.int .u64 (t0 : Int)) (.int .u64 (t1 : Int)) (.int .u64 (t2 : Int)) (.int .u64 (t3 : Int)) (.slice ta tl tc) (.int .i64 tn) (.int .i64 tm) (.string (Str tt))) t := is_mod hti htb hpm (fun b hb => .inl fun hq => by simp at hb; omega)
            (refine wpAnyH_ready (rs := [7]) (by kernel_rfl) (by simp) ?_; refine AllReadyH.cons (o := _) (by simp only [List.getElem?_toArray, List.getElem?_cons_succ, List.getElem?_cons_zero]; rfl) (fun K hK => ?_) AllReadyH.nil; go_simp; (skip); refine hK.out _ _ (by exact HSk.out _ hn3) (fun hHeld => ?_); clear hK K; (try simp only [Act.put, List.setIfInBounds_toArray, List.set_cons_zero, List.set_cons_succ]))
            (refine wpAnyH_take (i := 8) (v := ?v8n13) (by simp only [List.getElem?_toArray, List.getElem?_cons_succ, List.getElem?_cons_zero]; rfl) (by kernel_rfl) (by kernel_rfl) (by kernel_rfl) (fun _ _ _ h => False.elim h) (Or.inl ⟨by rfl, ?hy8n13⟩) (by assumption) ?rest8n13; (case hy8n13 => (intro w hSw; (try dsimp only at hSw); go_simp; (try with_reducible rfl))); (try simp only [Act.put, List.setIfInBounds_toArray, List.set_cons_zero, List.set_cons_succ]))
            refine wpAnyH_done (by kernel_rfl) ?_ _
            refine NoPanic.normal ?_
            go_wp2
            go_meet
            case rel => exact ⟨_, t, rfl, rfl, by rw [hclt]; exact hpb, het, hti3, hn3⟩
        case rest =>
          obtain ⟨bz, t, rfl, rfl, hbz, het, hti, hbc⟩ := hcut
          obtain ⟨hb79, hez, hzi9, hnvz⟩ := H9.out
          obtain ⟨hry, _, _, _, _, hyx, hrx, hnv, hnvy⟩ := HP.out
          obtain ⟨hIx, hxt⟩ := HIx.out
          obtain ⟨hIy, hyt⟩ := HIy.out
          have hrz : rgt z = true := by rw [same_rgt hez]; exact hry
          have hrt : rgt t = true := by rw [same_rgt het]; exact hry
          have hyz : sm y z = true := (sm_iff _ _).2 hez.symm
          have hyt2 : sm y t = true := (sm_iff _ _).2 het.symm
          obtain ⟨t0, t1, t2, t3, ts⟩ := four' hti.len
          obtain ⟨tk, tn, tm, ta, tl, tc, tt, hnvt, hclt⟩ := nv_explicit ts
          rw [hclt] at hbz
          have hbz2 : wc.heap[bz]? = some (.cells #[.int .i64 tk, .int .u64 (t0 : Int), .int .u64 (t1 : Int), .int .u64 (t2 : Int), .int .u64 (t3 : Int), .slice ta tl tc, .int .i64 tn, .int .i64 tm, .string (Str tt)] 37 (0, 0)) := hbz
          have hb7c := hb79.trans (hbc.mono hb79.size)
          have hco : ∀ V : World, Below wc.heap.size wc V → ((V.cell? ⟨w8.heap.size, 0, none⟩ = some (.int .i64 zk) ∧ V.cell? ⟨w8.heap.size, 1, none⟩ = some (.int .u64 (z0 : Int)) ∧ V.cell? ⟨w8.heap.size, 2, none⟩ = some (.int .u64 (z1 : Int)) ∧ V.cell? ⟨w8.heap.size, 3, none⟩ = some (.int .u64 (z2 : Int)) ∧ V.cell? ⟨w8.heap.size, 4, none⟩ = some (.int .u64 (z3 : Int)) ∧ V.cell? ⟨w8.heap.size, 5, none⟩ = some (.slice za zl zc) ∧ V.cell? ⟨w8.heap.size, 6, none⟩ = some (.int .i64 zn) ∧ V.cell? ⟨w8.heap.size, 7, none⟩ = some (.int .i64 zm) ∧ V.cell? ⟨w8.heap.size, 8, none⟩ = some (.string (Str zt))) ∧ (V.cell? ⟨w6.heap.size, 0, none⟩ = some (.int .i64 yk) ∧ V.cell? ⟨w6.heap.size, 1, none⟩ = some (.int .u64 (y0 : Int)) ∧ V.cell? ⟨w6.heap.size, 2, none⟩ = some (.int .u64 (y1 : Int)) ∧ V.cell? ⟨w6.heap.size, 3, none⟩ = some (.int .u64 (y2 : Int)) ∧ V.cell? ⟨w6.heap.size, 4, none⟩ = some (.int .u64 (y3 : Int)) ∧ V.cell? ⟨w6.heap.size, 5, none⟩ = some (.slice ya yl yc) ∧ V.cell? ⟨w6.heap.size, 6, none⟩ = some (.int .i64 yn) ∧ V.cell? ⟨w6.heap.size, 7, none⟩ = some (.int .i64 ym) ∧ V.cell? ⟨w6.heap.size, 8, none⟩ = some (.string (Str yt))) ∧ (V.cell? ⟨w.heap.size, 0, none⟩ = some (.int .i64 xk) ∧ V.cell? ⟨w.heap.size, 1, none⟩ = some (.int .u64 (x0 : Int)) ∧ V.cell? ⟨w.heap.size, 2, none⟩ = some (.int .u64 (x1 : Int)) ∧ V.cell? ⟨w.heap.size, 3, none⟩ = some (.int .u64 (x2 : Int)) ∧ V.cell? ⟨w.heap.size, 4, none⟩ = some (.int .u64 (x3 : Int)) ∧ V.cell? ⟨w.heap.size, 5, none⟩ = some (.slice xa xl xc) ∧ V.cell? ⟨w.heap.size, 6, none⟩ = some (.int .i64 xn) ∧ V.cell? ⟨w.heap.size, 7, none⟩ = some (.int .i64 xm) ∧ V.cell? ⟨w.heap.size, 8, none⟩ = some (.string (Str xt)))) ∧ (V.cell? ⟨bz, 0, none⟩ = some (.int .i64 tk) ∧ V.cell? ⟨bz, 1, none⟩ = some (.int .u64 (t0 : Int)) ∧ V.cell? ⟨bz, 2, none⟩ = some (.int .u64 (t1 : Int)) ∧ V.cell? ⟨bz, 3, none⟩ = some (.int .u64 (t2 : Int)) ∧ V.cell? ⟨bz, 4, none⟩ = some (.int .u64 (t3 : Int)) ∧ V.cell? ⟨bz, 5, none⟩ = some (.slice ta tl tc) ∧ V.cell? ⟨bz, 6, none⟩ = some (.int .i64 tn) ∧ V.cell? ⟨bz, 7, none⟩ = some (.int .i64 tm) ∧ V.cell? ⟨bz, 8, none⟩ = some (.string (Str tt))) := fun V hb => ⟨HBoz.out V (hbc.trans (hb.mono hbc.size)), nd_cells ((hb.block _ (block_lt hbz2)).trans hbz2)⟩
          have hS1 := fun (V : World) (hb : Below wc.heap.size wc V) => Same_c y z hyt (rgt_texts hrz) V (hIy V (hb7c.trans (hb.mono hb7c.size))) (Is.mono (Nat.le_trans hbc.size hb.size) (Is.below (hbc.trans (hb.mono hbc.size)) hzi9))
          have hS2 := fun (V : World) (hb : Below wc.heap.size wc V) => Same_c y t hyt (rgt_texts hrt) V (hIy V (hb7c.trans (hb.mono hb7c.size))) (Is.mono hb.size (Is.below hb hti))
          have hS3 := fun (V : World) (hb : Below wc.heap.size wc V) => Same_c y x hyt hxt V (hIy V (hb7c.trans (hb.mono hb7c.size))) (hIx V (hb7c.trans (hb.mono hb7c.size)))
          have hNm := fun (V : World) (hb : Below wc.heap.size wc V) => names_c0 x (walk_len (hIx V (hb7c.trans (hb.mono hb7c.size)))) V (hIx V (hb7c.trans (hb.mono hb7c.size)))
          rw [hry, hrz, hyz, hnvy, hnvz] at hS1
          rw [hry, hrt, hyt2, hnvy, hnvt] at hS2
          rw [hry, hrx, hnvy, hnv] at hS3
          rw [hnv] at hNm
          have hcase : 0 < (names (walk x)).length ∨ ((names (walk x)).length = 0 ∧ sm y x = true) := by
            by_cases hz : (names (walk x)).length = 0
            · exact .inr ⟨hz, (sm_iff _ _).2 (hyx (List.eq_nil_of_length_eq_zero hz))⟩
            · exact .inl (by omega)
          obtain ⟨N, hN⟩ : ∃ N, (names (walk x)).length = N := ⟨_, rfl⟩
          rw [hN] at hNm hcase
          have HS1 := Lib.hid hS1
          have HS2 := Lib.hid hS2
          have HS3 := Lib.hid hS3
          have HNm := Lib.hid hNm
          have HCo := Lib.hid hco
          have HBc := Lib.hid (HB7.out.trans (hb7c.mono HB7.out.size))
          obtain ⟨⟨⟨a0, a1, a2, a3, a4, a5, a6, a7, a8⟩, ⟨b0, b1, b2, b3, b4, b5, b6, b7, b8⟩, c0, c1, c2, c3, c4, c5, c6, c7, c8⟩, d0, d1, d2, d3, d4, d5, d6, d7, d8⟩ := hco wc (Below.refl _ _)
          clear hS1 hS2 hS3 hNm hco hbz hbz2 hb7c het hti hbc hb79 hez hzi9 hnvz hry hyx hrx hnv hnvy hIx hxt hIy hyt hrz hrt hyz hyt2 hnvt hclt ts hN
          go_wp2_with fail
          with_reducible refine (HS1.out wc (Below.refl _ _)).mono ?_
          rintro e x1 ⟨rfl, g1⟩
          clear a0 a1 a2 a3 a4 a5 a6 a7 a8 b0 b1 b2 b3 b4 b5 b6 b7 b8 c0 c1 c2 c3 c4 c5 c6 c7 c8 d0 d1 d2 d3 d4 d5 d6 d7 d8
          obtain ⟨⟨_, ⟨b0, b1, b2, b3, b4, b5, b6, b7, b8⟩, _⟩, d0, d1, d2, d3, d4, d5, d6, d7, d8⟩ := HCo.out x1 g1
          go_wp2_with fail
          with_reducible refine (HS2.out x1 g1).mono ?_
          rintro e x2 ⟨rfl, g2⟩
          clear b0 b1 b2 b3 b4 b5 b6 b7 b8 d0 d1 d2 d3 d4 d5 d6 d7 d8
          have g12 := g1.trans (g2.mono g1.size)
          obtain ⟨⟨_, _, c0, c1, c2, c3, c4, c5, c6, c7, c8⟩, _⟩ := HCo.out x2 g12
          go_wp2_with fail
          with_reducible refine (HNm.out x2 g12).mono ?_
          rintro e x3 ⟨v, rfl, own3, g3⟩
          clear c0 c1 c2 c3 c4 c5 c6 c7 c8
          obtain ⟨va, vc, rfl, _⟩ := rd_own own3
          have g13 := g12.trans (g3.mono g12.size)
          have hB13 := HBc.out.trans (g13.mono HBc.out.size)
          rcases hcase with hN0 | ⟨rfl, hsx⟩
          · have hN0' : (0 : Int) < (N : Int) := by omega
            have HB13 := Lib.hid hB13
            clear own3 g1 g2 g12 g3 g13 hB13
            go_wp2
            go_ret
            exact ⟨rfl, HB13.out⟩
          · have hS33 := HS3.out x3 g13
            rw [hsx] at hS33
            obtain ⟨⟨_, ⟨b0, b1, b2, b3, b4, b5, b6, b7, b8⟩, c0, c1, c2, c3, c4, c5, c6, c7, c8⟩, _⟩ := HCo.out x3 g13
            have HS33 := Lib.hid hS33
            have HB13 := Lib.hid hB13
            clear own3 g1 g2 g12 g3 g13 hB13 hS33
            go_wp2_with fail
            with_reducible refine HS33.out.mono ?_
            rintro e x4 ⟨rfl, g4⟩
            have hfin := HB13.out.trans (g4.mono HB13.out.size)
            go_wp2
            go_ret
            exact ⟨rfl, hfin⟩
end Bo
end Go.Proofs.YteekonojmpihlaaDoor
