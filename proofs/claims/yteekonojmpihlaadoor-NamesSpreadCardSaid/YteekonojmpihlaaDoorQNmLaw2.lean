import Derived.Test.YteekonojmpihlaaDoorQNmLaw3
import Derived.Test.YteekonojmpihlaaDoorQNmRsAll
import Derived.Test.YteekonojmpihlaaDoorQNmRUses
import Derived.Test.YteekonojmpihlaaDoorQNmUses
import Derived.Test.YteekonojmpihlaaDoorQSameT
import Derived.Test.YteekonojmpihlaaDoorQTreeRs
import Derived.Test.YteekonojmpihlaaDoorQNmBooks
import Derived.Test.YteekonojmpihlaaDoorQNmAlive
import Derived.Test.YteekonojmpihlaaDoorQTreeSm
import Derived.Test.YteekonojmpihlaaDoorQTreeCp
import Derived.Test.YteekonojmpihlaaDoorQTreeNms
/- The law NamesSpread's walk. Printed by gen_nmlaw2.py. Condition: the sentinels read as laid. -/
namespace Go.Proofs.YteekonojmpihlaaDoor
namespace Kt
end Kt
namespace St
end St
namespace Sp
end Sp
namespace Bk
end Bk
namespace Tr
end Tr
open Go Go.RowKit Kt St Sp Bk Tr
namespace Bo
/-- The numbers of a spread's errors. -/
theorem spr_code (B : Bks) : ∀ (f : Nat) (path : List (List UInt8)) (lv many : Nat) (n : Nd), path.Nodup → (∀ x ∈ path, x ∈ B.map (·.1)) → lv ≤ 25 → (25 - lv) + (B.length - path.length) < f → 0 ≤ (spr B f path lv many n).1 ∧ (spr B f path lv many n).1 ≤ 18 := by
  intro f
  induction f with
  | zero => intro path lv many n _ _ _ h; exact absurd h (Nat.not_lt_zero _)
  | succ f ih =>
    intro path lv many n hnd hp hv hf
    unfold spr
    by_cases h5 : n.kind = 5
    · rw [if_pos h5]
      cases hl : lkS B n.text with
      | none => exact ⟨by simp, by simp⟩
      | some m =>
        simp only
        by_cases hin : n.text ∈ path
        · rw [if_pos hin]; exact ⟨by simp, by simp⟩
        · rw [if_neg hin]
          obtain ⟨r1, r2, r3⟩ := path_room hnd hp hl hin
          exact ih _ _ _ _ r1 r2 hv (by rw [List.length_append, List.length_cons, List.length_nil]; omega)
    · rw [if_neg h5]
      by_cases hlv : 24 < lv
      · rw [if_pos hlv]; exact ⟨by simp, by simp⟩
      · rw [if_neg hlv]
        by_cases h6 : 600 ≤ many
        · rw [if_pos h6]; exact ⟨by simp, by simp⟩
        · rw [if_neg h6]
          simp only
          generalize many + 1 = q
          generalize n.kids = ks
          induction ks using Bk.snoc_ind with
          | h0 => exact ⟨by simp [sprs], by simp [sprs]⟩
          | h1 l k ih2 =>
            rw [sprs_snoc]
            split
            · exact ih _ _ _ _ hnd hp (by omega) (by omega)
            · exact ih2
set_option maxRecDepth 100000 in
set_option maxHeartbeats 2000000 in
theorem spread_law (E : Nat → Addr) (la : Option Addr) (lc n : Nat) (ds : Bks) (x : Nd) (w : World) (hn : ds.length = n) (hr : Rd w la (ds.flatMap dcells)) (hd : ∀ x ∈ ds, Is w.heap.size w x.2 ∧ tl x.2 ∧ x.1.length ≤ 9223372036854775807) (hse : Sent 204 w E Er.egs) (hn63 : n ≤ 9223372036854775807) (hIs : Is w.heap.size w x) (htl : tl x) :
    Calls Tryd.prog 4 #[.slice la n lc, nv x] w fun e w' => e = .returned (.bool true) ∧ Below w.heap.size w w' := by
  obtain ⟨x0, x1, x2, x3, xs⟩ := four' (hIs).len
  obtain ⟨xk, xn, xm, xa, xl, xc, xt, hnv, _⟩ := nv_explicit xs
  obtain ⟨W1, hW1⟩ : ∃ W1, w.alloc (.cells #[.int .i64 xk, .int .u64 (x0 : Int), .int .u64 (x1 : Int), .int .u64 (x2 : Int), .int .u64 (x3 : Int), .slice xa xl xc, .int .i64 xn, .int .i64 xm, .string (Str xt)] 37 (0, 0)) = W1 := ⟨_, rfl⟩
  have b1 : Below w.heap.size w W1 := by rw [← hW1]; exact (Below.refl _ _).alloc (Nat.le_refl _) _
  have s1 : W1.heap[w.heap.size]? = some (.cells #[.int .i64 xk, .int .u64 (x0 : Int), .int .u64 (x1 : Int), .int .u64 (x2 : Int), .int .u64 (x3 : Int), .slice xa xl xc, .int .i64 xn, .int .i64 xm, .string (Str xt)] 37 (0, 0)) := by rw [← hW1]; exact World.alloc_heap_new _ _
  have hxt := tl_walk htl
  have hal := alive_c E W1 (hse.keep b1)
  have hbo := fun (W : World) (hb : Below w.heap.size w W) => books_c E la lc n ds W hn (hr.keep hb) (fun x hx => ⟨Is.mono hb.size (Is.below hb (hd x hx).1), (hd x hx).2⟩) (hse.keep hb) hn63
  have hbox : ∀ V : World, Below W1.heap.size W1 V → V.cell? ⟨w.heap.size, 0, none⟩ = some (.int .i64 xk) ∧ V.cell? ⟨w.heap.size, 1, none⟩ = some (.int .u64 (x0 : Int)) ∧ V.cell? ⟨w.heap.size, 2, none⟩ = some (.int .u64 (x1 : Int)) ∧ V.cell? ⟨w.heap.size, 3, none⟩ = some (.int .u64 (x2 : Int)) ∧ V.cell? ⟨w.heap.size, 4, none⟩ = some (.int .u64 (x3 : Int)) ∧ V.cell? ⟨w.heap.size, 5, none⟩ = some (.slice xa xl xc) ∧ V.cell? ⟨w.heap.size, 6, none⟩ = some (.int .i64 xn) ∧ V.cell? ⟨w.heap.size, 7, none⟩ = some (.int .i64 xm) ∧ V.cell? ⟨w.heap.size, 8, none⟩ = some (.string (Str xt)) := fun V hb => nd_cells ((hb.block _ (block_lt s1)).trans s1)
  rw [hnv]
  have HAl := Lib.hid hal
  have HBo := Lib.hid hbo
  have HX := Lib.hid (And.intro hIs (And.intro hxt (And.intro hnv hse)))
  have HBox := Lib.hid hbox
  have HB1 := Lib.hid b1
  have HW1 := Lib.hid hW1
  clear hal hbo hn hr hd hse hIs htl hxt hnv hbox b1 s1 hW1 xs
  go_enter Tryd.func4, Tryd.ntmps4
  go_upto_region 1 with (fail)
  rw [HW1.out]
  go_wp2_with fail
  with_reducible refine HAl.out.mono ?_
  rintro e w2 ⟨rfl, hb2⟩
  go_wp2_with fail
  with_reducible refine (HBo.out w2 (HB1.out.trans (hb2.mono HB1.out.size))).mono ?_
  rintro e w3 (⟨rfl, hb3⟩ | ⟨p, q, L, B, rfl, hBR⟩)
  · have hfin := (HB1.out.trans (hb2.mono HB1.out.size)).trans (hb3.mono (by have := HB1.out.size; have := hb2.size; omega))
    have HFin := Lib.hid hfin
    clear hfin hb2 hb3
    go_wp2
    go_ret
    exact ⟨rfl, HFin.out⟩
  · have hb13 : Below W1.heap.size W1 w3 := hb2.trans (hBR.hb.mono hb2.size)
    have hbw3 : Below w.heap.size w w3 := HB1.out.trans (hb13.mono HB1.out.size)
    obtain ⟨hIs, hxt, hnv, hse⟩ := HX.out
    have hsm := small11_c x w3 (Is.mono hbw3.size (Is.below hbw3 hIs))
    rw [hnv] at hsm
    obtain ⟨u0, u1, u2, u3, u4, u5, u6, u7, u8⟩ := HBox.out w3 hb13
    have HSm := Lib.hid hsm
    have H3 := Lib.hid (And.intro hBR (And.intro hb13 hbw3))
    clear hsm hBR hb13 hbw3 hIs hxt hnv hse hb2
    go_wp2_with fail
    with_reducible refine HSm.out.mono ?_
    rintro e w4 ⟨m, rfl, hme, hmi, _, hb4⟩
    obtain ⟨hBR, hb13, hbw3⟩ := H3.out
    obtain ⟨m0, m1, m2, m3, ms⟩ := four' hmi.len
    obtain ⟨mk, mn, mm, ma, ml, mc, mt, hnvm, _⟩ := nv_explicit ms
    obtain ⟨W5, hW5⟩ : ∃ W5, w4.alloc (.cells #[.int .i64 mk, .int .u64 (m0 : Int), .int .u64 (m1 : Int), .int .u64 (m2 : Int), .int .u64 (m3 : Int), .slice ma ml mc, .int .i64 mn, .int .i64 mm, .string (Str mt)] 44) = W5 := ⟨_, rfl⟩
    have b5 : Below w4.heap.size w4 W5 := by rw [← hW5]; exact (Below.refl _ _).alloc (Nat.le_refl _) _
    have hb35 := hb4.trans (b5.mono hb4.size)
    have hb15 := hb13.trans (hb35.mono hb13.size)
    have hbw5 := hbw3.trans (hb35.mono hbw3.size)
    have hBR5 := hBR.below hb35
    rw [hnvm]
    have HW5 := Lib.hid hW5
    by_cases h7 : sz x < 700
    rotate_left 1
    · rw [decide_eq_false h7]
      have HFin := Lib.hid hbw5
      clear hme hW5 b5 hb35 hb15 hbw5 hBR5 hBR hb13 hbw3 hmi ms hnvm hb4 u0 u1 u2 u3 u4 u5 u6 u7 u8
      go_upto_region 7 with (fail)
      rw [HW5.out]
      go_wp2
      go_ret
      exact ⟨rfl, HFin.out⟩
    · rw [decide_eq_true h7]
      obtain ⟨hIs, hxt, hnv, hse⟩ := HX.out
      have hmx : er m = er x := hme h7
      have hmi5 : Is W5.heap.size W5 m := Is.mono b5.size (Is.below b5 hmi)
      have sm5 : W5.heap[w4.heap.size]? = some (.cells #[.int .i64 mk, .int .u64 (m0 : Int), .int .u64 (m1 : Int), .int .u64 (m2 : Int), .int .u64 (m3 : Int), .slice ma ml mc, .int .i64 mn, .int .i64 mm, .string (Str mt)] 44 (0, 0)) := by rw [← hW5]; exact heap_alloc_new w4 _
      have HMx := Lib.hid (And.intro hmx (And.intro hmi5 (And.intro sm5 hnvm)))
      have hsp := Spread_c E p L [q] B x hxt W5 (Is.mono hbw5.size (Is.below hbw5 hIs)) hBR5.bk (hse.keep hbw5)
      rw [hnv] at hsp
      have HSp := Lib.hid hsp
      have H5 := Lib.hid (And.intro hBR5 (And.intro hb15 hbw5))
      clear hsp hmx hmi5 sm5 hW5 b5 hb35 hBR hb13 hbw3 hmi ms hnvm hb4 hIs hxt hnv hse hBR5 hbw5 u0 u1 u2 u3 u4 u5 u6 u7 u8
      go_upto_region 7 with (fail)
      rw [HW5.out]
      obtain ⟨u0, u1, u2, u3, u4, u5, u6, u7, u8⟩ := HBox.out W5 hb15
      clear hb15
      go_wp2_with fail
      with_reducible refine HSp.out.mono ?_
      rintro e w6 ⟨y, rfl, hy1, hy2, hyi, _, hb6⟩
      clear u0 u1 u2 u3 u4 u5 u6 u7 u8
      obtain ⟨hBR5, hb15, hbw5⟩ := H5.out
      obtain ⟨y0, y1, y2, y3, ys⟩ := four' hyi.len
      obtain ⟨yk, yn, ym, ya, yl, yc, yt, hnvy, _⟩ := nv_explicit ys
      obtain ⟨W7, hW7⟩ : ∃ W7, w6.alloc (.cells #[.int .i64 yk, .int .u64 (y0 : Int), .int .u64 (y1 : Int), .int .u64 (y2 : Int), .int .u64 (y3 : Int), .slice ya yl yc, .int .i64 yn, .int .i64 ym, .string (Str yt)] 37) = W7 := ⟨_, rfl⟩
      have b7 : Below w6.heap.size w6 W7 := by rw [← hW7]; exact (Below.refl _ _).alloc (Nat.le_refl _) _
      have s7 : W7.heap[w6.heap.size]? = some (.cells #[.int .i64 yk, .int .u64 (y0 : Int), .int .u64 (y1 : Int), .int .u64 (y2 : Int), .int .u64 (y3 : Int), .slice ya yl yc, .int .i64 yn, .int .i64 ym, .string (Str yt)] 37 (0, 0)) := by rw [← hW7]; exact heap_alloc_new w6 _
      have hb57 := hb6.trans (b7.mono hb6.size)
      have hb17 := hb15.trans (hb57.mono hb15.size)
      have hbw7 := hbw5.trans (hb57.mono hbw5.size)
      have hBR7 := hBR5.below hb57
      have hyi7 : Is W7.heap.size W7 y := Is.mono b7.size (Is.below b7 hyi)
      have hboy : ∀ V : World, Below W7.heap.size W7 V → (V.cell? ⟨w6.heap.size, 0, none⟩ = some (.int .i64 yk) ∧ V.cell? ⟨w6.heap.size, 1, none⟩ = some (.int .u64 (y0 : Int)) ∧ V.cell? ⟨w6.heap.size, 2, none⟩ = some (.int .u64 (y1 : Int)) ∧ V.cell? ⟨w6.heap.size, 3, none⟩ = some (.int .u64 (y2 : Int)) ∧ V.cell? ⟨w6.heap.size, 4, none⟩ = some (.int .u64 (y3 : Int)) ∧ V.cell? ⟨w6.heap.size, 5, none⟩ = some (.slice ya yl yc) ∧ V.cell? ⟨w6.heap.size, 6, none⟩ = some (.int .i64 yn) ∧ V.cell? ⟨w6.heap.size, 7, none⟩ = some (.int .i64 ym) ∧ V.cell? ⟨w6.heap.size, 8, none⟩ = some (.string (Str yt))) ∧ (V.cell? ⟨w.heap.size, 0, none⟩ = some (.int .i64 xk) ∧ V.cell? ⟨w.heap.size, 1, none⟩ = some (.int .u64 (x0 : Int)) ∧ V.cell? ⟨w.heap.size, 2, none⟩ = some (.int .u64 (x1 : Int)) ∧ V.cell? ⟨w.heap.size, 3, none⟩ = some (.int .u64 (x2 : Int)) ∧ V.cell? ⟨w.heap.size, 4, none⟩ = some (.int .u64 (x3 : Int)) ∧ V.cell? ⟨w.heap.size, 5, none⟩ = some (.slice xa xl xc) ∧ V.cell? ⟨w.heap.size, 6, none⟩ = some (.int .i64 xn) ∧ V.cell? ⟨w.heap.size, 7, none⟩ = some (.int .i64 xm) ∧ V.cell? ⟨w.heap.size, 8, none⟩ = some (.string (Str xt))) := fun V hb => ⟨nd_cells ((hb.block _ (block_lt s7)).trans s7), HBox.out V (hb17.trans (hb.mono hb17.size))⟩
      have HBoy := Lib.hid hboy
      have HW7 := Lib.hid hW7
      rw [hnvy]
      obtain ⟨hIs, hxt, hnv, hse⟩ := HX.out
      obtain ⟨hmx, hmi5, sm5, hnvm⟩ := HMx.out
      have hIx := fun (V : World) (hb : Below W7.heap.size W7 V) => (Is.mono (Nat.le_trans hbw7.size hb.size) (Is.below (hbw7.trans (hb.mono hbw7.size)) hIs) : Is V.heap.size V x)
      have hIm := fun (V : World) (hb : Below W7.heap.size W7 V) => (Is.mono (Nat.le_trans hb57.size hb.size) (Is.below (hb57.trans (hb.mono hb57.size)) hmi5) : Is V.heap.size V m)
      have hIy := fun (V : World) (hb : Below W7.heap.size W7 V) => (Is.mono hb.size (Is.below hb hyi7) : Is V.heap.size V y)
      have hbox3 : ∀ V : World, Below W7.heap.size W7 V → ((V.cell? ⟨w6.heap.size, 0, none⟩ = some (.int .i64 yk) ∧ V.cell? ⟨w6.heap.size, 1, none⟩ = some (.int .u64 (y0 : Int)) ∧ V.cell? ⟨w6.heap.size, 2, none⟩ = some (.int .u64 (y1 : Int)) ∧ V.cell? ⟨w6.heap.size, 3, none⟩ = some (.int .u64 (y2 : Int)) ∧ V.cell? ⟨w6.heap.size, 4, none⟩ = some (.int .u64 (y3 : Int)) ∧ V.cell? ⟨w6.heap.size, 5, none⟩ = some (.slice ya yl yc) ∧ V.cell? ⟨w6.heap.size, 6, none⟩ = some (.int .i64 yn) ∧ V.cell? ⟨w6.heap.size, 7, none⟩ = some (.int .i64 ym) ∧ V.cell? ⟨w6.heap.size, 8, none⟩ = some (.string (Str yt))) ∧ (V.cell? ⟨w.heap.size, 0, none⟩ = some (.int .i64 xk) ∧ V.cell? ⟨w.heap.size, 1, none⟩ = some (.int .u64 (x0 : Int)) ∧ V.cell? ⟨w.heap.size, 2, none⟩ = some (.int .u64 (x1 : Int)) ∧ V.cell? ⟨w.heap.size, 3, none⟩ = some (.int .u64 (x2 : Int)) ∧ V.cell? ⟨w.heap.size, 4, none⟩ = some (.int .u64 (x3 : Int)) ∧ V.cell? ⟨w.heap.size, 5, none⟩ = some (.slice xa xl xc) ∧ V.cell? ⟨w.heap.size, 6, none⟩ = some (.int .i64 xn) ∧ V.cell? ⟨w.heap.size, 7, none⟩ = some (.int .i64 xm) ∧ V.cell? ⟨w.heap.size, 8, none⟩ = some (.string (Str xt)))) ∧ (V.cell? ⟨w4.heap.size, 0, none⟩ = some (.int .i64 mk) ∧ V.cell? ⟨w4.heap.size, 1, none⟩ = some (.int .u64 (m0 : Int)) ∧ V.cell? ⟨w4.heap.size, 2, none⟩ = some (.int .u64 (m1 : Int)) ∧ V.cell? ⟨w4.heap.size, 3, none⟩ = some (.int .u64 (m2 : Int)) ∧ V.cell? ⟨w4.heap.size, 4, none⟩ = some (.int .u64 (m3 : Int)) ∧ V.cell? ⟨w4.heap.size, 5, none⟩ = some (.slice ma ml mc) ∧ V.cell? ⟨w4.heap.size, 6, none⟩ = some (.int .i64 mn) ∧ V.cell? ⟨w4.heap.size, 7, none⟩ = some (.int .i64 mm) ∧ V.cell? ⟨w4.heap.size, 8, none⟩ = some (.string (Str mt))) := fun V hb => ⟨hboy V hb, nd_cells (((hb57.trans (hb.mono hb57.size)).block _ (block_lt sm5)).trans sm5)⟩
      have hmt : ∀ z ∈ walk m, z.1.text.length ≤ 9223372036854775807 := text_walk hmx _ hxt
      have hus := fun (V : World) (hb : Below W7.heap.size W7 V) => uses_c p L [q] B x hxt V (hIx V hb) (hBR7.below hb).bk
      have hrr := fun (V : World) (hb : Below W7.heap.size W7 V) => rright_c m hmt V (hIm V hb)
      have hru := fun (V : World) (hb : Below W7.heap.size W7 V) => ruses_c q L B m V (hIm V hb) (hBR7.below hb).rk
      have hrs := fun (V : World) (hb : Below W7.heap.size W7 V) (hg : rgt m = true) => rspread_c V q L B (hBR7.below hb).rk m (hIm V hb) hg
      have hgm : rgt m = rgt x := same_rgt hmx
      have hnum := fun (V : World) (hb : Below W7.heap.size W7 V) (v : Int) (h1 : 0 ≤ v) (h2 : v ≤ 18) => num_ee E v h1 h2 V (hse.keep (hbw7.trans (hb.mono hbw7.size)))
      rw [hnv] at hus
      rw [hnvm] at hrr hru hrs
      rw [hmx] at hrs
      have HUs := Lib.hid hus
      have HRr := Lib.hid hrr
      have HRu := Lib.hid hru
      have HRs := Lib.hid hrs
      have HNum := Lib.hid hnum
      have HBx := Lib.hid hbox3
      have HI := Lib.hid (And.intro hIx (And.intro hIm (And.intro hIy (And.intro hxt (And.intro hmt (And.intro hnvm (And.intro hnvy (And.intro hmx hgm))))))))
      have HY := Lib.hid (And.intro hy1 hy2)
      have HB7 := Lib.hid (And.intro hbw7 hBR7)
      obtain ⟨⟨⟨o0, o1, o2, o3, o4, o5, o6, o7, o8⟩, u0, u1, u2, u3, u4, u5, u6, u7, u8⟩, _⟩ := hbox3 W7 (Below.refl _ _)
      clear hus hrr hru hrs hnum hbox3 hIx hIm hIy hmt hmx hgm hmi5 sm5 hnvm hboy hW7 b7 s7 hb57 hb17 hbw7 hBR7 hyi7 hyi ys hnvy hb6 hBR5 hb15 hbw5 hy1 hy2 hIs hxt hnv hse o0 o1 o2 o3 o4 o5 o6 o7 o8
      obtain ⟨ev, hev⟩ : ∃ ev, ee E (shE B x) = ev := ⟨_, rfl⟩
      rw [hev]
      have HEv := Lib.hid hev
      clear hev
      go_upto_region 10 with (fail)
      rw [HW7.out]
      go_wp2_with fail
      with_reducible refine (HUs.out W7 (Below.refl _ _)).mono ?_
      rintro e w8 hup
      clear u0 u1 u2 u3 u4 u5 u6 u7 u8
      have hb8 : Below W7.heap.size W7 w8 := by
        rcases hup with ⟨_, _, h⟩ | ⟨_, _, _, _, _, _, _, h⟩
        · exact h
        · exact h
      obtain ⟨hIx, hIm, hIy, hxt, hmt, hnvm, hnvy, hmx, hgm⟩ := HI.out
      have hrr8 := HRr.out w8 hb8
      rw [hgm] at hrr8
      rcases hup with ⟨hg, rfl, _⟩ | ⟨hg, ua, uc, UN, rfl, huN, uown, _⟩
      · -- not right
        rw [hg] at hrr8
        have hs4 : shE B x = 4 := by rw [shE, if_pos hg]
        have hy0 := HY.out.2 (by rw [hs4]; decide)
        obtain rfl : yk = 0 := by
          have := hnvy
          rw [hy0] at this
          simp only [nv, nil0, cells, Nd.kind, Value.agg.injEq] at this
          have h2 := congrArg Array.toList this
          simp only [List.cons.injEq, Value.int.injEq, true_and] at h2
          exact h2.1.symm
        obtain ⟨_, m0', m1', m2', m3', m4', m5', m6', m7', m8'⟩ := HBx.out w8 hb8
        have HRr8 := Lib.hid hrr8
        have H8 := Lib.hid (And.intro hb8 hs4)
        clear hrr8 hb8 hs4 hy0 hIx hIm hIy hxt hmt hnvm hnvy hmx hgm hg
        go_wp2_with fail
        with_reducible refine HRr8.out.mono ?_
        rintro e w9 ⟨rfl, hb9⟩
        clear m0' m1' m2' m3' m4' m5' m6' m7' m8'
        obtain ⟨hb8, hs4⟩ := H8.out
        have hb79 := hb8.trans (hb9.mono hb8.size)
        have o0 := (HBx.out w9 hb79).1.1.1
        have hnum := HNum.out w9 hb79 4 (by decide) (by decide)
        rw [← hs4, HEv.out, hs4] at hnum
        have HNum9 := Lib.hid hnum
        have H9 := Lib.hid hb79
        clear hnum hb79 hb8 hs4 hb9
        go_wp2_with fail
        with_reducible refine HNum9.out.mono ?_
        rintro e w10 ⟨rfl, hb10⟩
        have hfin := HB7.out.1.trans ((H9.out.trans (hb10.mono H9.out.size)).mono HB7.out.1.size)
        go_wp2
        go_ret
        exact ⟨rfl, hfin⟩
      · -- right
        rw [hg] at hrr8 hgm
        have hsh : shE B x = (spr B 64 [] 1 0 (er x)).1 := by rw [shE, if_neg (by simp [hg])]
        have hcode := spr_code B 64 [] 1 0 (er x) List.nodup_nil (fun x hx => by cases hx) (by decide) (by have := HB7.out.2.bk.len; simp; omega)
        obtain ⟨_, m0', m1', m2', m3', m4', m5', m6', m7', m8'⟩ := HBx.out w8 hb8
        have HRr8 := Lib.hid hrr8
        have H8 := Lib.hid (And.intro hb8 (And.intro hsh (And.intro hcode (And.intro huN (And.intro uown (And.intro hg hgm))))))
        clear hrr8 hb8 hsh hcode huN uown hIx hIm hIy hxt hmt hnvm hnvy hmx hgm hg
        go_wp2_with fail
        with_reducible refine HRr8.out.mono ?_
        rintro e w9 ⟨rfl, hb9⟩
        clear m0' m1' m2' m3' m4' m5' m6' m7' m8'
        obtain ⟨hb8, hsh, hcode, huN, uown, hg, hgm⟩ := H8.out
        have hb79 := hb8.trans (hb9.mono hb8.size)
        have hrs9 := HRs.out w9 hb79 hgm
        obtain ⟨r, hr⟩ : ∃ r, spr B 64 [] 1 0 (er x) = r := ⟨_, rfl⟩
        rw [hr] at hrs9 hsh hcode
        obtain ⟨_, m0', m1', m2', m3', m4', m5', m6', m7', m8'⟩ := HBx.out w9 hb79
        have HRs9 := Lib.hid hrs9
        have H9 := Lib.hid (And.intro hb79 (And.intro hsh (And.intro hcode (And.intro hr (And.intro (own_keep uown hb9) (And.intro huN (And.intro hg hgm)))))))
        clear hrs9 hb79 hsh hcode hr huN uown hg hgm hb8 hb9
        go_wp2_with fail
        with_reducible refine HRs9.out.mono ?_
        rintro e w10 ⟨z, rfl, hz1, hzi, _, hb10⟩
        clear m0' m1' m2' m3' m4' m5' m6' m7' m8'
        obtain ⟨hb79, hsh, hcode, hr, uown, huN, hg, hgm⟩ := H9.out
        obtain ⟨z0, z1, z2, z3, zs⟩ := four' hzi.len
        obtain ⟨zk, zn, zm, za, zl, zc, zt, hnvz, _⟩ := nv_explicit zs
        obtain ⟨W11, hW11⟩ : ∃ W11, w10.alloc (.cells #[.int .i64 zk, .int .u64 (z0 : Int), .int .u64 (z1 : Int), .int .u64 (z2 : Int), .int .u64 (z3 : Int), .slice za zl zc, .int .i64 zn, .int .i64 zm, .string (Str zt)] 44) = W11 := ⟨_, rfl⟩
        have b11 : Below w10.heap.size w10 W11 := by rw [← hW11]; exact (Below.refl _ _).alloc (Nat.le_refl _) _
        have s11 : W11.heap[w10.heap.size]? = some (.cells #[.int .i64 zk, .int .u64 (z0 : Int), .int .u64 (z1 : Int), .int .u64 (z2 : Int), .int .u64 (z3 : Int), .slice za zl zc, .int .i64 zn, .int .i64 zm, .string (Str zt)] 44 (0, 0)) := by rw [← hW11]; exact heap_alloc_new w10 _
        have hb911 := hb10.trans (b11.mono hb10.size)
        have hb711 := hb79.trans (hb911.mono hb79.size)
        have hzi11 : Is W11.heap.size W11 z := Is.mono b11.size (Is.below b11 hzi)
        have hnum := HNum.out W11 hb711 r.1 hcode.1 hcode.2
        rw [← hsh, HEv.out, hsh] at hnum
        rw [hnvz]
        obtain ⟨r1, r2, r3⟩ := r
        simp only at hsh hcode hz1 hnum ⊢
        have HNum11 := Lib.hid hnum
        have HW11 := Lib.hid hW11
        have hboz : ∀ V : World, Below W11.heap.size W11 V → (((V.cell? ⟨w6.heap.size, 0, none⟩ = some (.int .i64 yk) ∧ V.cell? ⟨w6.heap.size, 1, none⟩ = some (.int .u64 (y0 : Int)) ∧ V.cell? ⟨w6.heap.size, 2, none⟩ = some (.int .u64 (y1 : Int)) ∧ V.cell? ⟨w6.heap.size, 3, none⟩ = some (.int .u64 (y2 : Int)) ∧ V.cell? ⟨w6.heap.size, 4, none⟩ = some (.int .u64 (y3 : Int)) ∧ V.cell? ⟨w6.heap.size, 5, none⟩ = some (.slice ya yl yc) ∧ V.cell? ⟨w6.heap.size, 6, none⟩ = some (.int .i64 yn) ∧ V.cell? ⟨w6.heap.size, 7, none⟩ = some (.int .i64 ym) ∧ V.cell? ⟨w6.heap.size, 8, none⟩ = some (.string (Str yt))) ∧ (V.cell? ⟨w.heap.size, 0, none⟩ = some (.int .i64 xk) ∧ V.cell? ⟨w.heap.size, 1, none⟩ = some (.int .u64 (x0 : Int)) ∧ V.cell? ⟨w.heap.size, 2, none⟩ = some (.int .u64 (x1 : Int)) ∧ V.cell? ⟨w.heap.size, 3, none⟩ = some (.int .u64 (x2 : Int)) ∧ V.cell? ⟨w.heap.size, 4, none⟩ = some (.int .u64 (x3 : Int)) ∧ V.cell? ⟨w.heap.size, 5, none⟩ = some (.slice xa xl xc) ∧ V.cell? ⟨w.heap.size, 6, none⟩ = some (.int .i64 xn) ∧ V.cell? ⟨w.heap.size, 7, none⟩ = some (.int .i64 xm) ∧ V.cell? ⟨w.heap.size, 8, none⟩ = some (.string (Str xt)))) ∧ (V.cell? ⟨w4.heap.size, 0, none⟩ = some (.int .i64 mk) ∧ V.cell? ⟨w4.heap.size, 1, none⟩ = some (.int .u64 (m0 : Int)) ∧ V.cell? ⟨w4.heap.size, 2, none⟩ = some (.int .u64 (m1 : Int)) ∧ V.cell? ⟨w4.heap.size, 3, none⟩ = some (.int .u64 (m2 : Int)) ∧ V.cell? ⟨w4.heap.size, 4, none⟩ = some (.int .u64 (m3 : Int)) ∧ V.cell? ⟨w4.heap.size, 5, none⟩ = some (.slice ma ml mc) ∧ V.cell? ⟨w4.heap.size, 6, none⟩ = some (.int .i64 mn) ∧ V.cell? ⟨w4.heap.size, 7, none⟩ = some (.int .i64 mm) ∧ V.cell? ⟨w4.heap.size, 8, none⟩ = some (.string (Str mt)))) ∧ (V.cell? ⟨w10.heap.size, 0, none⟩ = some (.int .i64 zk) ∧ V.cell? ⟨w10.heap.size, 1, none⟩ = some (.int .u64 (z0 : Int)) ∧ V.cell? ⟨w10.heap.size, 2, none⟩ = some (.int .u64 (z1 : Int)) ∧ V.cell? ⟨w10.heap.size, 3, none⟩ = some (.int .u64 (z2 : Int)) ∧ V.cell? ⟨w10.heap.size, 4, none⟩ = some (.int .u64 (z3 : Int)) ∧ V.cell? ⟨w10.heap.size, 5, none⟩ = some (.slice za zl zc) ∧ V.cell? ⟨w10.heap.size, 6, none⟩ = some (.int .i64 zn) ∧ V.cell? ⟨w10.heap.size, 7, none⟩ = some (.int .i64 zm) ∧ V.cell? ⟨w10.heap.size, 8, none⟩ = some (.string (Str zt))) := fun V hb => ⟨HBx.out V (hb711.trans (hb.mono hb711.size)), nd_cells ((hb.block _ (block_lt s11)).trans s11)⟩
        have HBz := Lib.hid hboz
        have H11 := Lib.hid (And.intro hb711 (And.intro hsh (And.intro hr (And.intro (own_keep uown hb911) (And.intro huN (And.intro hg (And.intro hgm (And.intro hz1 (And.intro hzi11 hnvz)))))))))
        clear hnum hW11 b11 s11 hb911 hb711 hzi11 hsh hcode hr uown huN hg hgm hz1 hzi zs hnvz hb10 hb79 hboz
        go_upto_region 14 with (fail)
        rw [HW11.out]
        go_wp2_with fail
        with_reducible refine HNum11.out.mono ?_
        rintro e w12 ⟨rfl, hb12⟩
        obtain ⟨hb711, hsh, hr, uown, huN, hg, hgm, hz1, hzi11, hnvz⟩ := H11.out
        have hb712 := hb711.trans (hb12.mono hb711.size)
        have hru := HRu.out w12 hb712
        obtain ⟨⟨_, m0', m1', m2', m3', m4', m5', m6', m7', m8'⟩, _⟩ := HBz.out w12 hb12
        have HRu12 := Lib.hid hru
        have H12 := Lib.hid (And.intro hb12 (And.intro hb712 (own_keep uown hb12)))
        clear hru hb12 hb712 hb711 hsh hr uown huN hg hgm hz1 hzi11 hnvz
        go_wp2_with fail
        with_reducible refine HRu12.out.mono ?_
        rintro e w13 ⟨va, vc, VN, rfl, hvN, vrd, hb13⟩
        clear m0' m1' m2' m3' m4' m5' m6' m7' m8'
        obtain ⟨hb12, hb712, uown⟩ := H12.out
        obtain ⟨hb711, hsh, hr, _, huN, hg, hgm, hz1, hzi11, hnvz⟩ := H11.out
        obtain ⟨hIx, hIm, hIy, hxt, hmt, hnvm, hnvy, hmx, _⟩ := HI.out
        rw [hmx] at hvN vrd
        have hUV : UN = VN := huN.symm.trans hvN
        subst hUV
        have hUN6 : UN ≤ 9223372036854775807 := by
          obtain ⟨a', c', he, h1, h2, _⟩ := rd_own uown
          unfold maxLen at h2
          omega
        have hsm := Sm.sameT_c ua va uc vc UN UN (uses B (er x)) (uses B (er x)) w13 huN hvN hUN6 ((Rd.own uown).keep hb13) vrd
        rw [decide_eq_true rfl] at hsm
        have HSm13 := Lib.hid hsm
        have H13 := Lib.hid (hb12.trans (hb13.mono hb12.size))
        clear hsm uown vrd huN hvN hb12 hb712 hb711 hsh hr hg hgm hz1 hzi11 hnvz hIx hIm hIy hxt hmt hnvm hnvy hmx hb13
        go_wp2_with fail
        with_reducible refine HSm13.out.mono ?_
        rintro e w14 ⟨rfl, nn, hw14⟩
        have hb14 : Below w13.heap.size w13 w14 := by rw [← hw14]; exact ((Mod.refl [] w13).drewN nn).toBelow (Nat.le_refl _) (by simp)
        have hb1114 := H13.out.trans (hb14.mono H13.out.size)
        obtain ⟨hb711, hsh, hr, _, _, hg, hgm, hz1, hzi11, hnvz⟩ := H11.out
        obtain ⟨hIx, hIm, hIy, hxt, hmt, hnvm, hnvy, hmx, _⟩ := HI.out
        have hb714 := hb711.trans (hb1114.mono hb711.size)
        have hBw := HB7.out.1.trans (hb714.mono HB7.out.1.size)
        by_cases he : r1 = 0
        rotate_left 1
        · have hy0 := HY.out.2 (by rw [hsh]; exact he)
          obtain ⟨rfl, rfl⟩ : yk = 0 ∧ yl = 0 := by
            have := hnvy
            rw [hy0] at this
            simp only [nv, nil0, cells, Nd.kind, Nd.set, w64, Nd.a, Nd.kids, Nd.cap, Value.agg.injEq] at this
            have h0 := congrArg (fun a : Array Value => a.toList[0]?) this
            have h5 := congrArg (fun a : Array Value => a.toList[5]?) this
            simp at h0 h5
            exact ⟨h0.symm, h5.2.1.symm⟩
          obtain ⟨⟨⟨⟨o0, o1, o2, o3, o4, o5, o6, o7, o8⟩, _⟩, _⟩, _⟩ := HBz.out w14 hb1114
          have hne : (r1 != 0) = true := by simpa using he
          have HFin := Lib.hid hBw
          clear hBw hb714 hb1114 hb14 hb711 hsh hr hg hgm hz1 hzi11 hnvz hIx hIm hIy hxt hmt hnvm hnvy hmx hw14 hy0
          go_wp2
          go_ret
          exact ⟨rfl, HFin.out⟩
        · subst he
          have hs0 : shE B x = 0 := hsh
          have hyr : er y = r3 := by
            have := HY.out.1 hs0
            rw [hr] at this
            exact this
          obtain ⟨_, hry, hny⟩ := sh_ok HB7.out.2.bk.rgt hs0 (HY.out.1 hs0)
          have hzr : er z = r3 := hz1 rfl
          have hsmy := small11_c y w14 (hIy w14 hb714)
          rw [hnvy] at hsmy
          obtain ⟨⟨⟨⟨o0, o1, o2, o3, o4, o5, o6, o7, o8⟩, _⟩, _⟩, _⟩ := HBz.out w14 hb1114
          have HSmy := Lib.hid hsmy
          have H14 := Lib.hid (And.intro hb1114 (And.intro hb714 (And.intro hyr (And.intro hry (And.intro hny (And.intro hzr (And.intro hzi11 (And.intro hnvz (And.intro hg hgm)))))))))
          clear hsmy hb1114 hb714 hyr hry hny hzr hzi11 hnvz hg hgm hBw hb14 hb711 hsh hr hz1 hIx hIm hIy hxt hmt hnvm hnvy hmx hw14 hs0
          go_wp2_with fail
          with_reducible refine HSmy.out.mono ?_
          rintro e w15 ⟨v, rfl, hve, hvi, _, hb15⟩
          clear o0 o1 o2 o3 o4 o5 o6 o7 o8
          obtain ⟨hb1114, hb714, hyr, hry, hny, hzr, hzi11, hnvz, hg, hgm⟩ := H14.out
          obtain ⟨hIx, hIm, hIy, hxt, hmt, hnvm, hnvy, hmx, _⟩ := HI.out
          obtain ⟨v0, v1, v2, v3, vs⟩ := four' hvi.len
          obtain ⟨pk, pn, pm, pa, pl, pc, pt, hnvv, _⟩ := nv_explicit vs
          obtain ⟨p0, hp0⟩ : ∃ p0, v0 = p0 := ⟨_, rfl⟩
          obtain ⟨p1, hp1⟩ : ∃ p1, v1 = p1 := ⟨_, rfl⟩
          obtain ⟨p2, hp2⟩ : ∃ p2, v2 = p2 := ⟨_, rfl⟩
          obtain ⟨p3, hp3⟩ : ∃ p3, v3 = p3 := ⟨_, rfl⟩
          rw [hp0, hp1, hp2, hp3] at hnvv
          rw [hnvv]
          obtain ⟨W16, hW16⟩ : ∃ W16, w15.alloc (.cells #[.int .i64 pk, .int .u64 (p0 : Int), .int .u64 (p1 : Int), .int .u64 (p2 : Int), .int .u64 (p3 : Int), .slice pa pl pc, .int .i64 pn, .int .i64 pm, .string (Str pt)] 44) = W16 := ⟨_, rfl⟩
          have b16 : Below w15.heap.size w15 W16 := by rw [← hW16]; exact (Below.refl _ _).alloc (Nat.le_refl _) _
          have s16 : W16.heap[w15.heap.size]? = some (.cells #[.int .i64 pk, .int .u64 (p0 : Int), .int .u64 (p1 : Int), .int .u64 (p2 : Int), .int .u64 (p3 : Int), .slice pa pl pc, .int .i64 pn, .int .i64 pm, .string (Str pt)] 44 (0, 0)) := by rw [← hW16]; exact heap_alloc_new w15 _
          have hb1416 := hb15.trans (b16.mono hb15.size)
          have hb1116 := hb1114.trans (hb1416.mono hb1114.size)
          have hb716 := hb714.trans (hb1416.mono hb714.size)
          have hvi16 : Is W16.heap.size W16 v := Is.mono b16.size (Is.below b16 hvi)
          have hev : er v = er y := hve (by have := rgt_sz hry; omega)
          have hsmx := small11_c x W16 (hIx W16 hb716)
          rw [HX.out.2.2.1] at hsmx
          obtain ⟨⟨⟨_, o0, o1, o2, o3, o4, o5, o6, o7, o8⟩, _⟩, _⟩ := HBz.out W16 hb1116
          have HSmx := Lib.hid hsmx
          have HW16 := Lib.hid hW16
          have H16 := Lib.hid (And.intro hb1116 (And.intro hb716 (And.intro hvi16 (And.intro hev (And.intro s16 hnvv)))))
          clear hsmx hW16 b16 s16 hb1416 hb1116 hb716 hvi16 hev hb15 hvi hve vs hnvv hp0 hp1 hp2 hp3 hb1114 hb714 hyr hry hny hzr hzi11 hnvz hg hgm hIx hIm hIy hxt hmt hnvm hnvy hmx
          go_upto_region 19 with (fail)
          rw [HW16.out]
          go_wp2_with fail
          with_reducible refine HSmx.out.mono ?_
          rintro e w17 ⟨bk, rfl, hbe, hbi, _, hb17⟩
          clear o0 o1 o2 o3 o4 o5 o6 o7 o8
          obtain ⟨hb1116, hb716, hvi16, hev, s16, hnvv⟩ := H16.out
          obtain ⟨_, _, hyr, hry, hny, hzr, hzi11, hnvz, hg, hgm⟩ := H14.out
          obtain ⟨hIx, hIm, hIy, hxt, hmt, hnvm, hnvy, hmx, _⟩ := HI.out
          obtain ⟨b0, b1, b2, b3, bs⟩ := four' hbi.len
          obtain ⟨bk', bn, bm, ba, bl, bc, bt, hnvb, _⟩ := nv_explicit bs
          rw [hnvb]
          obtain ⟨W18, hW18⟩ : ∃ W18, w17.alloc (.cells #[.int .i64 bk', .int .u64 (b0 : Int), .int .u64 (b1 : Int), .int .u64 (b2 : Int), .int .u64 (b3 : Int), .slice ba bl bc, .int .i64 bn, .int .i64 bm, .string (Str bt)] 44) = W18 := ⟨_, rfl⟩
          have c18 : Below w17.heap.size w17 W18 := by rw [← hW18]; exact (Below.refl _ _).alloc (Nat.le_refl _) _
          have s18 : W18.heap[w17.heap.size]? = some (.cells #[.int .i64 bk', .int .u64 (b0 : Int), .int .u64 (b1 : Int), .int .u64 (b2 : Int), .int .u64 (b3 : Int), .slice ba bl bc, .int .i64 bn, .int .i64 bm, .string (Str bt)] 44 (0, 0)) := by rw [← hW18]; exact heap_alloc_new w17 _
          have hb1618 := hb17.trans (c18.mono hb17.size)
          have hb1118 := hb1116.trans (hb1618.mono hb1116.size)
          have hb718 := hb716.trans (hb1618.mono hb716.size)
          have heb : er bk = er x := hbe h7
          have hbi18 : Is W18.heap.size W18 bk := Is.mono c18.size (Is.below c18 hbi)
          have hrv : rgt v = true := by rw [same_rgt hev]; exact hry
          have hezy : er z = er y := hzr.trans hyr.symm
          have hrz : rgt z = true := by rw [same_rgt hezy]; exact hry
          have hrb : rgt bk = true := by rw [same_rgt heb]; exact hg
          have hS1 := fun (V : World) (hb : Below W18.heap.size W18 V) => rsame_c v z (rgt_texts hrv) (rgt_texts hrz) V (Is.mono (Nat.le_trans hb1618.size hb.size) (Is.below (hb1618.trans (hb.mono hb1618.size)) hvi16)) (Is.mono (Nat.le_trans hb1118.size hb.size) (Is.below (hb1118.trans (hb.mono hb1118.size)) hzi11))
          have hS2 := fun (V : World) (hb : Below W18.heap.size W18 V) => rsame_c bk m (rgt_texts hrb) hmt V (Is.mono hb.size (Is.below hb hbi18)) (hIm V (hb718.trans (hb.mono hb718.size)))
          have hRy := fun (V : World) (hb : Below W18.heap.size W18 V) => right_c y (rgt_texts hry) V (hIy V (hb718.trans (hb.mono hb718.size)))
          have hNy := fun (V : World) (hb : Below W18.heap.size W18 V) => names_c0 y (walk_len (hIy V (hb718.trans (hb.mono hb718.size)))) V (hIy V (hb718.trans (hb.mono hb718.size)))
          have hs1 : sm v z = true := (sm_iff _ _).2 (hev.trans hezy.symm)
          have hs2 : sm bk m = true := (sm_iff _ _).2 (heb.trans hmx.symm)
          rw [hrv, hrz, hs1, hnvv, hnvz] at hS1
          rw [hrb, hgm, hs2, hnvb, hnvm] at hS2
          rw [hry, hnvy] at hRy
          rw [hny, hnvy] at hNy
          have hall : ∀ V : World, Below W18.heap.size W18 V → (((V.cell? ⟨w6.heap.size, 0, none⟩ = some (.int .i64 yk) ∧ V.cell? ⟨w6.heap.size, 1, none⟩ = some (.int .u64 (y0 : Int)) ∧ V.cell? ⟨w6.heap.size, 2, none⟩ = some (.int .u64 (y1 : Int)) ∧ V.cell? ⟨w6.heap.size, 3, none⟩ = some (.int .u64 (y2 : Int)) ∧ V.cell? ⟨w6.heap.size, 4, none⟩ = some (.int .u64 (y3 : Int)) ∧ V.cell? ⟨w6.heap.size, 5, none⟩ = some (.slice ya yl yc) ∧ V.cell? ⟨w6.heap.size, 6, none⟩ = some (.int .i64 yn) ∧ V.cell? ⟨w6.heap.size, 7, none⟩ = some (.int .i64 ym) ∧ V.cell? ⟨w6.heap.size, 8, none⟩ = some (.string (Str yt))) ∧ (V.cell? ⟨w4.heap.size, 0, none⟩ = some (.int .i64 mk) ∧ V.cell? ⟨w4.heap.size, 1, none⟩ = some (.int .u64 (m0 : Int)) ∧ V.cell? ⟨w4.heap.size, 2, none⟩ = some (.int .u64 (m1 : Int)) ∧ V.cell? ⟨w4.heap.size, 3, none⟩ = some (.int .u64 (m2 : Int)) ∧ V.cell? ⟨w4.heap.size, 4, none⟩ = some (.int .u64 (m3 : Int)) ∧ V.cell? ⟨w4.heap.size, 5, none⟩ = some (.slice ma ml mc) ∧ V.cell? ⟨w4.heap.size, 6, none⟩ = some (.int .i64 mn) ∧ V.cell? ⟨w4.heap.size, 7, none⟩ = some (.int .i64 mm) ∧ V.cell? ⟨w4.heap.size, 8, none⟩ = some (.string (Str mt)))) ∧ (V.cell? ⟨w10.heap.size, 0, none⟩ = some (.int .i64 zk) ∧ V.cell? ⟨w10.heap.size, 1, none⟩ = some (.int .u64 (z0 : Int)) ∧ V.cell? ⟨w10.heap.size, 2, none⟩ = some (.int .u64 (z1 : Int)) ∧ V.cell? ⟨w10.heap.size, 3, none⟩ = some (.int .u64 (z2 : Int)) ∧ V.cell? ⟨w10.heap.size, 4, none⟩ = some (.int .u64 (z3 : Int)) ∧ V.cell? ⟨w10.heap.size, 5, none⟩ = some (.slice za zl zc) ∧ V.cell? ⟨w10.heap.size, 6, none⟩ = some (.int .i64 zn) ∧ V.cell? ⟨w10.heap.size, 7, none⟩ = some (.int .i64 zm) ∧ V.cell? ⟨w10.heap.size, 8, none⟩ = some (.string (Str zt)))) ∧ (V.cell? ⟨w15.heap.size, 0, none⟩ = some (.int .i64 pk) ∧ V.cell? ⟨w15.heap.size, 1, none⟩ = some (.int .u64 (p0 : Int)) ∧ V.cell? ⟨w15.heap.size, 2, none⟩ = some (.int .u64 (p1 : Int)) ∧ V.cell? ⟨w15.heap.size, 3, none⟩ = some (.int .u64 (p2 : Int)) ∧ V.cell? ⟨w15.heap.size, 4, none⟩ = some (.int .u64 (p3 : Int)) ∧ V.cell? ⟨w15.heap.size, 5, none⟩ = some (.slice pa pl pc) ∧ V.cell? ⟨w15.heap.size, 6, none⟩ = some (.int .i64 pn) ∧ V.cell? ⟨w15.heap.size, 7, none⟩ = some (.int .i64 pm) ∧ V.cell? ⟨w15.heap.size, 8, none⟩ = some (.string (Str pt))) ∧ (V.cell? ⟨w17.heap.size, 0, none⟩ = some (.int .i64 bk') ∧ V.cell? ⟨w17.heap.size, 1, none⟩ = some (.int .u64 (b0 : Int)) ∧ V.cell? ⟨w17.heap.size, 2, none⟩ = some (.int .u64 (b1 : Int)) ∧ V.cell? ⟨w17.heap.size, 3, none⟩ = some (.int .u64 (b2 : Int)) ∧ V.cell? ⟨w17.heap.size, 4, none⟩ = some (.int .u64 (b3 : Int)) ∧ V.cell? ⟨w17.heap.size, 5, none⟩ = some (.slice ba bl bc) ∧ V.cell? ⟨w17.heap.size, 6, none⟩ = some (.int .i64 bn) ∧ V.cell? ⟨w17.heap.size, 7, none⟩ = some (.int .i64 bm) ∧ V.cell? ⟨w17.heap.size, 8, none⟩ = some (.string (Str bt))) := fun V hb => by
            obtain ⟨⟨⟨y1, _⟩, y2⟩, y3⟩ := HBz.out V (hb1118.trans (hb.mono hb1118.size))
            exact ⟨⟨⟨y1, y2⟩, y3⟩, nd_cells (((hb1618.trans (hb.mono hb1618.size)).block _ (block_lt s16)).trans s16), nd_cells ((hb.block _ (block_lt s18)).trans s18)⟩
          have HS1 := Lib.hid hS1
          have HS2 := Lib.hid hS2
          have HRy := Lib.hid hRy
          have HNy := Lib.hid hNy
          have HAll := Lib.hid hall
          have HW18 := Lib.hid hW18
          have HB18 := Lib.hid (HB7.out.1.trans (hb718.mono HB7.out.1.size))
          obtain ⟨⟨⟨_, _⟩, z0', z1', z2', z3', z4', z5', z6', z7', z8'⟩, ⟨o0, o1, o2, o3, o4, o5, o6, o7, o8⟩, _⟩ := hall W18 (Below.refl _ _)
          clear hS1 hS2 hRy hNy hall hW18 c18 s18 hb1618 hb1118 hb718 heb hbi18 hrv hezy hrz hrb hs1 hs2 hbi hbe hb17 bs hnvb hb1116 hb716 hvi16 hev s16 hnvv hyr hry hny hzr hzi11 hnvz hg hgm hIx hIm hIy hxt hmt hnvm hnvy hmx
          go_upto_region 20 with (fail)
          rw [HW18.out]
          go_wp2_with fail
          with_reducible refine (HS1.out W18 (Below.refl _ _)).mono ?_
          rintro e x1' ⟨rfl, g1⟩
          clear z0' z1' z2' z3' z4' z5' z6' z7' z8' o0 o1 o2 o3 o4 o5 o6 o7 o8
          obtain ⟨⟨⟨_, z0', z1', z2', z3', z4', z5', z6', z7', z8'⟩, _⟩, _, o0, o1, o2, o3, o4, o5, o6, o7, o8⟩ := HAll.out x1' g1
          go_wp2_with fail
          with_reducible refine (HS2.out x1' g1).mono ?_
          rintro e x2' ⟨rfl, g2⟩
          clear z0' z1' z2' z3' z4' z5' z6' z7' z8' o0 o1 o2 o3 o4 o5 o6 o7 o8
          have g12 := g1.trans (g2.mono g1.size)
          obtain ⟨⟨⟨⟨o0, o1, o2, o3, o4, o5, o6, o7, o8⟩, _⟩, _⟩, _⟩ := HAll.out x2' g12
          go_wp2_with fail
          with_reducible refine (HRy.out x2' g12).mono ?_
          rintro e x3' ⟨rfl, g3⟩
          clear o0 o1 o2 o3 o4 o5 o6 o7 o8
          have g13 := g12.trans (g3.mono g12.size)
          obtain ⟨⟨⟨⟨o0, o1, o2, o3, o4, o5, o6, o7, o8⟩, _⟩, _⟩, _⟩ := HAll.out x3' g13
          go_wp2_with fail
          with_reducible refine (HNy.out x3' g13).mono ?_
          rintro e x4' ⟨nv4, rfl, own4, g4⟩
          obtain ⟨na4, nc4, rfl, _⟩ := rd_own own4
          have hfin := HB18.out.trans ((g13.trans (g4.mono g13.size)).mono HB18.out.size)
          have HFin := Lib.hid hfin
          clear own4 hfin g1 g2 g3 g4 g12 g13
          go_wp2
          go_ret
          exact ⟨rfl, HFin.out⟩
end Bo
end Go.Proofs.YteekonojmpihlaaDoor
