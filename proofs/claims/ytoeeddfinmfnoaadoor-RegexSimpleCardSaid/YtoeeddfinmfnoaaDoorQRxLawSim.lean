import Derived.Test.YtoeeddfinmfnoaaDoorQRxPlain
import Derived.Test.YtoeeddfinmfnoaaDoorQRxRSim
import Derived.Test.YtoeeddfinmfnoaaDoorQRxOpen
import Derived.Test.YtoeeddfinmfnoaaDoorQTreeRs
/- The law RegexSimple's walk. Printed by gen_rxlawsim.py. Condition: the sentinels read as laid. -/
namespace Go.Proofs.YtoeeddfinmfnoaaDoor
namespace Kt
end Kt
namespace St
end St
namespace Sp
end Sp
namespace Bk
end Bk
namespace Bo
end Bo
namespace Tr
end Tr
open Go Go.RowKit Kt St Sp Bk Bo Tr
namespace Rx
set_option maxRecDepth 100000 in
set_option maxHeartbeats 16000000 in
theorem simple_law (n : Nd) (A : Nat → Addr) (w : World) (hS : Sent 204 w A rgs) (hIs : Is w.heap.size w n) (ht : ∀ x ∈ walk n, x.1.text.length ≤ 9223372036854775807) : Calls Tryd.prog 3 #[nv n] w fun e w' => e = .returned (.bool true) ∧ Below w.heap.size w w' := by
  have hI := fun (W : World) (hb : Below w.heap.size w W) => Is.mono hb.size (Is.below hb hIs)
  obtain ⟨xn0, xn1, xn2, xn3, hsn⟩ := four (hIs.len)
  obtain ⟨kn, mnn, mxn, an, nln, cn, tn, hnvn, _⟩ := nv_explicit hsn
  obtain ⟨W0, hWn⟩ : ∃ V, w.alloc (.cells #[.int .i64 kn, .int .u64 (xn0 : Int), .int .u64 (xn1 : Int), .int .u64 (xn2 : Int), .int .u64 (xn3 : Int), .slice an nln cn, .int .i64 mnn, .int .i64 mxn, .string (Str tn)] 27) = V := ⟨_, rfl⟩
  have bn : Below w.heap.size w W0 := by rw [← hWn]; exact (Below.refl _ _).alloc (Nat.le_refl _) _
  have sn : W0.heap[w.heap.size]? = some (.cells #[.int .i64 kn, .int .u64 (xn0 : Int), .int .u64 (xn1 : Int), .int .u64 (xn2 : Int), .int .u64 (xn3 : Int), .slice an nln cn, .int .i64 mnn, .int .i64 mxn, .string (Str tn)] 27 (0, 0)) := by rw [← hWn]; exact World.alloc_heap_new _ _
  obtain ⟨Xn, hXn⟩ : ∃ X, w.heap.size = X := ⟨_, rfl⟩
  rw [hXn] at sn
  have hal := alive_c A W0 (hS.keep bn)
  have hofa : ∀ W, Below w.heap.size w W → Calls Tryd.prog 13 #[nv n, .int .i64 700] W (OfP n 700 W) := fun W hb => of_all n 700 (by decide) (by decide) W (hI W hb)
  have hofb : ∀ W, Below w.heap.size w W → Calls Tryd.prog 13 #[nv n, .int .i64 2000] W (OfP n 2000 W) := fun W hb => of_all n 2000 (by decide) (by decide) W (hI W hb)
  have hofs : ∀ m : Nd, ∀ W, Is W.heap.size W m → Calls Tryd.prog 13 #[nv m, .int .i64 2000] W (OfP m 2000 W) := fun m W hb => of_all m 2000 (by decide) (by decide) W hb
  have hpl := fun W (hb : Below w.heap.size w W) => plain_c n ht W (hI W hb)
  have hsi := fun W (hb : Below w.heap.size w W) => Simple_c n ht W (hI W hb)
  have hcn : ∀ W, Below W0.heap.size W0 W → (W.cell? ⟨Xn, 0, none⟩ = some (.int .i64 kn) ∧ W.cell? ⟨Xn, 1, none⟩ = some (.int .u64 (xn0 : Int)) ∧ W.cell? ⟨Xn, 2, none⟩ = some (.int .u64 (xn1 : Int)) ∧ W.cell? ⟨Xn, 3, none⟩ = some (.int .u64 (xn2 : Int)) ∧ W.cell? ⟨Xn, 4, none⟩ = some (.int .u64 (xn3 : Int)) ∧ W.cell? ⟨Xn, 5, none⟩ = some (.slice an nln cn) ∧ W.cell? ⟨Xn, 6, none⟩ = some (.int .i64 mnn) ∧ W.cell? ⟨Xn, 7, none⟩ = some (.int .i64 mxn) ∧ W.cell? ⟨Xn, 8, none⟩ = some (.string (Str tn))) := fun W hb => nd_cells ((hb.block _ (block_lt sn)).trans sn)
  rw [hnvn] at hofa hofb hpl hsi ⊢
  have HAl := Lib.hid hal
  have HOa := Lib.hid hofa
  have HOb := Lib.hid hofb
  have HOs := Lib.hid hofs
  have HPl := Lib.hid hpl
  have HSi := Lib.hid hsi
  have HCn := Lib.hid hcn
  have HB0 := Lib.hid bn
  have HW0 := Lib.hid (And.intro hWn hXn)
  have HT := Lib.hid ht
  clear hI hal hofa hofb hofs hpl hsi hcn bn sn hWn hIs hnvn hsn hS ht
  go_enter Tryd.func3, Tryd.ntmps3
  go_upto_region 1 with (fail)
  rw [HW0.out.1]
  try rw [HW0.out.2]
  clear hXn
  go_wp2_with fail
  with_reducible refine HAl.out.mono ?_
  rintro e w1 ⟨rfl, hb1⟩
  have N1 := Lib.hid hb1
  obtain ⟨q0, q1, q2, q3, q4, q5, q6, q7, q8⟩ := HCn.out w1 hb1
  clear hb1
  go_wp2_with fail
  with_reducible refine (HOa.out w1 (HB0.out.trans (N1.out.mono HB0.out.size))).mono ?_
  rintro e w2 ⟨m, r, rfl, h1, h2, hmI, _, hb2⟩
  obtain ⟨xa0, xa1, xa2, xa3, hsa⟩ := four (hmI.len)
  obtain ⟨ka, mna, mxa, aa, nla, ca, ta, hnva, _⟩ := nv_explicit hsa
  rw [hnva]
  obtain ⟨W2, hWa⟩ : ∃ V, w2.alloc (.cells #[.int .i64 ka, .int .u64 (xa0 : Int), .int .u64 (xa1 : Int), .int .u64 (xa2 : Int), .int .u64 (xa3 : Int), .slice aa nla ca, .int .i64 mna, .int .i64 mxa, .string (Str ta)] 31) = V := ⟨_, rfl⟩
  have ba : Below w2.heap.size w2 W2 := by rw [← hWa]; exact (Below.refl _ _).alloc (Nat.le_refl _) _
  have sa : W2.heap[w2.heap.size]? = some (.cells #[.int .i64 ka, .int .u64 (xa0 : Int), .int .u64 (xa1 : Int), .int .u64 (xa2 : Int), .int .u64 (xa3 : Int), .slice aa nla ca, .int .i64 mna, .int .i64 mxa, .string (Str ta)] 31 (0, 0)) := by rw [← hWa]; exact World.alloc_heap_new _ _
  obtain ⟨Xa, hXa⟩ : ∃ X, w2.heap.size = X := ⟨_, rfl⟩
  rw [hXa] at sa
  have hB2 := N1.out.trans ((hb2.trans (ba.mono hb2.size)).mono N1.out.size)
  have N2 := Lib.hid hB2
  have HW2 := Lib.hid (And.intro hWa hXa)
  have H2 := Lib.hid (And.intro h1 h2)
  clear hb2 ba sa hWa hB2 hmI hnva hsa h1 h2 q0 q1 q2 q3 q4 q5 q6 q7 q8
  go_upto_region 4 with (fail)
  rw [HW2.out.1]
  try rw [HW2.out.2]
  clear hXa
  by_cases hsz : sz n < 700
  rotate_left
  · obtain rfl : r = 0 := H2.out.2 hsz
    go_wp2
    go_ret
    exact ⟨rfl, HB0.out.trans (N2.out.mono HB0.out.size)⟩
  have hr0 : ¬ (r : Int) ≤ 0 := by have := (H2.out.1 hsz).1; omega
  have hr1 : decide ((r : Int) ≤ 0) = false := by simpa using hr0
  clear H2
  obtain ⟨q0, q1, q2, q3, q4, q5, q6, q7, q8⟩ := HCn.out W2 N2.out
  go_wp2_with fail
  with_reducible refine (HOb.out W2 (HB0.out.trans (N2.out.mono HB0.out.size))).mono ?_
  rintro e w3 ⟨m, r3, rfl, h1, _, hmI, _, hb3⟩
  have hme := (h1 (by omega)).2
  clear h1
  obtain ⟨xm0, xm1, xm2, xm3, hsm⟩ := four (hmI.len)
  obtain ⟨km, mnm, mxm, am, nlm, cm, tm, hnvm, _⟩ := nv_explicit hsm
  rw [hnvm]
  obtain ⟨W3, hWm⟩ : ∃ V, w3.alloc (.cells #[.int .i64 km, .int .u64 (xm0 : Int), .int .u64 (xm1 : Int), .int .u64 (xm2 : Int), .int .u64 (xm3 : Int), .slice am nlm cm, .int .i64 mnm, .int .i64 mxm, .string (Str tm)] 31) = V := ⟨_, rfl⟩
  have bm : Below w3.heap.size w3 W3 := by rw [← hWm]; exact (Below.refl _ _).alloc (Nat.le_refl _) _
  have sm : W3.heap[w3.heap.size]? = some (.cells #[.int .i64 km, .int .u64 (xm0 : Int), .int .u64 (xm1 : Int), .int .u64 (xm2 : Int), .int .u64 (xm3 : Int), .slice am nlm cm, .int .i64 mnm, .int .i64 mxm, .string (Str tm)] 31 (0, 0)) := by rw [← hWm]; exact World.alloc_heap_new _ _
  obtain ⟨Xm, hXm⟩ : ∃ X, w3.heap.size = X := ⟨_, rfl⟩
  rw [hXm] at sm
  have hIm : ∀ W, Below W3.heap.size W3 W → Is W.heap.size W m := fun W hb => Is.mono (bm.trans (hb.mono bm.size)).size (Is.below (bm.trans (hb.mono bm.size)) hmI)
  have hB3 := N2.out.trans ((hb3.trans (bm.mono hb3.size)).mono N2.out.size)
  have hcm : ∀ W, Below W3.heap.size W3 W → (W.cell? ⟨Xm, 0, none⟩ = some (.int .i64 km) ∧ W.cell? ⟨Xm, 1, none⟩ = some (.int .u64 (xm0 : Int)) ∧ W.cell? ⟨Xm, 2, none⟩ = some (.int .u64 (xm1 : Int)) ∧ W.cell? ⟨Xm, 3, none⟩ = some (.int .u64 (xm2 : Int)) ∧ W.cell? ⟨Xm, 4, none⟩ = some (.int .u64 (xm3 : Int)) ∧ W.cell? ⟨Xm, 5, none⟩ = some (.slice am nlm cm) ∧ W.cell? ⟨Xm, 6, none⟩ = some (.int .i64 mnm) ∧ W.cell? ⟨Xm, 7, none⟩ = some (.int .i64 mxm) ∧ W.cell? ⟨Xm, 8, none⟩ = some (.string (Str tm))) := fun W hb => nd_cells ((hb.block _ (block_lt sm)).trans sm)
  have htm : rgt n = true → ∀ x ∈ walk m, x.1.text.length ≤ 9223372036854775807 := fun h => rgt_tl63 (by rw [← er_rgt, hme, er_rgt, h])
  have htm0 : ∀ x ∈ walk m, x.1.text.length ≤ 9223372036854775807 := by
    have h1 : ∀ x ∈ walk n, x.1.text.length ≤ 9223372036854775807 := HT.out
    exact text_walk hme _ h1
  have hrr := rright_c m htm0 W3 (hIm W3 (Below.refl _ _))
  rw [show rgt m = rgt n by rw [← er_rgt m, hme, er_rgt]] at hrr
  rw [hnvm] at hrr
  have N3 := Lib.hid hB3
  have HW3 := Lib.hid (And.intro hWm hXm)
  have HIm := Lib.hid hIm
  have HCm := Lib.hid hcm
  have HMe := Lib.hid hme
  have HNm := Lib.hid hnvm
  have HRR := Lib.hid hrr
  obtain ⟨p0, p1, p2, p3, p4, p5, p6, p7, p8⟩ := hcm W3 (Below.refl _ _)
  clear hb3 bm sm hWm hIm hB3 hcm htm htm0 hrr hme hmI hnvm hsm q0 q1 q2 q3 q4 q5 q6 q7 q8 hr0
  go_upto_region 7 with (fail)
  rw [HW3.out.1]
  try rw [HW3.out.2]
  clear hXm hr1
  go_wp2_with fail
  with_reducible refine HRR.out.mono ?_
  rintro e w4 ⟨rfl, hb4⟩
  have hB4 := N3.out.trans (hb4.mono N3.out.size)
  have N4 := Lib.hid hB4
  have M4 := Lib.hid hb4
  obtain ⟨q0, q1, q2, q3, q4, q5, q6, q7, q8⟩ := HCn.out w4 hB4
  clear hB4 hb4 p0 p1 p2 p3 p4 p5 p6 p7 p8
  cases hrg : rgt n with
  | false =>
    have hp := HPl.out w4 (HB0.out.trans (N4.out.mono HB0.out.size))
    rw [hrg, Bool.false_and] at hp
    have HP := Lib.hid hp
    clear hp
    go_wp2_with fail
    with_reducible refine HP.out.mono ?_
    rintro e w5 ⟨rfl, hb5⟩
    have hB5 := N4.out.trans (hb5.mono N4.out.size)
    have N5 := Lib.hid hB5
    clear hb5 hB5 q0 q1 q2 q3 q4 q5 q6 q7 q8
    go_wp2
    go_ret
    exact ⟨rfl, HB0.out.trans (N5.out.mono HB0.out.size)⟩
  | true =>
    have HRg := Lib.hid hrg
    clear hrg
    go_wp2_with fail
    with_reducible refine (HSi.out w4 (HB0.out.trans (N4.out.mono HB0.out.size))).mono ?_
    rintro e w5 ⟨s, rfl, hse, _, hso, hb5⟩
    have hse := hse HRg.out
    obtain ⟨xu0, xu1, xu2, xu3, hsu⟩ := four (hso.len)
    obtain ⟨ku, mnu, mxu, au, nlu, cu, tu, hnvu, _⟩ := nv_explicit hsu
    rw [hnvu]
    obtain ⟨W5, hWu⟩ : ∃ V, w5.alloc (.cells #[.int .i64 ku, .int .u64 (xu0 : Int), .int .u64 (xu1 : Int), .int .u64 (xu2 : Int), .int .u64 (xu3 : Int), .slice au nlu cu, .int .i64 mnu, .int .i64 mxu, .string (Str tu)] 27) = V := ⟨_, rfl⟩
    have bu : Below w5.heap.size w5 W5 := by rw [← hWu]; exact (Below.refl _ _).alloc (Nat.le_refl _) _
    have su : W5.heap[w5.heap.size]? = some (.cells #[.int .i64 ku, .int .u64 (xu0 : Int), .int .u64 (xu1 : Int), .int .u64 (xu2 : Int), .int .u64 (xu3 : Int), .slice au nlu cu, .int .i64 mnu, .int .i64 mxu, .string (Str tu)] 27 (0, 0)) := by rw [← hWu]; exact World.alloc_heap_new _ _
    obtain ⟨Xs, hXu⟩ : ∃ X, w5.heap.size = X := ⟨_, rfl⟩
    rw [hXu] at su
    have hIs : ∀ W, Below W5.heap.size W5 W → Is W.heap.size W s := fun W hb => Is.mono (bu.trans (hb.mono bu.size)).size (Is.below (bu.trans (hb.mono bu.size)) hso.is)
    have hB5 := N4.out.trans ((hb5.trans (bu.mono hb5.size)).mono N4.out.size)
    have hM5 := M4.out.trans ((hb5.trans (bu.mono hb5.size)).mono M4.out.size)
    have hof := HOs.out s W5 (hIs W5 (Below.refl _ _))
    rw [hnvu] at hof
    have N5 := Lib.hid hB5
    have M5 := Lib.hid hM5
    have HW5 := Lib.hid (And.intro hWu hXu)
    have HSe := Lib.hid hse
    have HO := Lib.hid hof
    obtain ⟨p0, p1, p2, p3, p4, p5, p6, p7, p8⟩ := nd_cells su
    clear hb5 bu su hWu hIs hB5 hM5 hof hse hso hnvu hsu q0 q1 q2 q3 q4 q5 q6 q7 q8
    go_upto_region 10 with (fail)
    rw [HW5.out.1]
    try rw [HW5.out.2]
    clear hXu
    go_wp2_with fail
    with_reducible refine HO.out.mono ?_
    rintro e w6 ⟨x, rx, rfl, h1, _, hxI, _, hb6⟩
    have hxe : er x = simp n := by
      have hz : sz s < 2000 := by
        have h2 := (simp_sz n).1
        rw [← HSe.out, er_sz] at h2
        omega
      rw [(h1 hz).2, HSe.out]
    clear h1
    obtain ⟨xx0, xx1, xx2, xx3, hsx⟩ := four (hxI.len)
    obtain ⟨kx, mnx, mxx, ax, nlx, cx, tx, hnvx, _⟩ := nv_explicit hsx
    rw [hnvx]
    obtain ⟨W6, hWx⟩ : ∃ V, w6.alloc (.cells #[.int .i64 kx, .int .u64 (xx0 : Int), .int .u64 (xx1 : Int), .int .u64 (xx2 : Int), .int .u64 (xx3 : Int), .slice ax nlx cx, .int .i64 mnx, .int .i64 mxx, .string (Str tx)] 31) = V := ⟨_, rfl⟩
    have bx : Below w6.heap.size w6 W6 := by rw [← hWx]; exact (Below.refl _ _).alloc (Nat.le_refl _) _
    have sx : W6.heap[w6.heap.size]? = some (.cells #[.int .i64 kx, .int .u64 (xx0 : Int), .int .u64 (xx1 : Int), .int .u64 (xx2 : Int), .int .u64 (xx3 : Int), .slice ax nlx cx, .int .i64 mnx, .int .i64 mxx, .string (Str tx)] 31 (0, 0)) := by rw [← hWx]; exact World.alloc_heap_new _ _
    obtain ⟨Xx, hXx⟩ : ∃ X, w6.heap.size = X := ⟨_, rfl⟩
    rw [hXx] at sx
    have hIx : ∀ W, Below W6.heap.size W6 W → Is W.heap.size W x := fun W hb => Is.mono (bx.trans (hb.mono bx.size)).size (Is.below (bx.trans (hb.mono bx.size)) hxI)
    have hB6 := N5.out.trans ((hb6.trans (bx.mono hb6.size)).mono N5.out.size)
    have hM6 := M5.out.trans ((hb6.trans (bx.mono hb6.size)).mono M5.out.size)
    have hcx : ∀ W, Below W6.heap.size W6 W → (W.cell? ⟨Xx, 0, none⟩ = some (.int .i64 kx) ∧ W.cell? ⟨Xx, 1, none⟩ = some (.int .u64 (xx0 : Int)) ∧ W.cell? ⟨Xx, 2, none⟩ = some (.int .u64 (xx1 : Int)) ∧ W.cell? ⟨Xx, 3, none⟩ = some (.int .u64 (xx2 : Int)) ∧ W.cell? ⟨Xx, 4, none⟩ = some (.int .u64 (xx3 : Int)) ∧ W.cell? ⟨Xx, 5, none⟩ = some (.slice ax nlx cx) ∧ W.cell? ⟨Xx, 6, none⟩ = some (.int .i64 mnx) ∧ W.cell? ⟨Xx, 7, none⟩ = some (.int .i64 mxx) ∧ W.cell? ⟨Xx, 8, none⟩ = some (.string (Str tx))) := fun W hb => nd_cells ((hb.block _ (block_lt sx)).trans sx)
    have hrs := rsimple_all m (by rw [← er_sz, HMe.out, er_sz]; omega) W6 (HIm.out W6 hM6)
    rw [HNm.out] at hrs
    have N6 := Lib.hid hB6
    have M6 := Lib.hid hM6
    have HW6 := Lib.hid (And.intro hWx hXx)
    have HXe := Lib.hid hxe
    have HIx := Lib.hid hIx
    have HCx := Lib.hid hcx
    have HNx := Lib.hid hnvx
    have HRS := Lib.hid hrs
    obtain ⟨q0, q1, q2, q3, q4, q5, q6, q7, q8⟩ := HCm.out W6 hM6
    clear hb6 bx sx hWx hIx hB6 hM6 hcx hrs hxe hxI hnvx hsx p0 p1 p2 p3 p4 p5 p6 p7 p8
    go_upto_region 11 with (fail)
    rw [HW6.out.1]
    try rw [HW6.out.2]
    clear hXx
    go_wp2_with fail
    with_reducible refine HRS.out.mono ?_
    rintro e w7 ⟨y, rfl, hye, hyI, _, hb7⟩
    have hye : er y = simp n := by rw [hye, ← simp_er, HMe.out, simp_er]
    obtain ⟨xy0, xy1, xy2, xy3, hsy⟩ := four (hyI.len)
    obtain ⟨ky, mny, mxy, ay, nly, cy, ty, hnvy, _⟩ := nv_explicit hsy
    rw [hnvy]
    obtain ⟨W7, hWy⟩ : ∃ V, w7.alloc (.cells #[.int .i64 ky, .int .u64 (xy0 : Int), .int .u64 (xy1 : Int), .int .u64 (xy2 : Int), .int .u64 (xy3 : Int), .slice ay nly cy, .int .i64 mny, .int .i64 mxy, .string (Str ty)] 31) = V := ⟨_, rfl⟩
    have by_ : Below w7.heap.size w7 W7 := by rw [← hWy]; exact (Below.refl _ _).alloc (Nat.le_refl _) _
    have sy : W7.heap[w7.heap.size]? = some (.cells #[.int .i64 ky, .int .u64 (xy0 : Int), .int .u64 (xy1 : Int), .int .u64 (xy2 : Int), .int .u64 (xy3 : Int), .slice ay nly cy, .int .i64 mny, .int .i64 mxy, .string (Str ty)] 31 (0, 0)) := by rw [← hWy]; exact World.alloc_heap_new _ _
    obtain ⟨Xy, hXy⟩ : ∃ X, w7.heap.size = X := ⟨_, rfl⟩
    rw [hXy] at sy
    have hIy : ∀ W, Below W7.heap.size W7 W → Is W.heap.size W y := fun W hb => Is.mono (by_.trans (hb.mono by_.size)).size (Is.below (by_.trans (hb.mono by_.size)) hyI)
    have hB7 := N6.out.trans ((hb7.trans (by_.mono hb7.size)).mono N6.out.size)
    have hM7 := M6.out.trans ((hb7.trans (by_.mono hb7.size)).mono M6.out.size)
    have hX7 := hb7.trans (by_.mono hb7.size)
    have hcy : ∀ W, Below W7.heap.size W7 W → (W.cell? ⟨Xy, 0, none⟩ = some (.int .i64 ky) ∧ W.cell? ⟨Xy, 1, none⟩ = some (.int .u64 (xy0 : Int)) ∧ W.cell? ⟨Xy, 2, none⟩ = some (.int .u64 (xy1 : Int)) ∧ W.cell? ⟨Xy, 3, none⟩ = some (.int .u64 (xy2 : Int)) ∧ W.cell? ⟨Xy, 4, none⟩ = some (.int .u64 (xy3 : Int)) ∧ W.cell? ⟨Xy, 5, none⟩ = some (.slice ay nly cy) ∧ W.cell? ⟨Xy, 6, none⟩ = some (.int .i64 mny) ∧ W.cell? ⟨Xy, 7, none⟩ = some (.int .i64 mxy) ∧ W.cell? ⟨Xy, 8, none⟩ = some (.string (Str ty))) := fun W hb => nd_cells ((hb.block _ (block_lt sy)).trans sy)
    have N7 := Lib.hid hB7
    have M7 := Lib.hid hM7
    have X7 := Lib.hid hX7
    have HW7 := Lib.hid (And.intro hWy hXy)
    have HYe := Lib.hid hye
    have HIy := Lib.hid hIy
    have HCy := Lib.hid hcy
    have HNy := Lib.hid hnvy
    clear q0 q1 q2 q3 q4 q5 q6 q7 q8
    obtain ⟨q0, q1, q2, q3, q4, q5, q6, q7, q8⟩ := HCn.out W7 hB7
    clear hb7 by_ sy hWy hIy hB7 hM7 hX7 hcy hye hyI hnvy hsy
    go_upto_region 12 with (fail)
    rw [HW7.out.1]
    try rw [HW7.out.2]
    clear hXy
    go_wp2_with fail
    with_reducible refine (HOb.out W7 (HB0.out.trans (N7.out.mono HB0.out.size))).mono ?_
    rintro e w8 ⟨z, rz, rfl, h1, _, hzI, _, hb8⟩
    have hze := (h1 (by omega)).2
    clear h1 q0 q1 q2 q3 q4 q5 q6 q7 q8
    obtain ⟨xz0, xz1, xz2, xz3, hsz_⟩ := four (hzI.len)
    obtain ⟨kz, mnz, mxz, az, nlz, cz, tz, hnvz, _⟩ := nv_explicit hsz_
    rw [hnvz]
    obtain ⟨W8, hWz⟩ : ∃ V, w8.alloc (.cells #[.int .i64 kz, .int .u64 (xz0 : Int), .int .u64 (xz1 : Int), .int .u64 (xz2 : Int), .int .u64 (xz3 : Int), .slice az nlz cz, .int .i64 mnz, .int .i64 mxz, .string (Str tz)] 31) = V := ⟨_, rfl⟩
    have bz : Below w8.heap.size w8 W8 := by rw [← hWz]; exact (Below.refl _ _).alloc (Nat.le_refl _) _
    have sz_ : W8.heap[w8.heap.size]? = some (.cells #[.int .i64 kz, .int .u64 (xz0 : Int), .int .u64 (xz1 : Int), .int .u64 (xz2 : Int), .int .u64 (xz3 : Int), .slice az nlz cz, .int .i64 mnz, .int .i64 mxz, .string (Str tz)] 31 (0, 0)) := by rw [← hWz]; exact World.alloc_heap_new _ _
    obtain ⟨Xz, hXz⟩ : ∃ X, w8.heap.size = X := ⟨_, rfl⟩
    rw [hXz] at sz_
    have hIz : ∀ W, Below W8.heap.size W8 W → Is W.heap.size W z := fun W hb => Is.mono (bz.trans (hb.mono bz.size)).size (Is.below (bz.trans (hb.mono bz.size)) hzI)
    have h78 := hb8.trans (bz.mono hb8.size)
    have hB8 := N7.out.trans (h78.mono N7.out.size)
    have hM8 := M7.out.trans (h78.mono M7.out.size)
    have hX8 := X7.out.trans (h78.mono X7.out.size)
    have hcz : ∀ W, Below W8.heap.size W8 W → (W.cell? ⟨Xz, 0, none⟩ = some (.int .i64 kz) ∧ W.cell? ⟨Xz, 1, none⟩ = some (.int .u64 (xz0 : Int)) ∧ W.cell? ⟨Xz, 2, none⟩ = some (.int .u64 (xz1 : Int)) ∧ W.cell? ⟨Xz, 3, none⟩ = some (.int .u64 (xz2 : Int)) ∧ W.cell? ⟨Xz, 4, none⟩ = some (.int .u64 (xz3 : Int)) ∧ W.cell? ⟨Xz, 5, none⟩ = some (.slice az nlz cz) ∧ W.cell? ⟨Xz, 6, none⟩ = some (.int .i64 mnz) ∧ W.cell? ⟨Xz, 7, none⟩ = some (.int .i64 mxz) ∧ W.cell? ⟨Xz, 8, none⟩ = some (.string (Str tz))) := fun W hb => nd_cells ((hb.block _ (block_lt sz_)).trans sz_)
    have hsk : ∀ W, Below W8.heap.size W8 W → (fun W => (W.cell? ⟨Xn, 0, none⟩ = some (.int .i64 kn) ∧ W.cell? ⟨Xn, 1, none⟩ = some (.int .u64 (xn0 : Int)) ∧ W.cell? ⟨Xn, 2, none⟩ = some (.int .u64 (xn1 : Int)) ∧ W.cell? ⟨Xn, 3, none⟩ = some (.int .u64 (xn2 : Int)) ∧ W.cell? ⟨Xn, 4, none⟩ = some (.int .u64 (xn3 : Int)) ∧ W.cell? ⟨Xn, 5, none⟩ = some (.slice an nln cn) ∧ W.cell? ⟨Xn, 6, none⟩ = some (.int .i64 mnn) ∧ W.cell? ⟨Xn, 7, none⟩ = some (.int .i64 mxn) ∧ W.cell? ⟨Xn, 8, none⟩ = some (.string (Str tn))) ∧ (W.cell? ⟨Xm, 0, none⟩ = some (.int .i64 km) ∧ W.cell? ⟨Xm, 1, none⟩ = some (.int .u64 (xm0 : Int)) ∧ W.cell? ⟨Xm, 2, none⟩ = some (.int .u64 (xm1 : Int)) ∧ W.cell? ⟨Xm, 3, none⟩ = some (.int .u64 (xm2 : Int)) ∧ W.cell? ⟨Xm, 4, none⟩ = some (.int .u64 (xm3 : Int)) ∧ W.cell? ⟨Xm, 5, none⟩ = some (.slice am nlm cm) ∧ W.cell? ⟨Xm, 6, none⟩ = some (.int .i64 mnm) ∧ W.cell? ⟨Xm, 7, none⟩ = some (.int .i64 mxm) ∧ W.cell? ⟨Xm, 8, none⟩ = some (.string (Str tm))) ∧ (W.cell? ⟨Xx, 0, none⟩ = some (.int .i64 kx) ∧ W.cell? ⟨Xx, 1, none⟩ = some (.int .u64 (xx0 : Int)) ∧ W.cell? ⟨Xx, 2, none⟩ = some (.int .u64 (xx1 : Int)) ∧ W.cell? ⟨Xx, 3, none⟩ = some (.int .u64 (xx2 : Int)) ∧ W.cell? ⟨Xx, 4, none⟩ = some (.int .u64 (xx3 : Int)) ∧ W.cell? ⟨Xx, 5, none⟩ = some (.slice ax nlx cx) ∧ W.cell? ⟨Xx, 6, none⟩ = some (.int .i64 mnx) ∧ W.cell? ⟨Xx, 7, none⟩ = some (.int .i64 mxx) ∧ W.cell? ⟨Xx, 8, none⟩ = some (.string (Str tx))) ∧ (W.cell? ⟨Xy, 0, none⟩ = some (.int .i64 ky) ∧ W.cell? ⟨Xy, 1, none⟩ = some (.int .u64 (xy0 : Int)) ∧ W.cell? ⟨Xy, 2, none⟩ = some (.int .u64 (xy1 : Int)) ∧ W.cell? ⟨Xy, 3, none⟩ = some (.int .u64 (xy2 : Int)) ∧ W.cell? ⟨Xy, 4, none⟩ = some (.int .u64 (xy3 : Int)) ∧ W.cell? ⟨Xy, 5, none⟩ = some (.slice ay nly cy) ∧ W.cell? ⟨Xy, 6, none⟩ = some (.int .i64 mny) ∧ W.cell? ⟨Xy, 7, none⟩ = some (.int .i64 mxy) ∧ W.cell? ⟨Xy, 8, none⟩ = some (.string (Str ty))) ∧ (W.cell? ⟨Xz, 0, none⟩ = some (.int .i64 kz) ∧ W.cell? ⟨Xz, 1, none⟩ = some (.int .u64 (xz0 : Int)) ∧ W.cell? ⟨Xz, 2, none⟩ = some (.int .u64 (xz1 : Int)) ∧ W.cell? ⟨Xz, 3, none⟩ = some (.int .u64 (xz2 : Int)) ∧ W.cell? ⟨Xz, 4, none⟩ = some (.int .u64 (xz3 : Int)) ∧ W.cell? ⟨Xz, 5, none⟩ = some (.slice az nlz cz) ∧ W.cell? ⟨Xz, 6, none⟩ = some (.int .i64 mnz) ∧ W.cell? ⟨Xz, 7, none⟩ = some (.int .i64 mxz) ∧ W.cell? ⟨Xz, 8, none⟩ = some (.string (Str tz)))) W := fun W hb => ⟨HCn.out W (hB8.trans (hb.mono hB8.size)), HCm.out W (hM8.trans (hb.mono hM8.size)), HCx.out W (hX8.trans (hb.mono hX8.size)), HCy.out W (h78.trans (hb.mono h78.size)), hcz W hb⟩
    have rx : rgt x = true := by rw [← er_rgt, HXe.out]; exact rgt_simp HRg.out
    have ry : rgt y = true := by rw [← er_rgt, HYe.out]; exact rgt_simp HRg.out
    have rm : rgt m = true := by rw [← er_rgt, HMe.out, er_rgt]; exact HRg.out
    have rz' : rgt z = true := by rw [← er_rgt, hze, er_rgt]; exact HRg.out
    have c1 : ∀ W, Below W8.heap.size W8 W → Calls Tryd.prog 18 #[nv x, nv y] W fun e w' => e = .returned (.bool true) ∧ Below W.heap.size W w' := fun W hb => by
      have h := rsame_c x y (rgt_tl63 rx) (rgt_tl63 ry) W (HIx.out W (hX8.trans (hb.mono hX8.size))) (HIy.out W (h78.trans (hb.mono h78.size)))
      rw [rx, ry, (sm_iff _ _).2 (by rw [HXe.out, HYe.out])] at h
      exact h
    have c2 : ∀ W, Below W8.heap.size W8 W → Calls Tryd.prog 18 #[nv z, nv m] W fun e w' => e = .returned (.bool true) ∧ Below W.heap.size W w' := fun W hb => by
      have h := rsame_c z m (rgt_tl63 rz') (rgt_tl63 rm) W (hIz W hb) (HIm.out W (hM8.trans (hb.mono hM8.size)))
      rw [rz', rm, (sm_iff _ _).2 (by rw [hze, HMe.out])] at h
      exact h
    obtain ⟨P, hP⟩ : ∃ P, (!lone n) = P := ⟨_, rfl⟩
    have c3 : ∀ W, Below W8.heap.size W8 W → Calls Tryd.prog 15 #[.agg #[.int .i64 kn, .int .u64 (xn0 : Int), .int .u64 (xn1 : Int), .int .u64 (xn2 : Int), .int .u64 (xn3 : Int), .slice an nln cn, .int .i64 mnn, .int .i64 mxn, .string (Str tn)]] W fun e w' => e = .returned (.bool P) ∧ Below W.heap.size W w' := fun W hb => by
      have h := HPl.out W (HB0.out.trans ((hB8.trans (hb.mono hB8.size)).mono HB0.out.size))
      rw [HRg.out, hP, Bool.true_and] at h
      exact h
    have c4 : ∀ W, Below W8.heap.size W8 W → Calls Tryd.prog 18 #[nv y, nv m] W fun e w' => e = .returned (.bool P) ∧ Below W.heap.size W w' := fun W hb => by
      have h := rsame_c y m (rgt_tl63 ry) (rgt_tl63 rm) W (HIy.out W (h78.trans (hb.mono h78.size))) (HIm.out W (hM8.trans (hb.mono hM8.size)))
      have hq : sm y m = P := by
        rw [← hP, Bool.eq_iff_iff, sm_iff, HYe.out, HMe.out, simp_iff]
        simp
      rw [ry, rm, hq] at h
      exact h
    rw [HNx.out, HNy.out] at c1
    rw [hnvz, HNm.out] at c2
    rw [HNy.out, HNm.out] at c4
    have C1 := Lib.hid c1
    have C2 := Lib.hid c2
    have C3 := Lib.hid c3
    have C4 := Lib.hid c4
    have HSk := Lib.hid hsk
    have HW8 := Lib.hid (And.intro hWz hXz)
    have HFin := Lib.hid (HB0.out.trans (hB8.mono HB0.out.size))
    clear c1 c2 c3 c4 hsk hP rx ry rm rz' hWz h78 hB8 hM8 hX8 hcz hIz hze hzI hnvz hsz_ hb8 bz sz_
    go_upto_region 13 with (fail)
    rw [HW8.out.1]
    try rw [HW8.out.2]
    clear hXz
    have n0 : Below W8.heap.size W8 W8.drew := (Below.refl _ _).drew
    refine wp_region_noPanic ?_
    refine wp_region_held_drew (S := fun W => (W.cell? ⟨Xn, 0, none⟩ = some (.int .i64 kn) ∧ W.cell? ⟨Xn, 1, none⟩ = some (.int .u64 (xn0 : Int)) ∧ W.cell? ⟨Xn, 2, none⟩ = some (.int .u64 (xn1 : Int)) ∧ W.cell? ⟨Xn, 3, none⟩ = some (.int .u64 (xn2 : Int)) ∧ W.cell? ⟨Xn, 4, none⟩ = some (.int .u64 (xn3 : Int)) ∧ W.cell? ⟨Xn, 5, none⟩ = some (.slice an nln cn) ∧ W.cell? ⟨Xn, 6, none⟩ = some (.int .i64 mnn) ∧ W.cell? ⟨Xn, 7, none⟩ = some (.int .i64 mxn) ∧ W.cell? ⟨Xn, 8, none⟩ = some (.string (Str tn))) ∧ (W.cell? ⟨Xm, 0, none⟩ = some (.int .i64 km) ∧ W.cell? ⟨Xm, 1, none⟩ = some (.int .u64 (xm0 : Int)) ∧ W.cell? ⟨Xm, 2, none⟩ = some (.int .u64 (xm1 : Int)) ∧ W.cell? ⟨Xm, 3, none⟩ = some (.int .u64 (xm2 : Int)) ∧ W.cell? ⟨Xm, 4, none⟩ = some (.int .u64 (xm3 : Int)) ∧ W.cell? ⟨Xm, 5, none⟩ = some (.slice am nlm cm) ∧ W.cell? ⟨Xm, 6, none⟩ = some (.int .i64 mnm) ∧ W.cell? ⟨Xm, 7, none⟩ = some (.int .i64 mxm) ∧ W.cell? ⟨Xm, 8, none⟩ = some (.string (Str tm))) ∧ (W.cell? ⟨Xx, 0, none⟩ = some (.int .i64 kx) ∧ W.cell? ⟨Xx, 1, none⟩ = some (.int .u64 (xx0 : Int)) ∧ W.cell? ⟨Xx, 2, none⟩ = some (.int .u64 (xx1 : Int)) ∧ W.cell? ⟨Xx, 3, none⟩ = some (.int .u64 (xx2 : Int)) ∧ W.cell? ⟨Xx, 4, none⟩ = some (.int .u64 (xx3 : Int)) ∧ W.cell? ⟨Xx, 5, none⟩ = some (.slice ax nlx cx) ∧ W.cell? ⟨Xx, 6, none⟩ = some (.int .i64 mnx) ∧ W.cell? ⟨Xx, 7, none⟩ = some (.int .i64 mxx) ∧ W.cell? ⟨Xx, 8, none⟩ = some (.string (Str tx))) ∧ (W.cell? ⟨Xy, 0, none⟩ = some (.int .i64 ky) ∧ W.cell? ⟨Xy, 1, none⟩ = some (.int .u64 (xy0 : Int)) ∧ W.cell? ⟨Xy, 2, none⟩ = some (.int .u64 (xy1 : Int)) ∧ W.cell? ⟨Xy, 3, none⟩ = some (.int .u64 (xy2 : Int)) ∧ W.cell? ⟨Xy, 4, none⟩ = some (.int .u64 (xy3 : Int)) ∧ W.cell? ⟨Xy, 5, none⟩ = some (.slice ay nly cy) ∧ W.cell? ⟨Xy, 6, none⟩ = some (.int .i64 mny) ∧ W.cell? ⟨Xy, 7, none⟩ = some (.int .i64 mxy) ∧ W.cell? ⟨Xy, 8, none⟩ = some (.string (Str ty))) ∧ (W.cell? ⟨Xz, 0, none⟩ = some (.int .i64 kz) ∧ W.cell? ⟨Xz, 1, none⟩ = some (.int .u64 (xz0 : Int)) ∧ W.cell? ⟨Xz, 2, none⟩ = some (.int .u64 (xz1 : Int)) ∧ W.cell? ⟨Xz, 3, none⟩ = some (.int .u64 (xz2 : Int)) ∧ W.cell? ⟨Xz, 4, none⟩ = some (.int .u64 (xz3 : Int)) ∧ W.cell? ⟨Xz, 5, none⟩ = some (.slice az nlz cz) ∧ W.cell? ⟨Xz, 6, none⟩ = some (.int .i64 mnz) ∧ W.cell? ⟨Xz, 7, none⟩ = some (.int .i64 mxz) ∧ W.cell? ⟨Xz, 8, none⟩ = some (.string (Str tz)))) (by kernel_rfl) (HSk.out _ n0) (fun hHeld => ?_)
    (refine wpAnyH_take (i := 0) (v := ?v0n1) (by simp only [List.getElem?_toArray, List.getElem?_cons_succ, List.getElem?_cons_zero]; rfl) (by kernel_rfl) (by kernel_rfl) (by kernel_rfl) (fun _ _ _ h => False.elim h) (Or.inl ⟨by rfl, ?hy0n1⟩) (by assumption) ?rest0n1; (case hy0n1 => (intro w hSw; (try dsimp only at hSw); go_simp; (try with_reducible rfl))); (try simp only [Act.put, List.setIfInBounds_toArray, List.set_cons_zero, List.set_cons_succ]))
    (refine wpAnyH_take (i := 1) (v := ?v1n2) (by simp only [List.getElem?_toArray, List.getElem?_cons_succ, List.getElem?_cons_zero]; rfl) (by kernel_rfl) (by kernel_rfl) (by kernel_rfl) (fun _ _ _ h => False.elim h) (Or.inl ⟨by rfl, ?hy1n2⟩) (by assumption) ?rest1n2; (case hy1n2 => (intro w hSw; (try dsimp only at hSw); go_simp; (try with_reducible rfl))); (try simp only [Act.put, List.setIfInBounds_toArray, List.set_cons_zero, List.set_cons_succ]))
    (refine wpAnyH_ready (rs := [2]) (by kernel_rfl) (by simp) ?_; refine AllReadyH.cons (o := _) (by simp only [List.getElem?_toArray, List.getElem?_cons_succ, List.getElem?_cons_zero]; rfl) (fun K hK => ?_) AllReadyH.nil; go_simp; ((with_reducible refine (C1.out _ n0).mono ?_); rintro e v1 ⟨rfl, hb1⟩; have n1 := n0.trans (hb1.mono n0.size)); refine hK.out _ _ (by exact HSk.out _ n1) (fun hHeld => ?_); clear hK K; (try simp only [Act.put, List.setIfInBounds_toArray, List.set_cons_zero, List.set_cons_succ]))
    (refine wpAnyH_take (i := 3) (v := ?v3n3) (by simp only [List.getElem?_toArray, List.getElem?_cons_succ, List.getElem?_cons_zero]; rfl) (by kernel_rfl) (by kernel_rfl) (by kernel_rfl) (fun _ _ _ h => False.elim h) (Or.inl ⟨by rfl, ?hy3n3⟩) (by assumption) ?rest3n3; (case hy3n3 => (intro w hSw; (try dsimp only at hSw); go_simp; (try with_reducible rfl))); (try simp only [Act.put, List.setIfInBounds_toArray, List.set_cons_zero, List.set_cons_succ]))
    (refine wpAnyH_take (i := 4) (v := ?v4n4) (by simp only [List.getElem?_toArray, List.getElem?_cons_succ, List.getElem?_cons_zero]; rfl) (by kernel_rfl) (by kernel_rfl) (by kernel_rfl) (fun _ _ _ h => False.elim h) (Or.inl ⟨by rfl, ?hy4n4⟩) (by assumption) ?rest4n4; (case hy4n4 => (intro w hSw; (try dsimp only at hSw); go_simp; (try with_reducible rfl))); (try simp only [Act.put, List.setIfInBounds_toArray, List.set_cons_zero, List.set_cons_succ]))
    (refine wpAnyH_take (i := 5) (v := ?v5n5) (by simp only [List.getElem?_toArray, List.getElem?_cons_succ, List.getElem?_cons_zero]; rfl) (by kernel_rfl) (by kernel_rfl) (by kernel_rfl) (fun _ _ _ h => False.elim h) (Or.inl ⟨by rfl, ?hy5n5⟩) (by assumption) ?rest5n5; (case hy5n5 => (intro w hSw; (try dsimp only at hSw); go_simp; (try with_reducible rfl))); (try simp only [Act.put, List.setIfInBounds_toArray, List.set_cons_zero, List.set_cons_succ]))
    (refine wpAnyH_ready (rs := [6]) (by kernel_rfl) (by simp) ?_; refine AllReadyH.cons (o := _) (by simp only [List.getElem?_toArray, List.getElem?_cons_succ, List.getElem?_cons_zero]; rfl) (fun K hK => ?_) AllReadyH.nil; go_simp; ((with_reducible refine (C2.out _ n1).mono ?_); rintro e v2 ⟨rfl, hb2⟩; have n2 := n1.trans (hb2.mono n1.size)); refine hK.out _ _ (by exact HSk.out _ n2) (fun hHeld => ?_); clear hK K; (try simp only [Act.put, List.setIfInBounds_toArray, List.set_cons_zero, List.set_cons_succ]))
    (refine wpAnyH_take (i := 7) (v := ?v7n6) (by simp only [List.getElem?_toArray, List.getElem?_cons_succ, List.getElem?_cons_zero]; rfl) (by kernel_rfl) (by kernel_rfl) (by kernel_rfl) (fun _ _ _ h => False.elim h) (Or.inl ⟨by rfl, ?hy7n6⟩) (by assumption) ?rest7n6; (case hy7n6 => (intro w hSw; (try dsimp only at hSw); go_simp; (try with_reducible rfl))); (try simp only [Act.put, List.setIfInBounds_toArray, List.set_cons_zero, List.set_cons_succ]))
    (refine wpAnyH_take (i := 8) (v := ?v8n7) (by simp only [List.getElem?_toArray, List.getElem?_cons_succ, List.getElem?_cons_zero]; rfl) (by kernel_rfl) (by kernel_rfl) (by kernel_rfl) (fun _ _ _ h => False.elim h) (Or.inl ⟨by rfl, ?hy8n7⟩) (by assumption) ?rest8n7; (case hy8n7 => (intro w hSw; (try dsimp only at hSw); go_simp; (try with_reducible rfl))); (try simp only [Act.put, List.setIfInBounds_toArray, List.set_cons_zero, List.set_cons_succ]))
    (refine wpAnyH_take (i := 9) (v := ?v9n8) (by simp only [List.getElem?_toArray, List.getElem?_cons_succ, List.getElem?_cons_zero]; rfl) (by kernel_rfl) (by kernel_rfl) (by kernel_rfl) (fun _ _ _ h => False.elim h) (Or.inl ⟨by rfl, ?hy9n8⟩) (by assumption) ?rest9n8; (case hy9n8 => (intro w hSw; (try dsimp only at hSw); go_simp; (try with_reducible rfl))); (try simp only [Act.put, List.setIfInBounds_toArray, List.set_cons_zero, List.set_cons_succ]))
    (refine wpAnyH_take (i := 11) (v := ?v11n9) (by simp only [List.getElem?_toArray, List.getElem?_cons_succ, List.getElem?_cons_zero]; rfl) (by kernel_rfl) (by kernel_rfl) (by kernel_rfl) (fun _ _ _ h => False.elim h) (Or.inl ⟨by rfl, ?hy11n9⟩) (by assumption) ?rest11n9; (case hy11n9 => (intro w hSw; (try dsimp only at hSw); go_simp; (try with_reducible rfl))); (try simp only [Act.put, List.setIfInBounds_toArray, List.set_cons_zero, List.set_cons_succ]))
    (refine wpAnyH_take (i := 12) (v := ?v12n10) (by simp only [List.getElem?_toArray, List.getElem?_cons_succ, List.getElem?_cons_zero]; rfl) (by kernel_rfl) (by kernel_rfl) (by kernel_rfl) (fun _ _ _ h => False.elim h) (Or.inl ⟨by rfl, ?hy12n10⟩) (by assumption) ?rest12n10; (case hy12n10 => (intro w hSw; (try dsimp only at hSw); go_simp; (try with_reducible rfl))); (try simp only [Act.put, List.setIfInBounds_toArray, List.set_cons_zero, List.set_cons_succ]))
    (refine wpAnyH_ready (rs := [10]) (by kernel_rfl) (by simp) ?_; refine AllReadyH.cons (o := _) (by simp only [List.getElem?_toArray, List.getElem?_cons_succ, List.getElem?_cons_zero]; rfl) (fun K hK => ?_) AllReadyH.nil; go_simp; ((with_reducible refine (C3.out _ n2).mono ?_); rintro e v3 ⟨rfl, hb3⟩; have n3 := n2.trans (hb3.mono n2.size)); refine hK.out _ _ (by exact HSk.out _ n3) (fun hHeld => ?_); clear hK K; (try simp only [Act.put, List.setIfInBounds_toArray, List.set_cons_zero, List.set_cons_succ]))
    (refine wpAnyH_ready (rs := [13]) (by kernel_rfl) (by simp) ?_; refine AllReadyH.cons (o := _) (by simp only [List.getElem?_toArray, List.getElem?_cons_succ, List.getElem?_cons_zero]; rfl) (fun K hK => ?_) AllReadyH.nil; go_simp; ((with_reducible refine (C4.out _ n3).mono ?_); rintro e v4 ⟨rfl, hb4⟩; have n4 := n3.trans (hb4.mono n3.size)); refine hK.out _ _ (by exact HSk.out _ n4) (fun hHeld => ?_); clear hK K; (try simp only [Act.put, List.setIfInBounds_toArray, List.set_cons_zero, List.set_cons_succ]))
    (refine wpAnyH_take (i := 14) (v := ?v14n11) (by simp only [List.getElem?_toArray, List.getElem?_cons_succ, List.getElem?_cons_zero]; rfl) (by kernel_rfl) (by kernel_rfl) (by kernel_rfl) (fun _ _ _ h => False.elim h) (Or.inl ⟨by rfl, ?hy14n11⟩) (by assumption) ?rest14n11; (case hy14n11 => (intro w hSw; (try dsimp only at hSw); go_simp; (try with_reducible rfl))); (try simp only [Act.put, List.setIfInBounds_toArray, List.set_cons_zero, List.set_cons_succ]))
    (refine wpAnyH_take (i := 15) (v := ?v15n12) (by simp only [List.getElem?_toArray, List.getElem?_cons_succ, List.getElem?_cons_zero]; rfl) (by kernel_rfl) (by kernel_rfl) (by kernel_rfl) (fun _ _ _ h => False.elim h) (Or.inl ⟨by rfl, ?hy15n12⟩) (by assumption) ?rest15n12; (case hy15n12 => (intro w hSw; (try dsimp only at hSw); go_simp; (try with_reducible rfl))); (try simp only [Act.put, List.setIfInBounds_toArray, List.set_cons_zero, List.set_cons_succ]))
    (refine wpAnyH_take (i := 16) (v := ?v16n13) (by simp only [List.getElem?_toArray, List.getElem?_cons_succ, List.getElem?_cons_zero]; rfl) (by kernel_rfl) (by kernel_rfl) (by kernel_rfl) (fun _ _ _ h => False.elim h) (Or.inl ⟨by rfl, ?hy16n13⟩) (by assumption) ?rest16n13; (case hy16n13 => (intro w hSw; (try dsimp only at hSw); go_simp; (try with_reducible rfl))); (try simp only [Act.put, List.setIfInBounds_toArray, List.set_cons_zero, List.set_cons_succ]))
    refine wpAnyH_done (by kernel_rfl) ?_ _
    refine NoPanic.normal ?_
    go_wp2
    go_ret
    exact ⟨by cases P <;> rfl, HFin.out.trans (n4.mono HFin.out.size)⟩
end Rx
end Go.Proofs.YtoeeddfinmfnoaaDoor
