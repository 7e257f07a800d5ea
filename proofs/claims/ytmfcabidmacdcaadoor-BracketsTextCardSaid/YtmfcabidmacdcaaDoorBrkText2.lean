/- dofferlaw06.BracketsText returns true. Condition: the table of TrailingZeros64 and the sentinels read as laid. -/
import Derived.Test.YtmfcabidmacdcaaDoorBrkTextR
namespace Go.Proofs.YtmfcabidmacdcaaDoor
open Go Go.RowKit Kt Sp St
namespace Bk
variable {w W W' : World}
set_option maxRecDepth 100000 in
theorem dot_c (w : World) : Calls Tryd.prog 18 #[] w fun e w' => ∃ rs, e = .returned (sv rs) ∧ IsSet rs (fun q => !decide (q = 10)) ∧ Below w.heap.size w w' := by
  have b1 := (Below.refl w.heap.size w).alloc (Nat.le_refl _) (.cells #[.int .u64 0, .int .u64 0, .int .u64 0, .int .u64 0] 25)
  have a1 : Ab (w.alloc (.cells #[.int .u64 0, .int .u64 0, .int .u64 0, .int .u64 0] 25)) w.heap.size 0 0 0 0 := heap_alloc_new w _
  have HO := Lib.hid (fun w => (show Calls Tryd.prog 21 #[.int .u8 10] w _ from St.one_c 10 (by omega) w))
  have HB1 := Lib.hid b1
  have HA1 := Lib.hid a1
  clear b1 a1
  go_enter Tryd.func18, Tryd.ntmps18
  go_wp2_with fail
  refine (HO.out _).mono ?_
  rintro e w2 ⟨rs, rfl, hset, hb2⟩
  obtain ⟨x0, x1, x2, x3, rfl⟩ := set_four hset
  have HN := Lib.hid (fun w => not_c [x0, x1, x2, x3] _ hset w)
  have HA2 := Lib.hid (HA1.out.below hb2)
  have HB2 := Lib.hid (HB1.out.trans (hb2.mono HB1.out.size))
  simp only [sv, vals, List.map_cons, List.map_nil] at HN ⊢
  clear hset hb2
  go_wp2_with fail
  refine (HN.out _).mono ?_
  rintro e w3 ⟨us, rfl, hu, hb3⟩
  obtain ⟨u0, u1, u2, u3, rfl⟩ := set_four hu
  have A3 := HA2.out.below hb3
  obtain ⟨⟨k0, k1, k2, k3⟩, f0, f1, f2, f3⟩ := A3.cells
  have HF := Lib.hid (A3.put u0 u1 u2 u3)
  have HB3 := Lib.hid (put4_below (HB2.out.trans (hb3.mono HB2.out.size)) (Nat.le_refl w.heap.size) u0 u1 u2 u3)
  have HU := Lib.hid hu
  try simp only [sv, vals, List.map_cons, List.map_nil]
  clear hu hb3 A3
  go_wp2
  ((try simp only [Exit.inBlock, Exit.then]); refine bodyPost_ret (results_cell_row rfl _ _ (w.heap.size) 25 _ (0, 0) _ rfl (HF.out) Tryd.underlying25 rfl ?hi1) rfl ?_; (case hi1 => kernel_rfl))
  exact ⟨[u0, u1, u2, u3], rfl, HU.out, HB3.out⟩
set_option maxHeartbeats 8000000 in
set_option maxRecDepth 100000 in
theorem texts_small (A : Nat → Addr) (x0 x1 x2 x3 : Nat) (f : Nat → Bool) (hset : IsSet [x0, x1, x2, x3] f) (la lb : List UInt8) (ha : la.length ≤ 100) (hb : lb.length ≤ 100) (w : World) (hT : Bt.Tab w) (hs : Sent 254 w A bks) :
    Calls Tryd.prog 4 #[.agg #[.int .u64 (x0 : Int), .int .u64 (x1 : Int), .int .u64 (x2 : Int), .int .u64 (x3 : Int)], .string (Str la), .string (Str lb)] w fun e w' => e = .returned (.bool true) ∧ Below w.heap.size w w' := by
  have sa := Str_size la
  have sb := Str_size lb
  have da : decide ((100 : Int) < (la.length : Int)) = false := by simp; omega
  have db : decide ((100 : Int) < (lb.length : Int)) = false := by simp; omega
  obtain ⟨t, ht⟩ : ∃ t, btx f = t := ⟨_, rfl⟩
  have htl := btx_len f
  obtain ⟨g, hg1, hg2⟩ := brd_btx la lb f
  rw [ht] at htl hg1
  have st := Str_size t
  have hrd : ∀ w, Sent 254 w A bks → Calls Tryd.prog 13 #[.string (Str (la ++ (t ++ lb))), .int .i64 (la.length : Int)] w (ReP A w (g, la.length + t.length, 0)) := fun w hs => by
    have h := read_at (A := A) (w := w) (s := Str (la ++ (t ++ lb))) (i := la.length) (by rw [Str_size]; simp; omega) hs
    rw [Str_toList, hg1] at h
    exact h
  have r1 := fun w => str_cat la t w (by omega)
  have r2 := fun w => str_cat (la ++ t) lb w (by rw [List.length_append]; omega)
  have hcat : la ++ t ++ lb = la ++ (t ++ lb) := List.append_assoc _ _ _
  rw [hcat] at r2
  have HRd := Lib.hid hrd
  have HTx := Lib.hid (fun w (hT : Bt.Tab w) => text_c x0 x1 x2 x3 f hset w hT)
  have HTr := Lib.hid (fun w => rtext_c x0 x1 x2 x3 f hset w)
  rw [ht] at HTx HTr
  have b1 := (Below.refl w.heap.size w).alloc (Nat.le_refl _) (.cells #[.int .u64 (x0 : Int), .int .u64 (x1 : Int), .int .u64 (x2 : Int), .int .u64 (x3 : Int)] 25)
  have a1 : Ab (w.alloc (.cells #[.int .u64 (x0 : Int), .int .u64 (x1 : Int), .int .u64 (x2 : Int), .int .u64 (x3 : Int)] 25)) w.heap.size x0 x1 x2 x3 := heap_alloc_new w _
  have HB1 := Lib.hid b1
  have HA1 := Lib.hid a1
  have HT := Lib.hid hT
  have HS := Lib.hid hs
  have HSet := Lib.hid hset
  have HG2 := Lib.hid hg2
  have he0 : evb A 0 = .nilIface := rfl
  clear b1 a1 hT hs hset hg1 hg2 hrd ht hcat
  go_enter Tryd.func4, Tryd.ntmps4
  go_wp2_with fail
  refine (alive_c A _ (HS.out.keep HB1.out)).mono ?_
  rintro e w2 ⟨rfl, hb2⟩
  have HA2 := Lib.hid (HA1.out.below hb2)
  have HB2 := Lib.hid (HB1.out.trans (hb2.mono HB1.out.size))
  obtain ⟨⟨k0, k1, k2, k3⟩, _, _, _, _⟩ := HA2.out.cells
  clear hb2
  go_wp2_with fail
  refine (HTx.out _ (HT.out.below HB2.out)).mono ?_
  rintro e w3 ⟨rfl, hb3⟩
  have HA3 := Lib.hid (HA2.out.below hb3)
  have HB3 := Lib.hid (HB2.out.trans (hb3.mono HB2.out.size))
  clear hb3 k0 k1 k2 k3
  go_wp2_with fail
  refine (HRd.out _ (HS.out.keep HB3.out)).mono ?_
  rintro e w4 ⟨rs, rfl, hset4, hb4⟩
  have hset4' : IsSet rs f := ⟨hset4.len, hset4.lt, fun q hq => by rw [hset4.at' q hq]; exact HG2.out q hq⟩
  obtain rfl := hset4'.unique HSet.out
  simp only [he0]
  have b5 := (Below.refl w4.heap.size w4).alloc (Nat.le_refl _) (.cells #[.int .u64 (x0 : Int), .int .u64 (x1 : Int), .int .u64 (x2 : Int), .int .u64 (x3 : Int)] 25)
  have HA5 := Lib.hid ((HA3.out.below hb4).below b5)
  have hB4 := HB3.out.trans (hb4.mono HB3.out.size)
  have HB5 := Lib.hid (hB4.trans (b5.mono hB4.size))
  have HC5 := Lib.hid (show Ab (w4.alloc (.cells #[.int .u64 (x0 : Int), .int .u64 (x1 : Int), .int .u64 (x2 : Int), .int .u64 (x3 : Int)] 25)) w4.heap.size x0 x1 x2 x3 from heap_alloc_new w4 _)
  obtain ⟨⟨k0, k1, k2, k3⟩, _, _, _, _⟩ := HA5.out.cells
  simp only [sv, vals, List.map_cons, List.map_nil]
  clear hset4 hset4' hb4 b5 hB4
  go_wp2_with fail
  refine (HTr.out _).mono ?_
  rintro e w6 ⟨rfl, hb6⟩
  obtain ⟨⟨k0, k1, k2, k3⟩, _, _, _, _⟩ := (HA5.out.below hb6).cells
  obtain ⟨⟨l0, l1, l2, l3⟩, _, _, _, _⟩ := (HC5.out.below hb6).cells
  have HB6 := Lib.hid (HB5.out.trans (hb6.mono HB5.out.size))
  have heq := eq_same x0 x1 x2 x3
  clear hb6
  go_wp2_with fail
  refine (dot_c _).mono ?_
  rintro e w7 ⟨ds, rfl, hd, hb7⟩
  have HB7 := Lib.hid (HB6.out.trans (hb7.mono HB6.out.size))
  obtain ⟨d0, d1, d2, d3, rfl⟩ := set_four hd
  have HD := Lib.hid hd
  simp only [sv, vals, List.map_cons, List.map_nil]
  clear hd hb7 heq k0 k1 k2 k3 l0 l1 l2 l3
  go_wp2_with fail
  refine (rspan_all _).mono ?_
  rintro e w8 ⟨fs, rfl, has, hb8⟩
  have HB8 := Lib.hid (HB7.out.trans (hb8.mono HB7.out.size))
  obtain ⟨a0, a1, a2, a3, rfl⟩ := set_four has
  have HAs := Lib.hid has
  simp only [sv, vals, List.map_cons, List.map_nil]
  clear has hb8
  go_wp2_with fail
  refine (rspan_line _).mono ?_
  rintro e w9 ⟨bs, rfl, hbs, hb9⟩
  have HB9 := Lib.hid (HB8.out.trans (hb9.mono HB8.out.size))
  obtain ⟨b0, b1, b2, b3, rfl⟩ := set_four hbs
  have HM := Lib.hid (fun w => minus_r a0 a1 a2 a3 b0 b1 b2 b3 _ _ HAs.out hbs w)
  simp only [sv, vals, List.map_cons, List.map_nil] at HM ⊢
  clear hbs hb9
  go_wp2_with fail
  refine (HM.out _).mono ?_
  rintro e w10 ⟨ms, rfl, hms, hb10⟩
  have HB10 := Lib.hid (HB9.out.trans (hb10.mono HB9.out.size))
  have hms' : IsSet ms (fun q => !decide (q = 10)) := ⟨hms.len, hms.lt, fun q hq => by
    rw [hms.at' q hq, Bool.eq_iff_iff]
    simp [bf]
    omega⟩
  obtain rfl := hms'.unique HD.out
  have heq := eq_same d0 d1 d2 d3
  simp only [List.map_cons, List.map_nil]
  clear hms hms' hb10
  go_wp2
  go_ret
  exact ⟨by first | rfl | simp, HB10.out⟩
set_option maxHeartbeats 2000000 in
set_option maxRecDepth 100000 in
theorem texts_c (A : Nat → Addr) (ws : List Nat) (hset : IsSet ws (Mk.has ws)) (a b : ByteArray) (w : World) (hT : Bt.Tab w) (hs : Sent 254 w A bks) :
    Calls Tryd.prog 4 #[sv ws, .string a, .string b] w fun e w' => e = .returned (.bool true) ∧ Below w.heap.size w w' := by
  obtain ⟨⟨la⟩⟩ := a
  obtain ⟨⟨lb⟩⟩ := b
  obtain ⟨x0, x1, x2, x3, rfl⟩ := set_four hset
  show Calls Tryd.prog 4 #[.agg #[.int .u64 (x0 : Int), .int .u64 (x1 : Int), .int .u64 (x2 : Int), .int .u64 (x3 : Int)], .string (Str la), .string (Str lb)] w _
  by_cases ha : la.length ≤ 100
  · by_cases hb : lb.length ≤ 100
    · exact texts_small A x0 x1 x2 x3 _ hset la lb ha hb w hT hs
    · have sa := Str_size la
      have sb := Str_size lb
      have da : decide ((100 : Int) < (la.length : Int)) = false := by simp; omega
      have db : decide ((100 : Int) < (lb.length : Int)) = true := by simp; omega
      have HB1 := Lib.hid ((Below.refl w.heap.size w).alloc (Nat.le_refl _) (.cells #[.int .u64 (x0 : Int), .int .u64 (x1 : Int), .int .u64 (x2 : Int), .int .u64 (x3 : Int)] 25))
      have HS := Lib.hid hs
      clear hset hT hs ha hb
      go_enter Tryd.func4, Tryd.ntmps4
      go_wp2_with fail
      refine (alive_c A _ (HS.out.keep HB1.out)).mono ?_
      rintro e w2 ⟨rfl, hb2⟩
      go_wp2
      go_ret
      exact ⟨rfl, HB1.out.trans (hb2.mono HB1.out.size)⟩
  · have sa := Str_size la
    have da : decide ((100 : Int) < (la.length : Int)) = true := by simp; omega
    have HB1 := Lib.hid ((Below.refl w.heap.size w).alloc (Nat.le_refl _) (.cells #[.int .u64 (x0 : Int), .int .u64 (x1 : Int), .int .u64 (x2 : Int), .int .u64 (x3 : Int)] 25))
    have HS := Lib.hid hs
    clear hset hT hs ha
    go_enter Tryd.func4, Tryd.ntmps4
    go_wp2_with fail
    refine (alive_c A _ (HS.out.keep HB1.out)).mono ?_
    rintro e w2 ⟨rfl, hb2⟩
    go_wp2
    go_ret
    exact ⟨rfl, HB1.out.trans (hb2.mono HB1.out.size)⟩
end Bk
end Go.Proofs.YtmfcabidmacdcaaDoor
