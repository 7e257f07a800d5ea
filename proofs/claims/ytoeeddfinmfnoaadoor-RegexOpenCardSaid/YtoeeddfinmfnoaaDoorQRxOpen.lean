import Derived.Test.YtoeeddfinmfnoaaDoorQRxAlive
import Derived.Test.YtoeeddfinmfnoaaDoorQRxGood
import Derived.Test.YtoeeddfinmfnoaaDoorQTreeSs
/- The law RegexOpen's walk. Condition: the sentinels read as laid. -/
namespace Go.Proofs.YtoeeddfinmfnoaaDoor
namespace Kt
end Kt
namespace Sp
end Sp
namespace St
end St
namespace Bk
end Bk
namespace Bo
end Bo
namespace Tr
end Tr
open Go Go.RowKit Kt Sp St Bk Bo Tr
namespace Rx
/-- A right tree's texts are short. -/
theorem rgt_tl {n : Nd} (h : Tr.rgt n = true) : ∀ x ∈ Tr.walk n, x.1.text.length ≤ 50 := by
  intro x hx
  unfold Tr.rgt at h
  simp only [Bool.and_eq_true, List.all_eq_true] at h
  have h1 := (h.2 x hx).2
  unfold Tr.one Tr.bare at h1
  simp only [Bool.and_eq_true, Bool.or_eq_true, decide_eq_true_eq] at h1
  rcases h1.1.2 with h2 | h2
  · rw [h2]; simp
  · have h3 := h1.2
    rw [if_neg (by omega), if_neg (by omega), if_neg (by omega), if_neg (by omega)] at h3
    simp only [Bool.and_eq_true] at h3
    have := Ac.nm_len h3.2
    omega
theorem rgt_tl63 {n : Nd} (h : Tr.rgt n = true) : ∀ x ∈ Tr.walk n, x.1.text.length ≤ 9223372036854775807 := fun x hx => by have := rgt_tl h x hx; omega
set_option maxRecDepth 100000 in
set_option maxHeartbeats 4000000 in
theorem open_c (s : ByteArray) (A : Nat → Addr) (w : World) (hs : Sent 204 w A Er.egs) : Calls Tryd.prog 5 #[.string s] w fun e w' => e = .returned (.bool true) ∧ Below w.heap.size w w' := by
  have hal := alive_c A w hs
  have hsz : s.data.toList.length = s.size := size_list s
  have c1 : s.size ≤ 700 → ∀ W, Below w.heap.size w W → Calls Tryd.prog 19 #[.string s] W (PaP W A (parse s.data.toList)) := fun h W hb => parse_c s (by omega) A W (hs.keep hb)
  have hd2 : (⟨#[40]⟩ ++ s ++ ⟨#[41]⟩ : ByteArray).data.toList = [40] ++ s.data.toList ++ [41] := by simp [ByteArray.data_append]
  have hd3 : (⟨#[40]⟩ ++ s : ByteArray).data.toList = [40] ++ s.data.toList ++ [] := by simp [ByteArray.data_append]
  have hn := Er.num_at A 4 2 1 (by omega) rfl rfl
  have c2 : s.size ≤ 700 → ∀ W, Below w.heap.size w W → Calls Tryd.prog 19 #[.string (⟨#[40]⟩ ++ s ++ ⟨#[41]⟩)] W (PaP W A (parse ([40] ++ s.data.toList ++ [41]))) := fun h W hb => by
    have := parse_c (⟨#[40]⟩ ++ s ++ ⟨#[41]⟩) (by simp [ByteArray.size_append]; change 1 + s.size + 1 ≤ _; omega) A W (hs.keep hb)
    rw [hd2] at this
    exact this
  have c3 : s.size ≤ 700 → ∀ W, Below w.heap.size w W → Calls Tryd.prog 19 #[.string (⟨#[40]⟩ ++ s)] W (PaP W A (parse ([40] ++ s.data.toList ++ []))) := fun h W hb => by
    have := parse_c (⟨#[40]⟩ ++ s) (by simp [ByteArray.size_append]; change 1 + s.size ≤ _; omega) A W (hs.keep hb)
    rw [hd3] at this
    exact this
  have hp := parse_open (t := s.data.toList)
  have hg := parse_rgt (t := s.data.toList)
  obtain ⟨r, hr⟩ : ∃ r, parse s.data.toList = r := ⟨_, rfl⟩
  rw [hr] at c1 hp hg
  rw [hsz] at hp
  obtain ⟨n1, q1, g1⟩ := r
  simp only at hp hg
  have HA := Lib.hid hal
  have HC1 := Lib.hid c1
  have HC2 := Lib.hid c2
  have HC3 := Lib.hid c3
  have HP := Lib.hid hp
  have HG := Lib.hid hg
  have HN := Lib.hid hn
  have HS := Lib.hid hs
  clear hal hsz c1 c2 c3 hp hg hn hs hd2 hd3 hr
  obtain ⟨z, hz⟩ : ∃ z, s.size = z := ⟨_, rfl⟩
  rw [hz] at HC1 HC2 HC3 HP
  go_enter Tryd.func5, Tryd.ntmps5
  go_wp2_with fail
  with_reducible refine HA.out.mono ?_
  rintro e w1 ⟨rfl, hb1⟩
  have HB1 := Lib.hid hb1
  clear hb1
  by_cases h700 : 700 < z
  · have g7 : (700 : Int) < (z : Int) := by omega
    go_wp2
    go_ret
    exact ⟨rfl, HB1.out⟩
  have g7 : ¬ (700 : Int) < (z : Int) := by omega
  have d1 := HC1.out (by omega)
  have d2 := HC2.out (by omega)
  have d3 := HC3.out (by omega)
  have HD1 := Lib.hid d1
  have HD2 := Lib.hid d2
  have HD3 := Lib.hid d3
  clear d1 d2 d3 HC1 HC2 HC3
  go_wp2_with fail
  with_reducible refine (HD1.out w1 HB1.out).mono ?_
  rintro e w2 ⟨m1, rfl, hme1, hI1, hb1, hB2⟩
  have hB2' := HB1.out.trans (hB2.mono HB1.out.size)
  obtain ⟨x0, x1, x2, x3, hs4⟩ := four hI1.len
  obtain ⟨k, sx, mn, mx, t, a, c, ks⟩ := m1
  simp only [Nd.set] at hs4
  subst hs4
  obtain ⟨nl, hnl⟩ : ∃ nl, ks.length = nl := ⟨_, rfl⟩
  have hnv : nv (.mk k [x0, x1, x2, x3] mn mx t a c ks) = .agg #[.int .i64 k, .int .u64 (x0 : Int), .int .u64 (x1 : Int), .int .u64 (x2 : Int), .int .u64 (x3 : Int), .slice a nl c, .int .i64 mn, .int .i64 mx, .string (Str t)] := by rw [← hnl]; rfl
  rw [hnv]
  obtain ⟨W3, hW3⟩ : ∃ x, w2.alloc (.cells #[.int .i64 k, .int .u64 (x0 : Int), .int .u64 (x1 : Int), .int .u64 (x2 : Int), .int .u64 (x3 : Int), .slice a nl c, .int .i64 mn, .int .i64 mx, .string (Str t)] 27) = x := ⟨_, rfl⟩
  have b3 : Below w2.heap.size w2 W3 := by rw [← hW3]; exact (Below.refl _ _).alloc (Nat.le_refl _) _
  have s3 : W3.heap[w2.heap.size]? = some (.cells #[.int .i64 k, .int .u64 (x0 : Int), .int .u64 (x1 : Int), .int .u64 (x2 : Int), .int .u64 (x3 : Int), .slice a nl c, .int .i64 mn, .int .i64 mx, .string (Str t)] 27 (0, 0)) := by rw [← hW3]; exact World.alloc_heap_new _ _
  have hB3 := hB2'.trans (b3.mono hB2'.size)
  obtain ⟨X1, hX1⟩ : ∃ X, w2.heap.size = X := ⟨_, rfl⟩
  rw [hX1] at s3
  have HW3 := Lib.hid (And.intro hW3 hX1)
  have HB3 := Lib.hid hB3
  have HS3 := Lib.hid s3
  have HI := Lib.hid (Is.mono b3.size (Is.below b3 hI1))
  have HMe := Lib.hid hme1
  have HNv := Lib.hid hnv
  clear hW3 b3 s3 hB3 hB2 hB2' hI1 hb1 hme1 hnv hnl
  by_cases hg : g1 = 0
  rotate_left
  · obtain ⟨ae, hE⟩ := ee_some A hg
    rw [show ((n1, q1, g1).2.2 : Nat) = g1 from rfl, hE]
    go_upto_region 6 with (fail)
    try rw [HW3.out.1]
    clear hX1
    go_wp2
    go_ret
    exact ⟨rfl, HB3.out⟩
  subst hg
  have hp := HP.out rfl
  rw [show ee A (((n1, q1, (0 : Nat)).2.2 : Nat) : Int) = .nilIface from rfl]
  go_upto_region 6 with (fail)
  try rw [HW3.out.1]
  try rw [HW3.out.2]
  clear hX1
  go_wp2_with fail
  have d2 := HD2.out W3 HB3.out
  rw [hp.1] at d2
  with_reducible refine d2.mono ?_
  clear d2
  rintro e w4 ⟨m2, rfl, hme2, hI2, _, hB4⟩
  have hB4' := HB3.out.trans (hB4.mono HB3.out.size)
  obtain ⟨y0, y1, y2, y3, hs4⟩ := four hI2.len
  obtain ⟨k', sx, mn', mx', t', a', c', ks'⟩ := m2
  simp only [Nd.set] at hs4
  subst hs4
  obtain ⟨nl', hnl⟩ : ∃ nl, ks'.length = nl := ⟨_, rfl⟩
  have hnv : nv (.mk k' [y0, y1, y2, y3] mn' mx' t' a' c' ks') = .agg #[.int .i64 k', .int .u64 (y0 : Int), .int .u64 (y1 : Int), .int .u64 (y2 : Int), .int .u64 (y3 : Int), .slice a' nl' c', .int .i64 mn', .int .i64 mx', .string (Str t')] := by rw [← hnl]; rfl
  rw [hnv]
  obtain ⟨W5, hW5⟩ : ∃ x, w4.alloc (.cells #[.int .i64 k', .int .u64 (y0 : Int), .int .u64 (y1 : Int), .int .u64 (y2 : Int), .int .u64 (y3 : Int), .slice a' nl' c', .int .i64 mn', .int .i64 mx', .string (Str t')] 27) = x := ⟨_, rfl⟩
  have b5 : Below w4.heap.size w4 W5 := by rw [← hW5]; exact (Below.refl _ _).alloc (Nat.le_refl _) _
  have s5 : W5.heap[w4.heap.size]? = some (.cells #[.int .i64 k', .int .u64 (y0 : Int), .int .u64 (y1 : Int), .int .u64 (y2 : Int), .int .u64 (y3 : Int), .slice a' nl' c', .int .i64 mn', .int .i64 mx', .string (Str t')] 27 (0, 0)) := by rw [← hW5]; exact World.alloc_heap_new _ _
  have hB35 := hB4.trans (b5.mono hB4.size)
  have hB5 := HB3.out.trans (hB35.mono HB3.out.size)
  have s35 : W5.heap[X1]? = _ := (hB35.block X1 (block_lt HS3.out)).trans HS3.out
  have hI1' := Is.mono hB35.size (Is.below hB35 HI.out)
  have hI2' := Is.mono b5.size (Is.below b5 hI2)
  have hr1 : rgt (.mk k [x0, x1, x2, x3] mn mx t a c ks) = true := by
    rw [← er_rgt, HMe.out]
    exact HG.out (by first | rfl | trivial)
  have hr2 : rgt (.mk k' [y0, y1, y2, y3] mn' mx' t' a' c' ks') = true := by
    rw [← er_rgt, hme2]
    exact HG.out (by first | rfl | trivial)
  have hsm := Same_c _ _ (rgt_tl63 hr1) (rgt_tl63 hr2) W5 hI1' hI2'
  rw [hr1, hr2, (sm_iff _ _).2 (by rw [HMe.out, hme2]), HNv.out, hnv] at hsm
  obtain ⟨p0, p1, p2, p3, p4, p5, p6, p7, p8⟩ := nd_cells s35
  obtain ⟨r0, r1, r2, r3, r4, r5, r6, r7, r8⟩ := nd_cells s5
  obtain ⟨X2, hX2⟩ : ∃ X, w4.heap.size = X := ⟨_, rfl⟩
  rw [hX2] at r0 r1 r2 r3 r4 r5 r6 r7 r8
  have HW5 := Lib.hid (And.intro hW5 hX2)
  have HB5 := Lib.hid hB5
  have HSm := Lib.hid hsm
  have HP2 := Lib.hid hp.2
  rw [show ee A (((n1, z + 2, (0 : Nat)).2.2 : Nat) : Int) = .nilIface from rfl, show (((n1, z + 2, (0 : Nat)).2.1 : Nat) : Int) = (z : Int) + 2 from by simp]
  have hz2 : (z : Int) ≤ 700 := by omega
  clear hW5 b5 s5 hB35 hB5 s35 hI1' hI2' hr1 hr2 hsm hp hB4 hB4' hI2 hme2 hnv hnl
  go_upto_region 9 with (fail)
  try rw [HW5.out.1]
  try rw [HW5.out.2]
  clear hX2
  go_wp2_with fail
  with_reducible refine HSm.out.mono ?_
  rintro e w6 ⟨rfl, hb6⟩
  have hB6 := HB5.out.trans (hb6.mono HB5.out.size)
  have HB6 := Lib.hid hB6
  clear hb6 hB6 p0 p1 p2 p3 p4 p5 p6 p7 p8 r0 r1 r2 r3 r4 r5 r6 r7 r8
  go_wp2_with fail
  with_reducible refine (HD3.out w6 HB6.out).mono ?_
  rintro e w7 ⟨m3, rfl, _, _, _, hB7⟩
  have hB7' := HB6.out.trans (hB7.mono HB6.out.size)
  rw [HP2.out, show ee A ((((z + 1, 2) : Nat × Nat).2 : Nat) : Int) = Er.ev A 4 from rfl, show ((((z + 1, 2) : Nat × Nat).1 : Nat) : Int) = (z : Int) + 1 from by simp]
  have HB7 := Lib.hid hB7'
  obtain ⟨V3, hV3⟩ : ∃ V, nv m3 = V := ⟨_, rfl⟩
  rw [hV3]
  have hn := HN.out w7 (HS.out.keep hB7')
  clear hB7 hB7' hV3
  go_wp2_with fail
  with_reducible refine hn.mono ?_
  clear hn
  rintro e w8 ⟨rfl, hb8⟩
  have hB8 := HB7.out.trans (hb8.mono HB7.out.size)
  have HB8 := Lib.hid hB8
  clear hb8 hB8
  go_wp2
  go_ret
  exact ⟨rfl, HB8.out⟩
end Rx
end Go.Proofs.YtoeeddfinmfnoaaDoor
