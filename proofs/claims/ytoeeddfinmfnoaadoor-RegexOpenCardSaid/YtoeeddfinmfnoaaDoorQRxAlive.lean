import Derived.Test.YtoeeddfinmfnoaaDoorQRxParse
/- The law's alive: the chapter's examples are read. Condition: the sentinels read as laid. -/
namespace Go.Proofs.YtoeeddfinmfnoaaDoor
namespace Kt
end Kt
namespace Sp
end Sp
namespace St
end St
namespace Bk
end Bk
namespace Bo
end Bo
namespace Tr
end Tr
open Go Go.RowKit Kt Sp St Bk Bo Tr
namespace Rx
theorem ex1 : (parse [97, 124, 98, 42]).2.2 = 0 ∧ (parse [97, 124, 98, 42]).1.kind = 3 ∧ (parse [97, 124, 98, 42]).1.kids.length = 2 := ⟨rfl, rfl, rfl⟩
theorem ex2 : (parse [97, 42, 42]).2.2 = 0 ∧ (parse [97, 42, 42]).1.kind = 4 ∧ (parse [97, 42, 42]).1.kids.length = 1 ∧ ((parse [97, 42, 42]).1.kids.headD default).kind = 4 := ⟨rfl, rfl, rfl, rfl⟩
set_option maxRecDepth 100000 in
set_option maxHeartbeats 4000000 in
theorem alive_c (A : Nat → Addr) (w : World) (hs : Sent 204 w A Er.egs) : Calls Tryd.prog 12 #[] w fun e w' => e = .returned (.bool true) ∧ Below w.heap.size w w' := by
  have c1 := parse_c ⟨#[97, 124, 98, 42]⟩ (by decide) A w hs
  have c2 : ∀ V, Below w.heap.size w V → Calls Tryd.prog 19 #[.string ⟨#[97, 42, 42]⟩] V (PaP V A (parse [97, 42, 42])) := fun V hV => parse_c ⟨#[97, 42, 42]⟩ (by decide) A V (hs.keep hV)
  have x1 := ex1
  have x2 := ex2
  rw [show (⟨#[97, 124, 98, 42]⟩ : ByteArray).data.toList = [97, 124, 98, 42] from rfl] at c1
  obtain ⟨r1, hr1⟩ : ∃ r, parse [97, 124, 98, 42] = r := ⟨_, rfl⟩
  obtain ⟨r2, hr2⟩ : ∃ r, parse [97, 42, 42] = r := ⟨_, rfl⟩
  rw [hr1] at c1 x1
  rw [hr2] at c2 x2
  obtain ⟨n1, q1, g1⟩ := r1
  obtain ⟨n2, q2, g2⟩ := r2
  simp only at x1 x2
  obtain ⟨rfl, k1, l1⟩ := x1
  obtain ⟨rfl, k2, l2, d2⟩ := x2
  have HC1 := Lib.hid c1
  have HC2 := Lib.hid c2
  have HX := Lib.hid (And.intro k1 (And.intro l1 (And.intro k2 (And.intro l2 d2))))
  clear c1 c2 hr1 hr2 k1 l1 k2 l2 d2 hs
  go_enter Tryd.func12, Tryd.ntmps12
  go_wp2_with fail
  refine HC1.out.mono ?_
  rintro _ w1 ⟨m1, rfl, hme1, hI1, hb1, hB1⟩
  have hk1 : m1.kind = 3 ∧ m1.kids.length = 2 := by
    have h1 := HX.out.1
    have h2 := HX.out.2.1
    simp only at hme1
    rw [← hme1] at h1 h2
    rw [er_kind] at h1
    obtain ⟨k, sx, mn, mx, t, a, c, ks⟩ := m1
    simp only [er, Nd.kids, ers_len] at h2 ⊢
    exact ⟨h1, h2⟩
  obtain ⟨x0, x1, x2, x3, hs4⟩ := four hI1.len
  obtain ⟨k, sx, mn, mx, t, a, c, ks⟩ := m1
  simp only [Nd.set, Nd.kind, Nd.kids] at hs4 hk1
  obtain ⟨hk0, hk2⟩ := hk1
  subst hs4 hk0
  have hnv : nv (.mk 3 [x0, x1, x2, x3] mn mx t a c ks) = .agg #[.int .i64 3, .int .u64 (x0 : Int), .int .u64 (x1 : Int), .int .u64 (x2 : Int), .int .u64 (x3 : Int), .slice a 2 c, .int .i64 mn, .int .i64 mx, .string (Str t)] := by rw [← hk2]; rfl
  rw [hnv]
  have hev : ee A (((n1, q1, (0 : Nat)).2.2 : Nat) : Int) = .nilIface := rfl
  rw [hev]
  clear hnv hev hme1 hI1 hb1 hk2
  obtain ⟨W2, hW2⟩ : ∃ x, w1.alloc (.cells #[.int .i64 3, .int .u64 (x0 : Int), .int .u64 (x1 : Int), .int .u64 (x2 : Int), .int .u64 (x3 : Int), .slice a 2 c, .int .i64 mn, .int .i64 mx, .string (Str t)] 27) = x := ⟨_, rfl⟩
  have b2 : Below w1.heap.size w1 W2 := by rw [← hW2]; exact (Below.refl _ _).alloc (Nat.le_refl _) _
  have s2 : W2.heap[w1.heap.size]? = some (.cells #[.int .i64 3, .int .u64 (x0 : Int), .int .u64 (x1 : Int), .int .u64 (x2 : Int), .int .u64 (x3 : Int), .slice a 2 c, .int .i64 mn, .int .i64 mx, .string (Str t)] 27 (0, 0)) := by rw [← hW2]; exact World.alloc_heap_new _ _
  have hB2 := hB1.trans (b2.mono hB1.size)
  obtain ⟨X1, hX1⟩ : ∃ X, w1.heap.size = X := ⟨_, rfl⟩
  rw [hX1] at s2
  have HW2 := Lib.hid (And.intro hW2 hX1)
  have HB2 := Lib.hid hB2
  have HS2 := Lib.hid s2
  clear hW2 b2 s2 hB2 hB1
  go_upto_region 2 with (fail)
  try rw [HW2.out.1]
  try rw [HW2.out.2]
  clear hX1
  go_wp2_with fail
  refine (HC2.out W2 HB2.out).mono ?_
  rintro _ w3 ⟨m2, rfl, hme2, hI2, hb2, hB3⟩
  have hk2 : m2.kind = 4 ∧ ∃ q, m2.kids = [q] ∧ q.kind = 4 := by
    have h1 := HX.out.2.2.1
    have h2 := HX.out.2.2.2.1
    have h3 := HX.out.2.2.2.2
    simp only at hme2
    rw [← hme2] at h1 h2 h3
    rw [er_kind] at h1
    obtain ⟨k, sx, mn, mx, t, a, c, ks⟩ := m2
    simp only [er, Nd.kids, ers_len] at h2 h3 ⊢
    obtain ⟨q, rfl⟩ := List.length_eq_one_iff.1 h2
    refine ⟨h1, q, rfl, ?_⟩
    rw [ers_map] at h3
    simp only [List.map_cons, List.headD_cons] at h3
    rw [er_kind] at h3
    exact h3
  obtain ⟨y0, y1, y2, y3, hs4⟩ := four hI2.len
  obtain ⟨k2, sx2, mn2, mx2, t2, a2, c2, ks2⟩ := m2
  simp only [Nd.set, Nd.kind, Nd.kids] at hs4 hk2
  obtain ⟨hk0, q, rfl, hqk⟩ := hk2
  subst hs4 hk0
  obtain ⟨_, _, _, _, hrd, _, _⟩ := hI2
  obtain ⟨g, o, ha2, hc2⟩ := hrd 0 (.int .i64 q.kind) (by obtain ⟨k9, s9, mn9, mx9, t9, a9, c9, ks9⟩ := q; rfl)
  rw [show q.kind = 4 from hqk, Nat.add_zero] at hc2
  subst ha2
  have hnv : nv (.mk 4 [y0, y1, y2, y3] mn2 mx2 t2 (some ⟨g, o, none⟩) c2 [q]) = .agg #[.int .i64 4, .int .u64 (y0 : Int), .int .u64 (y1 : Int), .int .u64 (y2 : Int), .int .u64 (y3 : Int), .slice (some ⟨g, o, none⟩) 1 c2, .int .i64 mn2, .int .i64 mx2, .string (Str t2)] := rfl
  rw [hnv]
  have hev : ee A (((n2, q2, (0 : Nat)).2.2 : Nat) : Int) = .nilIface := rfl
  rw [hev]
  obtain ⟨W4, hW4⟩ : ∃ x, w3.alloc (.cells #[.int .i64 4, .int .u64 (y0 : Int), .int .u64 (y1 : Int), .int .u64 (y2 : Int), .int .u64 (y3 : Int), .slice (some ⟨g, o, none⟩) 1 c2, .int .i64 mn2, .int .i64 mx2, .string (Str t2)] 27) = x := ⟨_, rfl⟩
  have b4 : Below w3.heap.size w3 W4 := by rw [← hW4]; exact (Below.refl _ _).alloc (Nat.le_refl _) _
  have s4 : W4.heap[w3.heap.size]? = some (.cells #[.int .i64 4, .int .u64 (y0 : Int), .int .u64 (y1 : Int), .int .u64 (y2 : Int), .int .u64 (y3 : Int), .slice (some ⟨g, o, none⟩) 1 c2, .int .i64 mn2, .int .i64 mx2, .string (Str t2)] 27 (0, 0)) := by rw [← hW4]; exact World.alloc_heap_new _ _
  have hB4 := HB2.out.trans ((hB3.trans (b4.mono hB3.size)).mono HB2.out.size)
  have s2' : W4.heap[X1]? = _ := ((hB3.trans (b4.mono hB3.size)).block X1 (block_lt HS2.out)).trans HS2.out
  obtain ⟨e0, _, _, _, _, e5, _, _, _⟩ := nd_cells s2'
  obtain ⟨f0, _, _, _, _, f5, _, _, _⟩ := nd_cells s4
  have hc4 := (b4.cell (p := ⟨g, o, none⟩) (lt_of_cell hc2)).trans hc2
  obtain ⟨X2, hX2⟩ : ∃ X, w3.heap.size = X := ⟨_, rfl⟩
  rw [hX2] at f0 f5
  have HW4 := Lib.hid (And.intro hW4 hX2)
  have HB4 := Lib.hid hB4
  clear hnv hev hme2 hb2 hW4 b4 s4 hB4 s2' hrd hqk hc2 hB3
  go_upto_region 3 with (fail)
  try rw [HW4.out.1]
  try rw [HW4.out.2]
  clear hX2
  go_wp2
  go_ret
  exact ⟨by first | rfl | (simp; done), HB4.out⟩
end Rx
end Go.Proofs.YtoeeddfinmfnoaaDoor
