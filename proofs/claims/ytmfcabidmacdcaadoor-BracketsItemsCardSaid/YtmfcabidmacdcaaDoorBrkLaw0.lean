/- dofferlaw06: the chapter's example, and BracketsRead. Condition: the sentinels read as laid. -/
import Derived.Test.YtmfcabidmacdcaaDoorBrkRead3
import Derived.Test.YtmfcabidmacdcaaDoorBrkRef2
import Derived.Test.YtmfcabidmacdcaaDoorSets5
import Derived.Test.YtmfcabidmacdcaaDoorSets6
namespace Go.Proofs.YtmfcabidmacdcaaDoor
open Go Go.RowKit Kt Sp St
namespace Bk
theorem num_b (A : Nat → Addr) (g : Nat) (hg : g = 0 ∨ g = 1 ∨ g = 2 ∨ g = 4) (w : World) (hs : Sent 254 w A Er.egs) :
    Calls Tryd.prog 15 #[evb A g] w fun e w' => e = .returned (.int .i64 (g : Int)) ∧ Below w.heap.size w w' := by
  rcases hg with rfl | rfl | rfl | rfl
  · exact (Er.num_nil w).mono fun _ _ ⟨h1, h2⟩ => ⟨h1, h2 ▸ Below.refl _ _⟩
  · exact Er.num_at A 0 1 0 (by omega) (by decide) (by omega) w hs
  · exact Er.num_at A 1 2 1 (by omega) (by decide) (by omega) w hs
  · exact Er.num_at A 3 4 3 (by omega) (by decide) (by omega) w hs
/-- What both Reads answer. -/
theorem reads (A : Nat → Addr) (s : ByteArray) (i : Int) (hsz : s.size ≤ 1000000) : ∃ r : (Nat → Bool) × Nat × Nat, (r.2.2 = 0 ∨ r.2.2 = 1 ∨ r.2.2 = 2 ∨ r.2.2 = 4) ∧
    (∀ w, Sent 254 w A bks → Calls Tryd.prog 13 #[.string s, .int .i64 i] w (ReP A w r)) ∧
    (∀ w, Calls Tryd.prog 14 #[.string s, .int .i64 i] w (RfP w r)) := by
  by_cases h : i < 0
  · exact ⟨(none', s.size, 2), by simp, fun w hs => read_neg i h hs, fun w => rread_end s i w (.inl h)⟩
  · obtain ⟨n, rfl⟩ : ∃ n : Nat, i = (n : Int) := ⟨i.toNat, by omega⟩
    have hg : (brd s.data.toList n).2.2 = 0 ∨ (brd s.data.toList n).2.2 = 1 ∨ (brd s.data.toList n).2.2 = 2 ∨ (brd s.data.toList n).2.2 = 4 := by
      by_cases h1 : n ≤ s.data.toList.length
      · exact (brd_go _ _ h1).2
      · unfold brd; rw [if_pos (by omega)]; simp
    exact ⟨brd s.data.toList n, hg, fun w hs => read_at hsz hs, fun w => rread_at s n w hsz⟩
theorem brd_ex : (brd [91, 97, 45, 99, 92, 110, 93] 0).2 = (7, 0) ∧ ((List.range 256).filter (brd [91, 97, 45, 99, 92, 110, 93] 0).1).length = 4 := by decide +kernel
theorem all_is {ws : List Nat} {f : Nat → Bool} (h : IsSet ws f) : Mk.all ws = (List.range 256).filter f := by
  unfold Mk.all
  rw [h.len]
  exact List.filter_congr fun q hq => h.at' q (by simpa using hq)
set_option maxHeartbeats 1000000 in
set_option maxRecDepth 100000 in
theorem alive_c (A : Nat → Addr) (w : World) (hs : Sent 254 w A bks) : Calls Tryd.prog 12 #[] w fun e w' => e = .returned (.bool true) ∧ Below w.heap.size w w' := by
  obtain ⟨e1, e2⟩ := brd_ex
  have hR := read_at (A := A) (w := w) (s := Str [91, 97, 45, 99, 92, 110, 93]) (i := 0) (by rw [Str_size]; decide) hs
  rw [show (Str [91, 97, 45, 99, 92, 110, 93]).data.toList = [91, 97, 45, 99, 92, 110, 93] from Str_toList _] at hR
  obtain ⟨r, hr⟩ : ∃ r, brd [91, 97, 45, 99, 92, 110, 93] 0 = r := ⟨_, rfl⟩
  rw [hr] at hR e1 e2
  obtain ⟨f, n, g⟩ := r
  simp only [Prod.mk.injEq] at e1 e2
  obtain ⟨rfl, rfl⟩ := e1
  have HR := Lib.hid hR
  have HE := Lib.hid e2
  clear hR hr e2 hs
  go_enter Tryd.func12, Tryd.ntmps12
  go_wp2_with fail
  refine HR.out.mono ?_
  rintro e w1 ⟨rs, rfl, hset, hb1⟩
  have HL := Lib.hid (fun w => len_c rs f hset w)
  have hal : (Mk.all rs).length = 4 := by rw [all_is hset]; exact HE.out
  rw [hal] at HL
  have he0 : evb A 0 = .nilIface := rfl
  simp only [he0]
  obtain ⟨x0, x1, x2, x3, rfl⟩ := set_four hset
  simp only [sv, vals, List.map_cons, List.map_nil] at HL ⊢
  have hb2 := hb1.alloc hb1.size (.cells #[.int .u64 (x0 : Int), .int .u64 (x1 : Int), .int .u64 (x2 : Int), .int .u64 (x3 : Int)] 25)
  have HB2 := Lib.hid hb2
  have a1 : Ab (w1.alloc (.cells #[.int .u64 (x0 : Int), .int .u64 (x1 : Int), .int .u64 (x2 : Int), .int .u64 (x3 : Int)] 25)) w1.heap.size x0 x1 x2 x3 := heap_alloc_new w1 _
  obtain ⟨⟨k0, k1, k2, k3⟩, _, _, _, _⟩ := a1.cells
  clear hset hal hb1 hb2 a1
  go_wp2_with fail
  refine (HL.out _).mono ?_
  rintro e w2 ⟨rfl, hb3⟩
  go_wp2
  go_ret
  exact ⟨by first | rfl | simp, HB2.out.trans (hb3.mono HB2.out.size)⟩
theorem eq_same (x0 x1 x2 x3 : Nat) (w : World) : (binOp .eql 25 (.agg #[.int .u64 (x0 : Int), .int .u64 (x1 : Int), .int .u64 (x2 : Int), .int .u64 (x3 : Int)]) (.agg #[.int .u64 (x0 : Int), .int .u64 (x1 : Int), .int .u64 (x2 : Int), .int .u64 (x3 : Int)])).run Tryd.prog w = .ok (.bool true) w := by
  have h := eq_run [x0, x1, x2, x3] [x0, x1, x2, x3] rfl rfl w
  simp only [decide_true] at h
  exact h
set_option maxHeartbeats 2000000 in
set_option maxRecDepth 100000 in
theorem reads_c (A : Nat → Addr) (s : ByteArray) (i : Int) (w : World) (hs : Sent 254 w A Er.egs) :
    Calls Tryd.prog 3 #[.string s, .int .i64 i] w fun e w' => e = .returned (.bool true) ∧ Below w.heap.size w w' := by
  by_cases h300 : s.size ≤ 300
  · obtain ⟨⟨f, n, g⟩, hg, h1, h2⟩ := reads A s i (by omega)
    simp only at hg
    have hd : decide (300 < (s.size : Int)) = false := by simp; omega
    have H1 := Lib.hid h1
    have H2 := Lib.hid h2
    clear h1 h2
    obtain ⟨E, hE⟩ : ∃ E, evb A g = E := ⟨_, rfl⟩
    have HE := Lib.hid hE
    clear hE
    go_enter Tryd.func3, Tryd.ntmps3
    go_wp2_with fail
    refine (alive_c A w (hs.sub (by decide))).mono ?_
    rintro e w1 ⟨rfl, hb1⟩
    go_wp2_with fail
    refine (H1.out w1 ((hs.keep hb1).sub (by decide))).mono ?_
    rintro e w2 ⟨rs, rfl, hset, hb2⟩
    obtain ⟨x0, x1, x2, x3, rfl⟩ := set_four hset
    rw [show evb A (f, n, g).2.2 = E from HE.out]
    simp only [sv, vals, List.map_cons, List.map_nil]
    have hB2 := hb1.trans (hb2.mono hb1.size)
    have hB3 := hB2.alloc hB2.size (.cells #[.int .u64 (x0 : Int), .int .u64 (x1 : Int), .int .u64 (x2 : Int), .int .u64 (x3 : Int)] 25)
    have a3 : Ab (w2.alloc (.cells #[.int .u64 (x0 : Int), .int .u64 (x1 : Int), .int .u64 (x2 : Int), .int .u64 (x3 : Int)] 25)) w2.heap.size x0 x1 x2 x3 := heap_alloc_new w2 _
    have HB3 := Lib.hid hB3
    have A3 := Lib.hid a3
    have HSet := Lib.hid hset
    clear hb1 hb2 hB2 hB3 a3 hset
    go_wp2_with fail
    refine (H2.out _).mono ?_
    rintro e w4 ⟨ts, rfl, hset4, hb4⟩
    obtain rfl := hset4.unique HSet.out
    simp only [sv, vals, List.map_cons, List.map_nil]
    have hB4 := HB3.out.trans (hb4.mono HB3.out.size)
    have hB5 := hB4.alloc hB4.size (.cells #[.int .u64 (x0 : Int), .int .u64 (x1 : Int), .int .u64 (x2 : Int), .int .u64 (x3 : Int)] 24)
    have a5 := (A3.out.below hb4).below ((Below.refl _ _).alloc (Nat.le_refl _) (.cells #[.int .u64 (x0 : Int), .int .u64 (x1 : Int), .int .u64 (x2 : Int), .int .u64 (x3 : Int)] 24))
    have c5 : Aw (w4.alloc (.cells #[.int .u64 (x0 : Int), .int .u64 (x1 : Int), .int .u64 (x2 : Int), .int .u64 (x3 : Int)] 24)) w4.heap.size x0 x1 x2 x3 := heap_alloc_new w4 _
    obtain ⟨⟨k0, k1, k2, k3⟩, _, _, _, _⟩ := a5.cells
    obtain ⟨⟨l0, l1, l2, l3⟩, _, _, _, _⟩ := c5.cells
    have hnum := num_b A g hg _ (hs.keep hB5)
    rw [show evb A g = E from HE.out] at hnum
    have HN := Lib.hid hnum
    have heq := eq_same x0 x1 x2 x3
    have HB5 := Lib.hid hB5
    clear hset4 hb4 hB4 hB5 a5 c5 hnum
    go_wp2_with fail
    refine HN.out.mono ?_
    rintro e w6 ⟨rfl, hb6⟩
    go_wp2
    go_ret
    exact ⟨by first | rfl | simp, HB5.out.trans (hb6.mono HB5.out.size)⟩
  · have hd : decide (300 < (s.size : Int)) = true := by simp; omega
    go_enter Tryd.func3, Tryd.ntmps3
    go_wp2_with fail
    refine (alive_c A w (hs.sub (by decide))).mono ?_
    rintro e w1 ⟨rfl, hb1⟩
    go_wp2
    go_ret
    exact ⟨rfl, hb1⟩
end Bk
end Go.Proofs.YtmfcabidmacdcaaDoor
