import Derived.Test.YtoeeddfinmfnoaaDoorQTreeROne
import Derived.Test.YtoeeddfinmfnoaaDoorQTreeRight
import Derived.Test.YtoeeddfinmfnoaaDoorQTreeOf
/- dofferref07.Right, dofferlaw07.heavy. -/
namespace Go.Proofs.YtoeeddfinmfnoaaDoor
namespace Kt
end Kt
namespace St
end St
namespace Sp
end Sp
namespace Bk
end Bk
open Go Go.RowKit Kt St Sp Bk
namespace Tr
/-- What one step's cells are. -/
theorem step_at {W : World} {a : Option Addr} {l : List (Nd × Nat)} (hr : Rd W a (l.flatMap scells)) (hs : ∀ x ∈ l, x.1.set.length = 4) (j : Nat) (hj : j < l.length) :
    ∃ b off, a = some ⟨b, off, none⟩ ∧ ∀ i x, (scells l[j])[i]? = some x → i < 11 → W.cell? ⟨b, off + (j * 11 + i), none⟩ = some x :=
  Rd.struct 11 hr (fun z hz => scells_len z (hs z hz)) j hj (by decide)
theorem wr_rd {base : Nat} {l : List (Nd × Nat)} {a : Option Addr} {n c : Nat} {W : World} (h : Wr base l a n c W) : Rd W a (l.flatMap scells) := Rd.own h.2
set_option maxRecDepth 100000 in
set_option maxHeartbeats 8000000 in
/-- dofferref07.Right. -/
theorem rright_c (n : Nd) (ht : ∀ x ∈ walk n, x.1.text.length ≤ 9223372036854775807) (w : World) (hIs : Is w.heap.size w n) :
    Calls Tryd.prog 14 #[nv n] w fun e w' => e = .returned (.bool (rgt n)) ∧ Below w.heap.size w w' := by
  have hwl := walk_len hIs
  obtain ⟨x0, x1, x2, x3, hs⟩ := four' hIs.len
  have hwk := fun (W : World) (hb : Below w.heap.size w W) => rwalk_c n W (Is.mono hb.size (Is.below hb hIs))
  have hrg : rgt n = (decide ((walk n).length ≤ 600) && (walk n).all fun x => decide (x.2 ≤ 24) && one x.1) := rfl
  have hnk : ∃ (k mn mx : Int) (a : Option Addr) (nl c : Nat) (t : List UInt8), nv n = .agg #[.int .i64 k, .int .u64 (x0 : Int), .int .u64 (x1 : Int), .int .u64 (x2 : Int), .int .u64 (x3 : Int), .slice a nl c, .int .i64 mn, .int .i64 mx, .string (Str t)] := by
    obtain ⟨k, s, mn, mx, t, a, c, ks⟩ := n
    simp only [Nd.set] at hs
    subst hs
    exact ⟨k, mn, mx, a, ks.length, c, t, rfl⟩
  obtain ⟨k, mn, mx, a, nl, c, t, hnv⟩ := hnk
  rw [hnv] at hwk ⊢
  rw [hrg]
  obtain ⟨l, hl⟩ : ∃ l, walk n = l := ⟨_, rfl⟩
  have hl6 : l.length ≤ 601 := by rw [← hl]; simp only [walk, List.length_take]; omega
  rw [hl] at hwl ht hwk ⊢
  obtain ⟨L, hL⟩ : ∃ L, l.length = L := ⟨_, rfl⟩
  obtain ⟨G, hG⟩ : ∃ G : Nd × Nat → Bool, (fun x => decide (x.2 ≤ 24) && one x.1) = G := ⟨_, rfl⟩
  rw [hL] at hl6 hwk ⊢
  rw [hG]
  have HG := Lib.hid hG
  have HL := Lib.hid hL
  have hB := (Below.refl w.heap.size w).alloc (Nat.le_refl _) (.cells #[.int .i64 k, .int .u64 (x0 : Int), .int .u64 (x1 : Int), .int .u64 (x2 : Int), .int .u64 (x3 : Int), .slice a nl c, .int .i64 mn, .int .i64 mx, .string (Str t)] 31)
  have hw1 := hwk _ hB
  obtain ⟨W1, hW1⟩ : ∃ W1, w.alloc (.cells #[.int .i64 k, .int .u64 (x0 : Int), .int .u64 (x1 : Int), .int .u64 (x2 : Int), .int .u64 (x3 : Int), .slice a nl c, .int .i64 mn, .int .i64 mx, .string (Str t)] 31) = W1 := ⟨_, rfl⟩
  rw [hW1] at hw1 hB
  have HK := Lib.hid hw1
  have HB := Lib.hid hB
  have HW1 := Lib.hid hW1
  have HT := Lib.hid (And.intro hwl ht)
  clear hwk hw1 hB hW1 hwl ht hl hrg hnv hs hIs hL hG
  go_enter Tryd.func14, Tryd.ntmps14
  go_wp2_with fail
  rw [HW1.out]
  with_reducible refine HK.out.mono ?_
  rintro e W2 ⟨ra, rc, rfl, hwr, hb2⟩
  have HRd := Lib.hid (wr_rd hwr)
  have HB2 := Lib.hid (HB.out.trans (hb2.mono HB.out.size))
  clear hwr hb2
  go_wp2_with fail
  go_loopw [10] (fun i W => ∃ j : Nat, j ≤ L ∧ i = .int .i64 (j : Int) ∧ (l.take j).all G = true ∧ Below W2.heap.size W2 W) (fun i _ => L - (intOf i).toNat)
  case atStart => exact ⟨0, Nat.zero_le _, rfl, by simp, Below.refl _ _⟩
  case round =>
    obtain ⟨j, hj, rfl, hall, hb⟩ := hrel
    by_cases hjl : j < L
    · have hjk : j < l.length := by rw [HL.out]; exact hjl
      have hin : l[j] ∈ l := List.getElem_mem hjk
      obtain ⟨b, off, rfl, hcs⟩ := step_at (HRd.out.keep hb) HT.out.1 j hjk
      have hset := HT.out.1 _ hin
      have htx := HT.out.2 _ hin
      have hgx : G l[j] = (decide (l[j].2 ≤ 24) && one l[j].1) := by rw [← HG.out]
      have hnx : (l.take (j + 1)).all G = G l[j] := by
        rw [List.take_succ_eq_append_getElem hjk, List.all_append, hall]
        simp
      have hbad : G l[j] = false → (decide (L ≤ 600) && l.all G) = false := fun h => by
        rw [Bool.and_eq_false_iff]
        exact .inr (List.all_eq_false.2 ⟨l[j], hin, by simpa using h⟩)
      obtain ⟨⟨y, lv⟩, hx⟩ : ∃ x, l[j] = x := ⟨_, rfl⟩
      rw [hx] at hcs hset htx hnx hbad hgx
      obtain ⟨y0, y1, y2, y3, hys⟩ := four' hset
      obtain ⟨kk, ksx, kmn, kmx, kt, ka, kc, kks⟩ := y
      simp only [Nd.set] at hys
      subst hys
      have q0 := hcs 0 _ rfl (by omega)
      have q1 := hcs 1 _ rfl (by omega)
      have q2 := hcs 2 _ rfl (by omega)
      have q3 := hcs 3 _ rfl (by omega)
      have q4 := hcs 4 _ rfl (by omega)
      have q5 := hcs 5 _ rfl (by omega)
      have q6 := hcs 6 _ rfl (by omega)
      have q7 := hcs 7 _ rfl (by omega)
      have q8 := hcs 8 _ rfl (by omega)
      have q9 := hcs 9 _ rfl (by omega)
      have q10 := hcs 10 _ rfl (by omega)
      simp only [← Nat.add_assoc, Nat.add_zero, Nd.kind, Nd.kids, Nd.mn, Nd.mx, Nd.text] at q0 q1 q2 q3 q4 q5 q6 q7 q8 q9 q10
      have hgx : G _ = (decide (lv ≤ 24) && oneB kk kmn kmx (decide ([y0, y1, y2, y3] = [0, 0, 0, 0])) kt kks.length) := hgx
      simp only [Nd.text] at htx
      obtain ⟨kl, hkl⟩ : ∃ kl, kks.length = kl := ⟨_, rfl⟩
      rw [hkl] at hgx q10
      rw [hgx] at hnx hbad
      have hon := fun W => rone_c kk kmn kmx y0 y1 y2 y3 kt htx (lv : Int) kl W
      generalize oneB kk kmn kmx (decide ([y0, y1, y2, y3] = [0, 0, 0, 0])) kt kl = o at *
      obtain ⟨W5, hW5⟩ : ∃ W5, wr.alloc (.cells #[.int .i64 kk, .int .u64 (y0 : Int), .int .u64 (y1 : Int), .int .u64 (y2 : Int), .int .u64 (y3 : Int), .slice none 0 0, .int .i64 kmn, .int .i64 kmx, .string (Str kt), .int .i64 (lv : Int), .int .i64 (kl : Int)] 63) = W5 := ⟨_, rfl⟩
      have b5 : Below wr.heap.size wr W5 := by rw [← hW5]; exact (Below.refl _ _).alloc (Nat.le_refl _) _
      have s5 : W5.heap[wr.heap.size]? = some (.cells #[.int .i64 kk, .int .u64 (y0 : Int), .int .u64 (y1 : Int), .int .u64 (y2 : Int), .int .u64 (y3 : Int), .slice none 0 0, .int .i64 kmn, .int .i64 kmx, .string (Str kt), .int .i64 (lv : Int), .int .i64 (kl : Int)] 63 (0, 0)) := by rw [← hW5]; exact heap_alloc_new wr _
      have u0 := cell_block s5 0
      have u1 := cell_block s5 1
      have u2 := cell_block s5 2
      have u3 := cell_block s5 3
      have u4 := cell_block s5 4
      have u5 := cell_block s5 5
      have u6 := cell_block s5 6
      have u7 := cell_block s5 7
      have u8 := cell_block s5 8
      have u9 := cell_block s5 9
      have u10 := cell_block s5 10
      simp only [List.getElem?_toArray, List.getElem?_cons_zero, List.getElem?_cons_succ] at u0 u1 u2 u3 u4 u5 u6 u7 u8 u9 u10
      rw [← hW5] at u0 u1 u2 u3 u4 u5 u6 u7 u8 u9 u10
      have HOn := Lib.hid hon
      have HBd := Lib.hid hbad
      have HNx := Lib.hid hnx
      have HB5 := Lib.hid (hb.trans (b5.mono hb.size))
      have HW5 := Lib.hid hW5
      clear hon hbad hnx hb b5 s5 hW5 hx hkl hset htx hcs hin hall hgx
      by_cases h24 : 24 < lv
      · have hd24 : decide ((24 : Int) < (lv : Int)) = true := by simp; omega
        have HF := Lib.hid (HBd.out (by rw [decide_eq_false (by omega), Bool.false_and]))
        clear h24
        go_wp2
        rw [HW5.out]
        go_ret
        exact ⟨by rw [HF.out]; rfl, HB2.out.trans (HB5.out.mono HB2.out.size)⟩
      · have hd24 : decide ((24 : Int) < (lv : Int)) = false := by simp; omega
        have h24' : decide (lv ≤ 24) = true := by simp; omega
        rw [h24', Bool.true_and] at HBd HNx
        clear h24 h24'
        cases o with
        | false =>
          have HF := Lib.hid (HBd.out rfl)
          go_wp2_with fail
          rw [HW5.out]
          with_reducible refine (HOn.out _).mono ?_
          rintro e w6 ⟨rfl, hb6⟩
          go_wp2
          go_ret
          exact ⟨by rw [HF.out]; rfl, (HB2.out.trans (HB5.out.mono HB2.out.size)).trans (hb6.mono (by have := HB2.out.size; have := HB5.out.size; omega))⟩
        | true =>
          go_wp2_with fail
          rw [HW5.out]
          with_reducible refine (HOn.out _).mono ?_
          rintro e w6 ⟨rfl, hb6⟩
          have HB6 := Lib.hid (HB5.out.trans (hb6.mono HB5.out.size))
          clear hb6
          go_wp2
          go_roundw
          case rel => exact ⟨j + 1, by omega, by go_num, HNx.out, HB6.out⟩
          case measure => simp [intOf]; omega
    · obtain rfl : j = L := by omega
      rw [List.take_of_length_le (by rw [HL.out]; exact Nat.le_refl _)] at hall
      have hd : (decide (j ≤ 600) && l.all G) = decide ((j : Int) ≤ 600) := by rw [hall, Bool.and_true]; exact decide_eq_decide.2 (by omega)
      have HD := Lib.hid hd
      have HBb := Lib.hid hb
      clear hall hb hd
      go_wp2
      go_ret
      exact ⟨by rw [HD.out]; rfl, HB2.out.trans (HBb.out.mono HB2.out.size)⟩
end Tr
end Go.Proofs.YtoeeddfinmfnoaaDoor
