import Derived.Test.YtoeeddfinmfnoaaDoorQBrkPure
import Derived.Test.YtoeeddfinmfnoaaDoorQActNm
import Derived.Test.YtoeeddfinmfnoaaDoorQSets7
import Derived.Test.YtoeeddfinmfnoaaDoorQTreePure
import Derived.Deep.RegionHeld3
/- The walks of package brackets' reader: a byte, an item. Condition: the sentinels read as laid. -/
namespace Go.Proofs.YtoeeddfinmfnoaaDoor
namespace Kt
end Kt
namespace Sp
end Sp
namespace St
end St
open Go Go.RowKit Kt Sp St
namespace Bk
/-- The errors that package brackets answers. -/
def bks : List Nat := [3, 4, 0]
def evb (A : Nat → Addr) (g : Nat) : Value := if g = 0 then .nilIface else if g = 1 then Er.ev A 3 else if g = 2 then Er.ev A 4 else Er.ev A 0
theorem evn_evb (A : Nat → Addr) (g : Nat) (h : g = 0 ∨ g = 2 ∨ g = 4) : evn A g = evb A g := by rcases h with rfl | rfl | rfl <;> rfl
/-- A reader at block p, new since w. -/
structure Rr (w W : World) (p : Nat) (s : ByteArray) (i : Int) : Prop where
  hp : W.heap[p]? = some (.cells #[.string s, .int .i64 i] 193 (0, 0))
  B : Below w.heap.size w W
  l : w.heap.size ≤ p
variable {w W W' : World} {p : Nat} {s : ByteArray} {i : Nat} {A : Nat → Addr}
theorem Rr.below {i : Int} (h : Rr w W p s i) (hb : Below W.heap.size W W') : Rr w W' p s i := ⟨by rw [hb.block p (block_lt h.hp)]; exact h.hp, h.B.trans (hb.mono h.B.size), h.l⟩
theorem Rr.set {i : Int} (h : Rr w W p s i) (j : Int) : Rr w (W.setCell ⟨p, 1, none⟩ (.int .i64 j)) p s j ∧ Mod [p] W (W.setCell ⟨p, 1, none⟩ (.int .i64 j)) :=
  ⟨⟨by rw [block_setCell h.hp]; rfl, h.B.setCell h.l _, h.l⟩, (Mod.refl [p] W).setCell (.inl (by simp)) _⟩
theorem Rr.cells {i : Int} (h : Rr w W p s i) : W.cell? ⟨p, 0, none⟩ = some (.string s) ∧ W.cell? ⟨p, 1, none⟩ = some (.int .i64 i) ∧ W.frozen? ⟨p, 1, none⟩ = false :=
  ⟨cell_block h.hp 0, cell_block h.hp 1, frozen_block h.hp 1⟩
/-- An array variable of four words at block r. -/
def Ab (W : World) (r x0 x1 x2 x3 : Nat) : Prop := W.heap[r]? = some (.cells #[.int .u64 (x0 : Int), .int .u64 (x1 : Int), .int .u64 (x2 : Int), .int .u64 (x3 : Int)] 24 (0, 0))
theorem Ab.mod {S : List Nat} {r x0 x1 x2 x3 : Nat} (h : Ab W r x0 x1 x2 x3) (hM : Mod S W W') (hr : r ∉ S) : Ab W' r x0 x1 x2 x3 := (hM.block r (block_lt h) hr).trans h
theorem Ab.below {r x0 x1 x2 x3 : Nat} (h : Ab W r x0 x1 x2 x3) (hb : Below W.heap.size W W') : Ab W' r x0 x1 x2 x3 := (hb.block r (block_lt h)).trans h
theorem Ab.cells {r x0 x1 x2 x3 : Nat} (h : Ab W r x0 x1 x2 x3) : (W.cell? ⟨r, 0, none⟩ = some (.int .u64 (x0 : Int)) ∧ W.cell? ⟨r, 1, none⟩ = some (.int .u64 (x1 : Int)) ∧ W.cell? ⟨r, 2, none⟩ = some (.int .u64 (x2 : Int)) ∧ W.cell? ⟨r, 3, none⟩ = some (.int .u64 (x3 : Int))) ∧
    W.frozen? ⟨r, 0, none⟩ = false ∧ W.frozen? ⟨r, 1, none⟩ = false ∧ W.frozen? ⟨r, 2, none⟩ = false ∧ W.frozen? ⟨r, 3, none⟩ = false :=
  ⟨⟨cell_block h 0, cell_block h 1, cell_block h 2, cell_block h 3⟩, frozen_block h 0, frozen_block h 1, frozen_block h 2, frozen_block h 3⟩
def put4 (W : World) (r x0 x1 x2 x3 : Nat) : World := (((W.setCell ⟨r, 0, none⟩ (.int .u64 (x0 : Int))).setCell ⟨r, 1, none⟩ (.int .u64 (x1 : Int))).setCell ⟨r, 2, none⟩ (.int .u64 (x2 : Int))).setCell ⟨r, 3, none⟩ (.int .u64 (x3 : Int))
theorem Ab.put {r x0 x1 x2 x3 : Nat} (h : Ab W r x0 x1 x2 x3) (z0 z1 z2 z3 : Nat) : Ab (put4 W r z0 z1 z2 z3) r z0 z1 z2 z3 := store4 h _ _ _ _
theorem put4_mod {S : List Nat} {W0 : World} {r : Nat} (h : Mod S W0 W) (hr : r ∈ S ∨ W0.heap.size ≤ r) (z0 z1 z2 z3 : Nat) : Mod S W0 (put4 W r z0 z1 z2 z3) :=
  (((h.setCell (p := ⟨r, 0, none⟩) hr _).setCell (p := ⟨r, 1, none⟩) hr _).setCell (p := ⟨r, 2, none⟩) hr _).setCell (p := ⟨r, 3, none⟩) hr _
theorem put4_other {r k : Nat} (h : k ≠ r) (z0 z1 z2 z3 : Nat) : (put4 W r z0 z1 z2 z3).heap[k]? = W.heap[k]? := by
  unfold put4
  rw [block_setOther h, block_setOther h, block_setOther h, block_setOther h]
theorem put4_below {B : Nat} {W0 : World} {r : Nat} (h : Below B W0 W) (hr : B ≤ r) (z0 z1 z2 z3 : Nat) : Below B W0 (put4 W r z0 z1 z2 z3) :=
  (((h.setCell (p := ⟨r, 0, none⟩) hr _).setCell (p := ⟨r, 1, none⟩) hr _).setCell (p := ⟨r, 2, none⟩) hr _).setCell (p := ⟨r, 3, none⟩) hr _
theorem Rr.put4 {i : Int} {r : Nat} (h : Rr w W p s i) (hr : p ≠ r) (hr2 : w.heap.size ≤ r) (z0 z1 z2 z3 : Nat) : Rr w (put4 W r z0 z1 z2 z3) p s i := ⟨by rw [put4_other hr]; exact h.hp, put4_below h.B hr2 _ _ _ _, h.l⟩
theorem Rr.blk {i : Int} (h : Rr w W p s i) : p < W.heap.size := block_lt h.hp
set_option maxRecDepth 100000 in
theorem next_c (c : UInt8) (h : Rr w W p s i) (hc : s.data.toList[i]? = some c) (_hsz : s.size ≤ 1000000) : Calls Tryd.prog 167 #[.pointer (some ⟨p, 0, none⟩)] W fun e w' => e = .returned (.int .u8 (c.toNat : Int)) ∧ Below W.heap.size W w' := by
  obtain ⟨k0, k1, _⟩ := h.cells
  have hlt : i < s.size := by rw [size_list]; exact (List.getElem?_eq_some_iff.1 hc).1
  have ix := fun w => idx_run Tryd.underlying9 s .i64 (i : Int) i c rfl hc w
  have hb := Below.refl W.heap.size W
  have HB := Lib.hid hb
  clear h hc hb
  go_enter Tryd.func167, Tryd.ntmps167
  go_wp2_with fail
  go_quiet (fail)
  go_wp2_with fail
  go_quiet (fail)
  go_wp2
  go_ret
  exact ⟨rfl, by first | exact below_drewN HB.out _ | exact below_drewN (below_drewN HB.out _) _⟩
set_option maxRecDepth 100000 in
theorem end_neg {i : Int} (h : Rr w W p s i) (hi : i < 0) : Calls Tryd.prog 163 #[.pointer (some ⟨p, 0, none⟩)] W fun e w' => e = .returned (.bool true) ∧ Below W.heap.size W w' := by
  obtain ⟨k0, k1, _⟩ := h.cells
  have hd : decide (i < 0) = true := by simpa using hi
  have HB := Lib.hid (Below.refl W.heap.size W)
  clear h
  go_enter Tryd.func163, Tryd.ntmps163
  go_wp2_with fail
  go_quiet (fail)
  go_wp2
  go_ret
  exact ⟨by first | rfl | (simp; done) | (simp; omega), below_drewN HB.out _⟩
set_option maxRecDepth 100000 in
theorem end_c (h : Rr w W p s i) (b : Bool) (hb : decide (s.size ≤ i) = b) : Calls Tryd.prog 163 #[.pointer (some ⟨p, 0, none⟩)] W fun e w' => e = .returned (.bool b) ∧ Below W.heap.size W w' := by
  obtain ⟨k0, k1, _⟩ := h.cells
  have HB := Lib.hid (Below.refl W.heap.size W)
  clear h
  cases b with
  | true =>
    have hlt : s.size ≤ i := by simpa using hb
    clear hb
    go_enter Tryd.func163, Tryd.ntmps163
    go_wp2_with fail
    go_quiet (fail)
    go_wp2
    go_ret
    exact ⟨by first | rfl | (simp; done) | (simp; omega), below_drewN HB.out _⟩
  | false =>
    have hlt : i < s.size := by simpa using hb
    clear hb
    go_enter Tryd.func163, Tryd.ntmps163
    go_wp2_with fail
    go_quiet (fail)
    go_wp2
    go_ret
    exact ⟨by first | rfl | (simp; done) | (simp; omega), below_drewN HB.out _⟩
set_option maxRecDepth 100000 in
theorem take_end (c : Int) (h : Rr w W p s i) (he : s.size ≤ i) : Calls Tryd.prog 164 #[.pointer (some ⟨p, 0, none⟩), .int .u8 c] W fun e w' => e = .returned (.bool false) ∧ Below W.heap.size W w' := by
  have HE := Lib.hid (end_c h true (by simpa using he))
  clear h he
  go_enter Tryd.func164, Tryd.ntmps164
  go_wp2_with (go_at_call 163; (with_reducible refine HE.out.mono ?_); rintro e w1 ⟨rfl, hb1⟩)
  go_ret
  exact ⟨rfl, hb1⟩
set_option maxRecDepth 100000 in
theorem take_no (c d : UInt8) (h : Rr w W p s i) (hc : s.data.toList[i]? = some d) (hne : d ≠ c) (hsz : s.size ≤ 1000000) : Calls Tryd.prog 164 #[.pointer (some ⟨p, 0, none⟩), .int .u8 (c.toNat : Int)] W fun e w' => e = .returned (.bool false) ∧ Below W.heap.size W w' := by
  have hlt : i < s.size := by rw [size_list]; exact (List.getElem?_eq_some_iff.1 hc).1
  have HE := Lib.hid (end_c h false (by simpa using hlt))
  have HN := Lib.hid (fun W' (h' : Rr w W' p s i) => next_c d h' hc hsz)
  have h1 : ((d.toNat : Int) == (c.toNat : Int)) = false := by
    simp
    intro h
    exact hne (UInt8.toNat_inj.1 (by omega))
  have h2 : ((d.toNat : Int) != (c.toNat : Int)) = true := by simp [bne, h1]
  have HH := Lib.hid h
  clear h hc hne
  generalize d.toNat = dn at *
  generalize c.toNat = cn at *
  go_enter Tryd.func164, Tryd.ntmps164
  go_wp2_with fail
  refine HE.out.mono ?_
  rintro e w1 ⟨rfl, hb1⟩
  go_wp2_with fail
  refine (HN.out _ (HH.out.below hb1)).mono ?_
  rintro e w2 ⟨rfl, hb2⟩
  go_wp2
  go_ret
  exact ⟨rfl, hb1.trans (hb2.mono hb1.size)⟩
set_option maxRecDepth 100000 in
theorem take_yes (c : UInt8) (h : Rr w W p s i) (hc : s.data.toList[i]? = some c) (hsz : s.size ≤ 1000000) : Calls Tryd.prog 164 #[.pointer (some ⟨p, 0, none⟩), .int .u8 (c.toNat : Int)] W fun e w' => e = .returned (.bool true) ∧ Rr w w' p s (i + 1 : Nat) ∧ Mod [p] W w' := by
  have hlt : i < s.size := by rw [size_list]; exact (List.getElem?_eq_some_iff.1 hc).1
  have HE := Lib.hid (end_c h false (by simpa using hlt))
  have HN := Lib.hid (fun W' (h' : Rr w W' p s i) => next_c c h' hc hsz)
  have HH := Lib.hid h
  clear h hc
  generalize c.toNat = cn at *
  go_enter Tryd.func164, Tryd.ntmps164
  go_wp2_with fail
  refine HE.out.mono ?_
  rintro e w1 ⟨rfl, hb1⟩
  go_wp2_with fail
  refine (HN.out _ (HH.out.below hb1)).mono ?_
  rintro e w2 ⟨rfl, hb2⟩
  have hb12 := hb1.trans (hb2.mono hb1.size)
  have h2 := HH.out.below hb12
  obtain ⟨k0, k1, kf⟩ := h2.cells
  have hs := h2.set ((i : Int) + 1)
  have HS := Lib.hid (And.intro hs.1 ((Mod.of_below hb12 [p]).trans hs.2 (by simp)))
  clear h2 hs hb1 hb2 hb12
  go_wp2
  go_ret
  exact ⟨rfl, HS.out⟩
/-- take, in all cases. -/
theorem take_c (c : UInt8) (h : Rr w W p s i) (hsz : s.size ≤ 1000000) (b : Bool) (hb : decide (s.data.toList[i]? = some c) = b) : Calls Tryd.prog 164 #[.pointer (some ⟨p, 0, none⟩), .int .u8 (c.toNat : Int)] W fun e w' => e = .returned (.bool b) ∧ Rr w w' p s (if b then i + 1 else i : Nat) ∧ Mod [p] W w' := by
  cases b with
  | true =>
    have hc : s.data.toList[i]? = some c := by simpa using hb
    exact take_yes c h hc hsz
  | false =>
    have hc : s.data.toList[i]? ≠ some c := by simpa using hb
    by_cases he : s.size ≤ i
    · exact (take_end _ h he).mono fun _ _ ⟨h1, h2⟩ => ⟨h1, h.below h2, Mod.of_below h2 _⟩
    · obtain ⟨d, hd⟩ := get_lt (l := s.data.toList) (i := i) (by rw [← size_list]; omega)
      have hne : d ≠ c := by rintro rfl; exact hc hd
      exact (take_no c d h hd hne hsz).mono fun _ _ ⟨h1, h2⟩ => ⟨h1, h.below h2, Mod.of_below h2 _⟩

theorem bare_eq (c : UInt8) : bare c = [91, 93, 45, 47].contains c := by
  have := all_bytes (p := fun c => bare c == [91, 93, 45, 47].contains c) (by decide +kernel) c
  simpa using this
/-- A byte. -/
theorem one_read (h : Rr w W p s i) (hi : i ≤ s.size) (hsz : s.size ≤ 1000000) (hs : Sent 204 w A bks) (hone : one s.data.toList i = rd s.data.toList i) :
    Calls Tryd.prog 152 #[.string s, .int .i64 (i : Int)] W fun e w' => e = .returned (.tuple #[.int .u8 (one s.data.toList i).1, .int .i64 ((one s.data.toList i).2.1 : Int), evb A (one s.data.toList i).2.2]) ∧ Below W.heap.size W w' := by
  rw [hone]
  refine (read_c A s i hsz W ((hs.keep h.B).sub (by decide))).mono fun _ _ ⟨h1, h2⟩ => ⟨?_, h2⟩
  rw [h1, resR, evn_evb A _ (rd_go s.data.toList i (by rw [← size_list]; exact hi)).2.2.2.2]
set_option maxHeartbeats 2000000 in
set_option maxRecDepth 100000 in
theorem one_c (h : Rr w W p s i) (hi : i ≤ s.size) (hsz : s.size ≤ 1000000) (hs : Sent 204 w A bks) :
    Calls Tryd.prog 168 #[.pointer (some ⟨p, 0, none⟩)] W fun e w' => e = .returned (.tuple #[.int .u8 (one s.data.toList i).1, evb A (one s.data.toList i).2.2]) ∧ Rr w w' p s (one s.data.toList i).2.1 ∧ Mod [p] W w' := by
  have HH := Lib.hid h
  have hn := (one_go s.data.toList i (by rw [← size_list]; exact hi)).2.2.1
  rw [← size_list] at hn
  -- the read, from whatever world below
  have fin : ∀ W1 W', Below W.heap.size W W1 → Below W1.heap.size W1 W' → Rr w (W'.setCell ⟨p, 1, none⟩ (.int .i64 ((one s.data.toList i).2.1 : Int))) p s (one s.data.toList i).2.1 ∧ Mod [p] W (W'.setCell ⟨p, 1, none⟩ (.int .i64 ((one s.data.toList i).2.1 : Int))) := fun W1 W' hb hb' => by
    have hbb := hb.trans (hb'.mono hb.size)
    exact ⟨((HH.out.below hbb).set _).1, (Mod.of_below hbb [p]).trans ((HH.out.below hbb).set _).2 (by simp)⟩
  have hcell : ∀ W', Below W.heap.size W W' → W'.cell? ⟨p, 0, none⟩ = some (.string s) ∧ W'.cell? ⟨p, 1, none⟩ = some (.int .i64 (i : Int)) ∧ W'.frozen? ⟨p, 1, none⟩ = false := fun W' hb => (HH.out.below hb).cells
  by_cases he : s.size ≤ i
  · have hone : one s.data.toList i = rd s.data.toList i := by
      unfold one
      rw [List.getElem?_eq_none (by rw [← size_list]; exact he)]
    have HE := Lib.hid (end_c h true (by simpa using he))
    have HR := Lib.hid (fun W1 (hb : Below W.heap.size W W1) => one_read (HH.out.below hb) hi hsz hs hone)
    obtain ⟨r, hr⟩ : ∃ r, one s.data.toList i = r := ⟨_, rfl⟩
    rw [hr] at HR fin hn ⊢
    obtain ⟨v, n, g⟩ := r
    simp only at HR fin hn ⊢
    have HF := Lib.hid fin
    have HC := Lib.hid hcell
    clear h hr hone hs he fin hcell
    go_enter Tryd.func168, Tryd.ntmps168
    go_wp2_with fail
    refine HE.out.mono ?_
    rintro e w1 ⟨rfl, hb1⟩
    obtain ⟨c0, c1, cf⟩ := HC.out _ hb1
    have HB1 := Lib.hid hb1
    clear hb1
    go_wp2_with fail
    go_region_held3 (fun W => W.cell? ⟨p, 0, none⟩ = some (.string s) ∧ W.cell? ⟨p, 1, none⟩ = some (.int .i64 (i : Int)))
      (first | exact y1 | exact ⟨c0, c1⟩)
      ((go_at_call 152; (with_reducible refine (HR.out _ (HB1.out.drew)).mono ?_); rintro e w2 ⟨rfl, hb2⟩
        obtain ⟨d0, d1, df⟩ := HC.out _ (HB1.out.drew.trans (hb2.mono HB1.out.drew.size))
        have y1 := And.intro d0 d1))
    have HF2 := Lib.hid (HF.out _ _ HB1.out.drew hb2)
    clear hb2 y1 c0 c1 cf
    go_wp2
    go_ret2
    exact ⟨rfl, HF2.out⟩
  · obtain ⟨c, hc⟩ := get_lt (l := s.data.toList) (i := i) (by rw [← size_list]; omega)
    have HE := Lib.hid (end_c h false (by simpa using he))
    have HN := Lib.hid (fun W1 (hb : Below W.heap.size W W1) => next_c c (HH.out.below hb) hc hsz)
    have hno := no_code [91, 93, 45, 47] c
    rw [← bare_eq] at hno
    have HX := Lib.hid (fun W => ix_c [91, 93, 45, 47] c _ rfl W)
    by_cases hb : bare c = true
    · have hone : one s.data.toList i = (0, i, 4) := by
        unfold one
        rw [hc]
        simp [hb]
      rw [hb] at hno
      have HS := Lib.hid hs
      rw [hone]
      have e : evb A 4 = Er.ev A 0 := rfl
      simp only
      rw [e]
      generalize Lib.indexByte [91, 93, 45, 47] c = k at *
      have hk : (0 : Int) ≤ k := by simpa using hno
      clear hone hs he fin hcell hc hb hn hno h
      go_enter Tryd.func168, Tryd.ntmps168
      go_wp2_with fail
      refine HE.out.mono ?_
      rintro e w1 ⟨rfl, hb1⟩
      go_wp2_with fail
      refine (HN.out _ hb1).mono ?_
      rintro e w2 ⟨rfl, hb2⟩
      have hb12 := hb1.trans (hb2.mono hb1.size)
      go_wp2_with fail
      refine (HX.out _).mono ?_
      rintro e w3 ⟨rfl, rfl⟩
      have h2 := HH.out.below hb12
      have e4 := (HS.out.keep h2.B).cell 0 (by simp [bks])
      have HR2 := Lib.hid h2
      have HM := Lib.hid (Mod.of_below hb12 [p])
      clear hb1 hb2 hb12 h2
      go_wp2_with fail
      go_quiet (fail)
      go_wp2
      go_ret2
      exact ⟨rfl, HR2.out.below (below_drewN (Below.refl _ _) _), HM.out.drewN _⟩
    · have hb : bare c = false := by simpa using hb
      have hone : one s.data.toList i = rd s.data.toList i := by
        unfold one
        rw [hc]
        simp [hb]
      rw [hb] at hno
      have HR := Lib.hid (fun W1 (hb : Below W.heap.size W W1) => one_read (HH.out.below hb) hi hsz hs hone)
      obtain ⟨r, hr⟩ : ∃ r, one s.data.toList i = r := ⟨_, rfl⟩
      rw [hr] at HR fin hn ⊢
      obtain ⟨v, n, g⟩ := r
      simp only at HR fin hn ⊢
      have HF := Lib.hid fin
      have HC := Lib.hid hcell
      generalize Lib.indexByte [91, 93, 45, 47] c = k at *
      have hk : k < (0 : Int) := by simpa using hno
      clear h hr hone hs he fin hcell hc hb hno
      go_enter Tryd.func168, Tryd.ntmps168
      go_wp2_with fail
      refine HE.out.mono ?_
      rintro e w1 ⟨rfl, hb1⟩
      go_wp2_with fail
      refine (HN.out _ hb1).mono ?_
      rintro e w2 ⟨rfl, hb2⟩
      have hb12 := hb1.trans (hb2.mono hb1.size)
      go_wp2_with fail
      refine (HX.out _).mono ?_
      rintro e w3 ⟨rfl, rfl⟩
      obtain ⟨c0, c1, cf⟩ := HC.out _ hb12
      have HB1 := Lib.hid hb12
      clear hb1 hb2 hb12
      go_wp2_with fail
      go_region_held3 (fun W => W.cell? ⟨p, 0, none⟩ = some (.string s) ∧ W.cell? ⟨p, 1, none⟩ = some (.int .i64 (i : Int)))
        (first | exact y1 | exact ⟨c0, c1⟩)
        ((go_at_call 152; (with_reducible refine (HR.out _ (HB1.out.drew)).mono ?_); rintro e w4 ⟨rfl, hb4⟩
          obtain ⟨d0, d1, df⟩ := HC.out _ (HB1.out.drew.trans (hb4.mono HB1.out.drew.size))
          have y1 := And.intro d0 d1))
      have HF2 := Lib.hid (HF.out _ _ HB1.out.drew hb4)
      clear hb4 y1 c0 c1 cf
      go_wp2
      go_ret2
      exact ⟨rfl, HF2.out⟩
end Bk
end Go.Proofs.YtoeeddfinmfnoaaDoor

/- brackets' reader: an item, a bracket. Condition: the sentinels read as laid. -/
namespace Go.Proofs.YtoeeddfinmfnoaaDoor
open Go Go.RowKit Kt Sp St
namespace Bk
variable {w W W' : World} {p : Nat} {s : ByteArray} {i : Nat} {A : Nat → Addr}
def ItP (A : Nat → Addr) (w W : World) (p : Nat) (s : ByteArray) (r : Nat × Nat × Nat × Nat) (e : Ending) (w' : World) : Prop :=
  ∃ rs, e = .returned (.tuple #[sv rs, evb A r.2.2.2]) ∧ rs.length = 4 ∧ (r.2.2.2 = 0 → IsSet rs (spn r.1 r.2.1)) ∧ Rr w w' p s r.2.2.1 ∧ Mod [p] W w'
theorem evb_ne {g : Nat} (h : g = 1 ∨ g = 2 ∨ g = 4) : ∃ x, evb A g = .iface 204 (.pointer (some x)) := by
  rcases h with rfl | rfl | rfl <;> exact ⟨_, rfl⟩
theorem spn_one (c : Nat) (rs : List Nat) (h : IsSet rs (fun q => decide (q = c))) : IsSet rs (spn c c) := by
  have : spn c c = fun q => decide (q = c) := by funext q; rw [Bool.eq_iff_iff]; simp [spn]; omega
  rw [this]; exact h
theorem u8_of (v : Int) (h0 : 0 ≤ v) (h1 : v < 256) : ∃ c : Nat, v = (c : Int) ∧ c < 256 := ⟨v.toNat, by omega, by omega⟩

theorem set_four {rs : List Nat} {f : Nat → Bool} (h : IsSet rs f) : ∃ x0 x1 x2 x3, rs = [x0, x1, x2, x3] := four h.len
/-- The reader and the result's block in the call's world. -/
structure It (w W0 W : World) (p r : Nat) (s : ByteArray) (i : Nat) : Prop where
  rr : Rr w W p s i
  z : Ab W r 0 0 0 0
  m : Mod [p] W0 W
  ne : p ≠ r
  new : W0.heap.size ≤ r
theorem It.start (h : Rr w W p s i) : It w W (W.alloc (.cells #[.int .u64 0, .int .u64 0, .int .u64 0, .int .u64 0] 24)) p W.heap.size s i :=
  ⟨h.below ((Below.refl _ _).alloc (Nat.le_refl _) _), heap_alloc_new W _, (Mod.refl _ _).alloc _, Nat.ne_of_lt h.blk, Nat.le_refl _⟩
variable {W0 : World} {r : Nat}
theorem It.step {j : Nat} (h : It w W0 W p r s i) (hr : Rr w W' p s j) (hM : Mod [p] W W') : It w W0 W' p r s j :=
  ⟨hr, h.z.mod hM (by simpa using fun e => h.ne e.symm), h.m.trans hM (by simp), h.ne, h.new⟩
theorem It.below (h : It w W0 W p r s i) (hb : Below W.heap.size W W') : It w W0 W' p r s i := h.step (h.rr.below hb) (Mod.of_below hb _)
theorem It.wle (h : It w W0 W p r s i) (h0 : Below w.heap.size w W0) : w.heap.size ≤ r := Nat.le_trans h0.size h.new
/-- .. the result stored. -/
theorem It.fin (h : It w W0 W p r s i) (h0 : Below w.heap.size w W0) (x0 x1 x2 x3 : Nat) : Rr w (put4 W r x0 x1 x2 x3) p s i ∧ Mod [p] W0 (put4 W r x0 x1 x2 x3) :=
  ⟨h.rr.put4 h.ne (h.wle h0) _ _ _ _, put4_mod h.m (.inr h.new) _ _ _ _⟩
theorem it_set {p' : Nat} (h : It w W0 W p r s i) (j : Nat) (hp : p' = p) : It w W0 (W.setCell ⟨p', 1, none⟩ (.int .i64 (j : Int))) p r s j := by
  subst hp
  exact h.step (h.rr.set _).1 (h.rr.set _).2
set_option maxHeartbeats 4000000 in
set_option maxRecDepth 100000 in
theorem item_c (h : Rr w W p s i) (hi : i ≤ s.size) (hsz : s.size ≤ 1000000) (hs : Sent 204 w A bks) :
    Calls Tryd.prog 165 #[.pointer (some ⟨p, 0, none⟩)] W (ItP A w W p s (itm s.data.toList i)) := by
  obtain ⟨b1, b2, b3, b4, b5⟩ := one_go s.data.toList i (by rw [← size_list]; exact hi)
  rw [← size_list] at b3
  have hst := It.start h
  have hB := h.B
  have HO := Lib.hid (fun W' (h' : Rr w W' p s i) => one_c h' hi hsz hs)
  obtain ⟨r1, hr1⟩ : ∃ r, one s.data.toList i = r := ⟨_, rfl⟩
  have hitm : itm s.data.toList i = if r1.2.2 ≠ 0 then (0, 0, r1.2.1, r1.2.2)
      else if s.data.toList[r1.2.1]? = some 45 then
        (if (one s.data.toList (r1.2.1 + 1)).2.2 ≠ 0 then (0, 0, (one s.data.toList (r1.2.1 + 1)).2.1, (one s.data.toList (r1.2.1 + 1)).2.2)
        else if (one s.data.toList (r1.2.1 + 1)).1 < r1.1 then (0, 0, r1.2.1 + 1, 1)
        else (r1.1.toNat, (one s.data.toList (r1.2.1 + 1)).1.toNat, (one s.data.toList (r1.2.1 + 1)).2.1, 0))
      else (r1.1.toNat, r1.1.toNat, r1.2.1, 0) := by rw [itm, hr1]
  rw [hr1] at HO b1 b2 b3 b4 b5
  obtain ⟨v1, n1, g1⟩ := r1
  simp only at HO b1 b2 b3 b4 b5 hitm
  obtain ⟨c1, rfl, hc1⟩ := u8_of v1 b1 b2
  clear hr1 b1 b2
  obtain ⟨r, hr⟩ : ∃ r, W.heap.size = r := ⟨_, rfl⟩
  rw [hr] at hst
  have HSt := Lib.hid hst
  have HB := Lib.hid hB
  have HRr := Lib.hid hr
  clear hst hB hr
  by_cases hg1 : g1 = 0
  · subst hg1
    have hlt := b4 rfl
    rw [if_neg (by simp)] at hitm
    have he0 : evb A 0 = .nilIface := rfl
    rw [he0] at HO
    by_cases hh : s.data.toList[n1]? = some 45
    · rw [if_pos hh] at hitm
      obtain ⟨hl, _⟩ := List.getElem?_eq_some_iff.1 hh
      rw [← size_list] at hl
      have HT := Lib.hid (fun W' (h' : Rr w W' p s n1) => take_yes 45 h' hh hsz)
      obtain ⟨d1, d2, d3, d4, d5⟩ := one_go s.data.toList (n1 + 1) (by rw [← size_list]; omega)
      rw [← size_list] at d3
      have HO2 := Lib.hid (fun W' (h' : Rr w W' p s (n1 + 1 : Nat)) => one_c h' (by omega) hsz hs)
      obtain ⟨r2, hr2⟩ : ∃ r, one s.data.toList (n1 + 1) = r := ⟨_, rfl⟩
      rw [hr2] at d1 d2 d3 d4 d5 hitm HO2
      obtain ⟨v2, n2, g2⟩ := r2
      simp only at d1 d2 d3 d4 d5 hitm HO2
      obtain ⟨c2, rfl, hc2⟩ := u8_of v2 d1 d2
      clear hr2 d1 d2 hh h
      have hHS := Lib.hid hs
      clear hs
      by_cases hg2 : g2 = 0
      · subst hg2
        rw [if_neg (by simp)] at hitm
        rw [he0] at HO2
        by_cases hlt2 : (c2 : Int) < (c1 : Int)
        · rw [if_pos hlt2] at hitm
          rw [hitm]
          have hd : decide (c2 < c1) = true := by simp; omega
          have hc : (((n1 + 1 : Nat)) : Int) = (n1 : Int) + 1 := by omega
          have Hc := Lib.hid hc
          clear hitm he0 hc
          go_enter Tryd.func165, Tryd.ntmps165
          go_wp2_with fail
          rw [HRr.out]
          refine (HO.out _ HSt.out.rr).mono ?_
          rintro e w1 ⟨rfl, r1, m1⟩
          have I1 := Lib.hid (HSt.out.step r1 m1)
          clear r1 m1
          go_wp2_with fail
          refine (HT.out _ I1.out.rr).mono ?_
          rintro e w2 ⟨rfl, r2, m2⟩
          have I2 := Lib.hid (I1.out.step r2 m2)
          clear r2 m2
          have kc := I2.out.rr.cells
          obtain ⟨k0, k1, kf⟩ := kc
          go_wp2_with fail
          refine (HO2.out _ I2.out.rr).mono ?_
          rintro e w3 ⟨rfl, r3, m3⟩
          have I3 := Lib.hid (I2.out.step r3 m3)
          clear k0 k1 kf r3 m3
          have I3 := I3.out
          obtain ⟨k0, k1, kf⟩ := I3.rr.cells
          have e1 := (hHS.out.keep I3.rr.B).cell 3 (by simp [bks])
          have hs4 := it_set I3 (n1 + 1) rfl
          rw [Hc.out] at hs4
          obtain ⟨⟨z0, z1, z2, z3⟩, f0, f1, f2, f3⟩ := hs4.z.cells
          have e1' := (hHS.out.keep hs4.rr.B).cell 3 (by simp [bks])
          have hbz := build_zero
          have HZ := Lib.hid (hs4.z.put 0 0 0 0)
          have hfin := hs4.fin HB.out 0 0 0 0
          have e1p := (hHS.out.keep hfin.1.B).cell 3 (by simp [bks])
          unfold put4 at e1p
          simp only [show ((0 : Nat) : Int) = 0 from rfl] at e1p
          have HF := Lib.hid hfin
          clear hs4 I3 hfin
          go_wp2_with fail
          go_region
          all_goals
            go_wp2
            ((try simp only [Exit.inBlock, Exit.then]); refine bodyPost_ret (Kt.results_cell2_row rfl _ _ (r) 24 _ (0, 0) _ rfl (HZ.out) Tryd.underlying24 rfl ?hi1) rfl ?_; (case hi1 => kernel_rfl))
            exact ⟨[0, 0, 0, 0], rfl, rfl, fun h => absurd h Nat.one_ne_zero, HF.out.1.below (Below.refl _ _).drew, HF.out.2.drew⟩
        · rw [if_neg hlt2] at hitm
          rw [hitm]
          have hd : decide (c2 < c1) = false := by simp; omega
          have hle : c1 ≤ c2 := by omega
          clear hitm he0
          go_enter Tryd.func165, Tryd.ntmps165
          go_wp2_with fail
          rw [HRr.out]
          refine (HO.out _ HSt.out.rr).mono ?_
          rintro e w1 ⟨rfl, r1, m1⟩
          have I1 := Lib.hid (HSt.out.step r1 m1)
          clear r1 m1
          go_wp2_with fail
          refine (HT.out _ I1.out.rr).mono ?_
          rintro e w2 ⟨rfl, r2, m2⟩
          have I2 := Lib.hid (I1.out.step r2 m2)
          clear r2 m2
          have kc := I2.out.rr.cells
          obtain ⟨k0, k1, kf⟩ := kc
          go_wp2_with fail
          refine (HO2.out _ I2.out.rr).mono ?_
          rintro e w3 ⟨rfl, r3, m3⟩
          have I3 := Lib.hid (I2.out.step r3 m3)
          clear k0 k1 kf r3 m3
          go_wp2_with fail
          refine (span_c c1 c2 hc1 hc2 _).mono ?_
          rintro e w4 ⟨rs, rfl, hset, hb4⟩
          obtain ⟨x0, x1, x2, x3, rfl⟩ := set_four hset
          have I4 := I3.out.below hb4
          obtain ⟨⟨z0, z1, z2, z3⟩, f0, f1, f2, f3⟩ := I4.z.cells
          have HZ := Lib.hid (I4.z.put x0 x1 x2 x3)
          have HF := Lib.hid (I4.fin HB.out x0 x1 x2 x3)
          have HSet := Lib.hid hset
          try simp only [sv, vals, List.map_cons, List.map_nil]
          clear hset hb4 I4
          go_wp2
          ((try simp only [Exit.inBlock, Exit.then]); refine bodyPost_ret (Kt.results_cell2_row rfl _ _ (r) 24 _ (0, 0) _ rfl (HZ.out) Tryd.underlying24 rfl ?hi2) rfl ?_; (case hi2 => kernel_rfl))
          exact ⟨_, rfl, HSet.out.len, fun _ => HSet.out, HF.out⟩
      · have hg2' : g2 = 1 ∨ g2 = 2 ∨ g2 = 4 := by omega
        obtain ⟨x, hx⟩ := evb_ne (A := A) hg2'
        rw [if_pos (by simpa using hg2)] at hitm
        rw [hitm]
        delta ItP
        rw [hx] at HO2 ⊢
        clear hitm he0 hx
        go_enter Tryd.func165, Tryd.ntmps165
        go_wp2_with fail
        rw [HRr.out]
        refine (HO.out _ HSt.out.rr).mono ?_
        rintro e w1 ⟨rfl, r1, m1⟩
        have I1 := Lib.hid (HSt.out.step r1 m1)
        clear r1 m1
        go_wp2_with fail
        refine (HT.out _ I1.out.rr).mono ?_
        rintro e w2 ⟨rfl, r2, m2⟩
        have I2 := Lib.hid (I1.out.step r2 m2)
        clear r2 m2
        have kc := I2.out.rr.cells
        obtain ⟨k0, k1, kf⟩ := kc
        go_wp2_with fail
        refine (HO2.out _ I2.out.rr).mono ?_
        rintro e w3 ⟨rfl, r3, m3⟩
        have I3 := Lib.hid (I2.out.step r3 m3)
        clear k0 k1 kf r3 m3
        obtain ⟨⟨z0, z1, z2, z3⟩, f0, f1, f2, f3⟩ := I3.out.z.cells
        have hbz := build_zero
        have HZ := Lib.hid (I3.out.z.put 0 0 0 0)
        have HF := Lib.hid (I3.out.fin HB.out 0 0 0 0)
        go_wp2
        ((try simp only [Exit.inBlock, Exit.then]); refine bodyPost_ret (Kt.results_cell2_row rfl _ _ (r) 24 _ (0, 0) _ rfl (HZ.out) Tryd.underlying24 rfl ?hi3) rfl ?_; (case hi3 => kernel_rfl))
        exact ⟨[0, 0, 0, 0], rfl, rfl, fun h => absurd h hg2, HF.out⟩
    · rw [if_neg hh] at hitm
      have HT := Lib.hid (fun W' (h' : Rr w W' p s n1) => take_c 45 h' hsz false (by simpa using hh))
      rw [hitm]
      clear hitm hh h hs
      go_enter Tryd.func165, Tryd.ntmps165
      go_wp2_with fail
      rw [HRr.out]
      refine (HO.out _ HSt.out.rr).mono ?_
      rintro e w1 ⟨rfl, r1, m1⟩
      have I1 := Lib.hid (HSt.out.step r1 m1)
      clear r1 m1
      go_wp2_with fail
      refine (HT.out _ I1.out.rr).mono ?_
      rintro e w2 ⟨rfl, r2, m2⟩
      have I2 := Lib.hid (I1.out.step r2 m2)
      clear r2 m2
      go_wp2_with fail
      refine (St.one_c c1 hc1 _).mono ?_
      rintro e w4 ⟨rs, rfl, hset, hb4⟩
      obtain ⟨x0, x1, x2, x3, rfl⟩ := set_four hset
      have I4 := I2.out.below hb4
      obtain ⟨⟨z0, z1, z2, z3⟩, f0, f1, f2, f3⟩ := I4.z.cells
      have HZ := Lib.hid (I4.z.put x0 x1 x2 x3)
      have HF := Lib.hid (I4.fin HB.out x0 x1 x2 x3)
      have HSet := Lib.hid hset
      try simp only [sv, vals, List.map_cons, List.map_nil]
      clear hset hb4 I4
      go_wp2
      ((try simp only [Exit.inBlock, Exit.then]); refine bodyPost_ret (Kt.results_cell2_row rfl _ _ (r) 24 _ (0, 0) _ rfl (HZ.out) Tryd.underlying24 rfl ?hi4) rfl ?_; (case hi4 => kernel_rfl))
      exact ⟨_, rfl, HSet.out.len, fun _ => spn_one _ _ HSet.out, HF.out⟩
  · have hg1' : g1 = 1 ∨ g1 = 2 ∨ g1 = 4 := by omega
    obtain ⟨x, hx⟩ := evb_ne (A := A) hg1'
    rw [if_pos (by simpa using hg1)] at hitm
    rw [hitm]
    delta ItP
    rw [hx] at HO ⊢
    clear hitm hx h hs
    go_enter Tryd.func165, Tryd.ntmps165
    go_wp2_with fail
    rw [HRr.out]
    refine (HO.out _ HSt.out.rr).mono ?_
    rintro e w1 ⟨rfl, r1, m1⟩
    have I1 := Lib.hid (HSt.out.step r1 m1)
    clear r1 m1
    go_wp2_with fail
    refine (St.one_c c1 hc1 _).mono ?_
    rintro e w4 ⟨rs, rfl, hset, hb4⟩
    obtain ⟨x0, x1, x2, x3, rfl⟩ := set_four hset
    have I4 := I1.out.below hb4
    obtain ⟨⟨z0, z1, z2, z3⟩, f0, f1, f2, f3⟩ := I4.z.cells
    have HZ := Lib.hid (I4.z.put x0 x1 x2 x3)
    have HF := Lib.hid (I4.fin HB.out x0 x1 x2 x3)
    have HSet := Lib.hid hset
    try simp only [sv, vals, List.map_cons, List.map_nil]
    clear hset hb4 I4
    go_wp2
    ((try simp only [Exit.inBlock, Exit.then]); refine bodyPost_ret (Kt.results_cell2_row rfl _ _ (r) 24 _ (0, 0) _ rfl (HZ.out) Tryd.underlying24 rfl ?hi5) rfl ?_; (case hi5 => kernel_rfl))
    exact ⟨_, rfl, HSet.out.len, fun h => absurd h hg1, HF.out⟩
end Bk
end Go.Proofs.YtoeeddfinmfnoaaDoor

/- brackets.Dot. -/
namespace Go.Proofs.YtoeeddfinmfnoaaDoor
open Go Go.RowKit Kt Sp St
namespace Bk
set_option maxRecDepth 100000 in
theorem dot_c (w : World) : Calls Tryd.prog 99 #[] w fun e w' => ∃ rs, e = .returned (sv rs) ∧ IsSet rs (fun q => !decide (q = 10)) ∧ Below w.heap.size w w' := by
  have b1 := (Below.refl w.heap.size w).alloc (Nat.le_refl _) (.cells #[.int .u64 0, .int .u64 0, .int .u64 0, .int .u64 0] 24)
  have a1 : Ab (w.alloc (.cells #[.int .u64 0, .int .u64 0, .int .u64 0, .int .u64 0] 24)) w.heap.size 0 0 0 0 := heap_alloc_new w _
  have HO := Lib.hid (fun w => (show Calls Tryd.prog 61 #[.int .u8 10] w _ from St.one_c 10 (by omega) w))
  have HB1 := Lib.hid b1
  have HA1 := Lib.hid a1
  clear b1 a1
  go_enter Tryd.func99, Tryd.ntmps99
  go_wp2_with fail
  refine (HO.out _).mono ?_
  rintro e w2 ⟨rs, rfl, hset, hb2⟩
  obtain ⟨x0, x1, x2, x3, rfl⟩ := set_four hset
  have HN := Lib.hid (fun w => not_c [x0, x1, x2, x3] _ hset w)
  have HA2 := Lib.hid (HA1.out.below hb2)
  have HB2 := Lib.hid (HB1.out.trans (hb2.mono HB1.out.size))
  simp only [sv, vals, List.map_cons, List.map_nil] at HN ⊢
  clear hset hb2
  go_wp2_with fail
  refine (HN.out _).mono ?_
  rintro e w3 ⟨us, rfl, hu, hb3⟩
  obtain ⟨u0, u1, u2, u3, rfl⟩ := set_four hu
  have A3 := HA2.out.below hb3
  obtain ⟨⟨k0, k1, k2, k3⟩, f0, f1, f2, f3⟩ := A3.cells
  have HF := Lib.hid (A3.put u0 u1 u2 u3)
  have HB3 := Lib.hid (put4_below (HB2.out.trans (hb3.mono HB2.out.size)) (Nat.le_refl w.heap.size) u0 u1 u2 u3)
  have HU := Lib.hid hu
  try simp only [sv, vals, List.map_cons, List.map_nil]
  clear hu hb3 A3
  go_wp2
  ((try simp only [Exit.inBlock, Exit.then]); refine bodyPost_ret (results_cell_row rfl _ _ (w.heap.size) 24 _ (0, 0) _ rfl (HF.out) Tryd.underlying24 rfl ?hi1) rfl ?_; (case hi1 => kernel_rfl))
  exact ⟨[u0, u1, u2, u3], rfl, HU.out, HB3.out⟩
end Bk
end Go.Proofs.YtoeeddfinmfnoaaDoor
