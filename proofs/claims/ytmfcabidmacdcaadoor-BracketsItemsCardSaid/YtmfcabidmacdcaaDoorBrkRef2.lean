/- The document's brackets: dofferref06.Read answers brd. -/
import Derived.Test.YtmfcabidmacdcaaDoorBrkRef
import Derived.Test.YtmfcabidmacdcaaDoorSetsR2
import Derived.Test.YtmfcabidmacdcaaDoorRetCell
import Derived.Deep.LoopGhost
namespace Go.Proofs.YtmfcabidmacdcaaDoor
open Go Go.RowKit Kt Sp St
namespace Bk
variable {w W W' : World}
/-- An array variable of four words at block r. -/
def Aw (W : World) (r x0 x1 x2 x3 : Nat) : Prop := W.heap[r]? = some (.cells #[.int .u64 (x0 : Int), .int .u64 (x1 : Int), .int .u64 (x2 : Int), .int .u64 (x3 : Int)] 24 (0, 0))
theorem Aw.below {r x0 x1 x2 x3 : Nat} (h : Aw W r x0 x1 x2 x3) (hb : Below W.heap.size W W') : Aw W' r x0 x1 x2 x3 := (hb.block r (block_lt h)).trans h
theorem Aw.set {r x0 x1 x2 x3 g q : Nat} {v : Value} (h : Aw W r x0 x1 x2 x3) (hg : r ≠ g) : Aw (W.setCell ⟨g, q, none⟩ v) r x0 x1 x2 x3 := (block_setOther hg v).trans h
theorem Aw.cells {r x0 x1 x2 x3 : Nat} (h : Aw W r x0 x1 x2 x3) : (W.cell? ⟨r, 0, none⟩ = some (.int .u64 (x0 : Int)) ∧ W.cell? ⟨r, 1, none⟩ = some (.int .u64 (x1 : Int)) ∧ W.cell? ⟨r, 2, none⟩ = some (.int .u64 (x2 : Int)) ∧ W.cell? ⟨r, 3, none⟩ = some (.int .u64 (x3 : Int))) ∧
    W.frozen? ⟨r, 0, none⟩ = false ∧ W.frozen? ⟨r, 1, none⟩ = false ∧ W.frozen? ⟨r, 2, none⟩ = false ∧ W.frozen? ⟨r, 3, none⟩ = false :=
  ⟨⟨cell_block h 0, cell_block h 1, cell_block h 2, cell_block h 3⟩, frozen_block h 0, frozen_block h 1, frozen_block h 2, frozen_block h 3⟩
def putw (W : World) (r x0 x1 x2 x3 : Nat) : World := (((W.setCell ⟨r, 0, none⟩ (.int .u64 (x0 : Int))).setCell ⟨r, 1, none⟩ (.int .u64 (x1 : Int))).setCell ⟨r, 2, none⟩ (.int .u64 (x2 : Int))).setCell ⟨r, 3, none⟩ (.int .u64 (x3 : Int))
theorem Aw.put {r x0 x1 x2 x3 : Nat} (h : Aw W r x0 x1 x2 x3) (z0 z1 z2 z3 : Nat) : Aw (putw W r z0 z1 z2 z3) r z0 z1 z2 z3 := store4 h _ _ _ _
theorem putw_below {B : Nat} {W0 : World} {r : Nat} (h : Below B W0 W) (hr : B ≤ r) (z0 z1 z2 z3 : Nat) : Below B W0 (putw W r z0 z1 z2 z3) :=
  (((h.setCell (p := ⟨r, 0, none⟩) hr _).setCell (p := ⟨r, 1, none⟩) hr _).setCell (p := ⟨r, 2, none⟩) hr _).setCell (p := ⟨r, 3, none⟩) hr _
/-- What the document's Read answers. -/
def RfP (w : World) (r : (Nat → Bool) × Nat × Nat) (e : Ending) (w' : World) : Prop :=
  ∃ rs, e = .returned (.tuple #[sv rs, .int .i64 (r.2.1 : Int), .int .i64 (r.2.2 : Int)]) ∧ IsSet rs r.1 ∧ Below w.heap.size w w'
/-- The blocks: the result's, none's, the row of truths. -/
structure Rm (w W : World) (r z g : Nat) (f : Nat → Bool) : Prop where
  rr : Aw W r 0 0 0 0
  zz : Aw W z 0 0 0 0
  own : W.ownsRow (w.heap.size + 2) 4 1 (.slice (some ⟨g, 0, none⟩) 256 256) 256 (bools (mkl f))
  B : Below w.heap.size w W
  ne : r ≠ g ∧ z ≠ g ∧ r ≠ z ∧ w.heap.size ≤ r ∧ w.heap.size ≤ g
variable {r z g : Nat} {f f' : Nat → Bool}
theorem Rm.below (h : Rm w W r z g f) (hb : Below W.heap.size W W') : Rm w W' r z g f := ⟨h.rr.below hb, h.zz.below hb, own_keep h.own hb, h.B.trans (hb.mono h.B.size), h.ne⟩
theorem Rm.congr (h : Rm w W r z g f) (hf : ∀ q, q < 256 → f q = f' q) : Rm w W r z g f' := ⟨h.rr, h.zz, by rw [← mkl_congr hf]; exact h.own, h.B, h.ne⟩
theorem Rm.cell (h : Rm w W r z g f) (q : Nat) (hq : q < 256) : W.cell? ⟨g, q, none⟩ = some (.bool (f q)) ∧ W.frozen? ⟨g, q, none⟩ = false := by
  obtain ⟨bb, off, he, hcc⟩ := Rd.bool (Rd.own h.own) q (by rw [mkl_len]; exact hq)
  simp only [Option.some.injEq, Addr.mk.injEq, and_true] at he
  obtain ⟨rfl, rfl⟩ := he
  refine ⟨?_, h.own.frozenAt q⟩
  have e : (mkl f)[q]'(by rw [mkl_len]; exact hq) = f q := by simp [mkl]
  rw [e] at hcc
  simpa using hcc
theorem Rm.set (h : Rm w W r z g f) (q : Nat) (v : Bool) (hv : f' q = v) (hf : ∀ x, x < 256 → x ≠ q → f' x = f x) : Rm w (W.setCell ⟨g, q, none⟩ (.bool v)) r z g f' := by
  have hst := (World.ownsRow.stored h.own q (.bool v)).1
  rw [mkl_set f f' q v hv hf] at hst
  exact ⟨h.rr.set h.ne.1, h.zz.set h.ne.2.1, hst, h.B.setCell (p := ⟨g, q, none⟩) h.ne.2.2.2.2 _, h.ne⟩
theorem Rm.fin (h : Rm w W r z g f) (x0 x1 x2 x3 : Nat) : Aw (putw W r x0 x1 x2 x3) r x0 x1 x2 x3 ∧ Below w.heap.size w (putw W r x0 x1 x2 x3) := ⟨h.rr.put _ _ _ _, putw_below h.B h.ne.2.2.2.1 _ _ _ _⟩
/-- The outer loop: at most k rounds are to come, and their end is R. -/
def RoP (w : World) (r z g : Nat) (s : ByteArray) (R : (Nat → Bool) × Nat × Nat) (k : Nat) (a m : Value) (W : World) : Prop :=
  ∃ (f : Nat → Bool) (i mc : Nat), i ≤ s.size ∧ s.size < k + i ∧ lp s.data.toList k f i (decide (mc = 0)) = R ∧ a = .int .i64 (i : Int) ∧ m = .int .i64 (mc : Int) ∧ mc ≤ i ∧ Rm w W r z g f
/-- The bytes of an item are put in. -/
def RiP (w : World) (r z g lo hi : Nat) (f : Nat → Bool) (c : Value) (W : World) : Prop := ∃ q : Nat, lo ≤ q ∧ q ≤ hi + 1 ∧ c = .int .i64 (q : Int) ∧ Rm w W r z g (ors f fun x => decide (lo ≤ x) && decide (x < q))
/-- The bytes are turned. -/
def RtP (w : World) (r z g : Nat) (f : Nat → Bool) (c : Value) (W : World) : Prop := ∃ q : Nat, q ≤ 256 ∧ c = .int .i64 (q : Int) ∧ Rm w W r z g (fun x => if x < q then !f x else f x)
/-- Behind an item. -/
def RjP (w : World) (r z g : Nat) (f : Nat → Bool) (l : List UInt8) (i lo : Nat) (a h : Value) (W : World) : Prop := ∃ hi nx : Nat, itm l i = (lo, hi, nx, 0) ∧ lo ≤ hi ∧ a = .int .i64 (nx : Int) ∧ h = .int .u8 (hi : Int) ∧ Rm w W r z g f
theorem itm_unf (l : List UInt8) (i n1 g1 : Nat) (v1 : Int) (h : one l i = (v1, n1, g1)) : itm l i = if g1 ≠ 0 then (0, 0, n1, g1)
      else if l[n1]? = some 45 then
        (if (one l (n1 + 1)).2.2 ≠ 0 then (0, 0, (one l (n1 + 1)).2.1, (one l (n1 + 1)).2.2)
        else if (one l (n1 + 1)).1 < v1 then (0, 0, n1 + 1, 1)
        else (v1.toNat, (one l (n1 + 1)).1.toNat, (one l (n1 + 1)).2.1, 0))
      else (v1.toNat, v1.toNat, n1, 0) := by rw [itm, h]
theorem itm_gos' (s : ByteArray) (n i : Nat) (hn : s.size = n) (h : i ≤ n) : (itm s.data.toList i).2.2.1 ≤ n ∧ ((itm s.data.toList i).2.2.2 = 0 → i < (itm s.data.toList i).2.2.1) ∧ ((itm s.data.toList i).2.2.2 = 0 ∨ (itm s.data.toList i).2.2.2 = 1 ∨ (itm s.data.toList i).2.2.2 = 2 ∨ (itm s.data.toList i).2.2.2 = 4) := by
  subst hn
  obtain ⟨_, _, h3, h4, h5⟩ := itm_go s.data.toList i (by rw [← size_list]; exact h)
  rw [← size_list] at h3
  exact ⟨h3, h4, h5⟩
theorem none_set' : IsSet [0, 0, 0, 0] none' := zero_set
set_option maxHeartbeats 16000000 in
set_option maxRecDepth 100000 in
theorem rread_yes (s : ByteArray) (i : Nat) (w : World) (hi : i < s.size) (hc : s.data.toList[i]? = some 91) (hsz : s.size ≤ 1000000) : Calls Tryd.prog 14 #[.string s, .int .i64 (i : Int)] w (RfP w (brd s.data.toList i)) := by
  have hl := size_list s
  have ix91 := fun w => idx_run Tryd.underlying9 s .i64 (i : Int) i 91 rfl hc w
  simp only [UInt8.reduceToNat, Int.cast_ofNat_Int] at ix91
  obtain ⟨nb, hnb⟩ : ∃ nb, decide (s.data.toList[i + 1]? = some 94) = nb := ⟨_, rfl⟩
  obtain ⟨j, hj⟩ : ∃ j, (if nb then i + 1 + 1 else i + 1) = j := ⟨_, rfl⟩
  obtain ⟨R, hR⟩ : ∃ R, lp s.data.toList (s.size + 1) none' j true = R := ⟨_, rfl⟩
  obtain ⟨Z, hZ⟩ : ∃ Z, brd s.data.toList i = Z := ⟨_, rfl⟩
  have hbrd : brd s.data.toList i = if nb then (if R.2.2 ≠ 0 then R else (fun q => !R.1 q, R.2.1, 0)) else R := by
    unfold brd
    rw [← hl, if_neg (by omega), if_neg (by rw [hc]; simp)]
    subst hR hj
    cases nb with
    | true => rw [if_pos (by simpa using hnb)]; rfl
    | false => rw [if_neg (by simpa using hnb)]; rfl
  have hjl : j ≤ s.size := by
    subst hj
    cases nb with
    | false => simp; omega
    | true =>
      have : s.data.toList[i + 1]? = some 94 := by simpa using hnb
      have := (List.getElem?_eq_some_iff.1 this).1
      simp; omega
  rw [hZ] at hbrd ⊢
  have HBrd := Lib.hid hbrd
  have HR := Lib.hid hR
  have HJ := Lib.hid hj
  obtain ⟨n, hn⟩ : ∃ n, s.size = n := ⟨_, rfl⟩
  rw [hn] at hi hsz hl hjl HR
  -- the second byte
  have hsec : (i + 1 < n ∧ ∃ c2 : UInt8, (c2 = 94 ↔ nb = true) ∧ ∀ w, (Instr.index 9 (.string s) (.int .i64 ((i : Int) + 1))).run Tryd.prog w = .ok (.int .u8 (c2.toNat : Int)) w) ∨ (¬ i + 1 < n ∧ nb = false) := by
    by_cases h : i + 1 < n
    · obtain ⟨c2, hc2⟩ := get_lt (l := s.data.toList) (i := i + 1) (by omega)
      refine .inl ⟨h, c2, ?_, fun w => idx_run Tryd.underlying9 s .i64 ((i : Int) + 1) (i + 1) c2 (by omega) hc2 w⟩
      rw [← hnb, hc2]
      simp
    · refine .inr ⟨h, ?_⟩
      rw [← hnb, List.getElem?_eq_none (by omega)]
      rfl
  clear hbrd hR hj hZ hnb hc
  obtain ⟨w2, hmk, own, gr⟩ := elBool.make (w.heap.size + 2) ((w.alloc (.cells #[.int .u64 0, .int .u64 0, .int .u64 0, .int .u64 0] 24)).alloc (.cells #[.int .u64 0, .int .u64 0, .int .u64 0, .int .u64 0] 24)) .i64 .i64 256 256 rfl (by omega) (by unfold maxLen; omega) (by simp)
  rw [zeros256] at own
  have hz2 : ((w.alloc (.cells #[.int .u64 0, .int .u64 0, .int .u64 0, .int .u64 0] 24)).alloc (.cells #[.int .u64 0, .int .u64 0, .int .u64 0, .int .u64 0] 24)).heap.size = w.heap.size + 2 := by simp
  rw [hz2] at own hmk
  have b2 : Below w.heap.size w ((w.alloc (.cells #[.int .u64 0, .int .u64 0, .int .u64 0, .int .u64 0] 24)).alloc (.cells #[.int .u64 0, .int .u64 0, .int .u64 0, .int .u64 0] 24)) := ((Below.refl _ _).alloc (Nat.le_refl _) _).alloc (by simp) _
  have b3 : Below ((w.alloc (.cells #[.int .u64 0, .int .u64 0, .int .u64 0, .int .u64 0] 24)).alloc (.cells #[.int .u64 0, .int .u64 0, .int .u64 0, .int .u64 0] 24)).heap.size ((w.alloc (.cells #[.int .u64 0, .int .u64 0, .int .u64 0, .int .u64 0] 24)).alloc (.cells #[.int .u64 0, .int .u64 0, .int .u64 0, .int .u64 0] 24)) w2 := below_made gr (Nat.le_refl _)
  have hr0 : Aw ((w.alloc (.cells #[.int .u64 0, .int .u64 0, .int .u64 0, .int .u64 0] 24)).alloc (.cells #[.int .u64 0, .int .u64 0, .int .u64 0, .int .u64 0] 24)) w.heap.size 0 0 0 0 := heap_alloc2_old w _ _
  have hz0 : Aw ((w.alloc (.cells #[.int .u64 0, .int .u64 0, .int .u64 0, .int .u64 0] 24)).alloc (.cells #[.int .u64 0, .int .u64 0, .int .u64 0, .int .u64 0] 24)) (w.heap.size + 1) 0 0 0 0 := by
    have := heap_alloc_new (w.alloc (.cells #[.int .u64 0, .int .u64 0, .int .u64 0, .int .u64 0] 24)) (.cells #[.int .u64 0, .int .u64 0, .int .u64 0, .int .u64 0] 24)
    rw [World.size_alloc] at this
    exact this
  have hrm : Rm w w2 w.heap.size (w.heap.size + 1) (w.heap.size + 2) none' := ⟨hr0.below b3, hz0.below b3, own, b2.trans (b3.mono b2.size), by omega, by omega, by omega, Nat.le_refl _, by omega⟩
  have HRm := Lib.hid hrm
  have HSec := Lib.hid hsec
  have HN := Lib.hid hn
  have HL := Lib.hid hl
  have hbz : ∀ w : World, (Instr.build 24 #[]).run Tryd.prog w = .ok (.agg #[.int .u64 0, .int .u64 0, .int .u64 0, .int .u64 0]) w := fun w => by kernel_rfl
  clear own gr hz2 b2 b3 hr0 hz0 hrm hsec hl
  obtain ⟨W1, hW1⟩ : ∃ W1, ((w.alloc (.cells #[.int .u64 0, .int .u64 0, .int .u64 0, .int .u64 0] 24)).alloc (.cells #[.int .u64 0, .int .u64 0, .int .u64 0, .int .u64 0] 24)) = W1 := ⟨_, rfl⟩
  rw [hW1] at hmk
  have HW1 := Lib.hid hW1
  have Hmk := Lib.hid hmk
  clear hW1 hmk
  go_enter Tryd.func14, Tryd.ntmps14
  go_upto_region 7 with (fail)
  go_cut [8] (fun v W' => v = .bool nb ∧ W1 = W')
  case first =>
    rcases HSec.out with ⟨h1, c2, h2, ix2⟩ | ⟨h1, rfl⟩
    · by_cases h94 : c2 = 94
      · subst h94
        have : nb = true := h2.1 rfl
        subst this
        simp only [UInt8.reduceToNat, Int.cast_ofNat_Int] at ix2
        clear h2
        go_wp2
        go_meet
        case rel => exact ⟨rfl, HW1.out.symm⟩
      · have : nb = false := by
          cases nb with
          | false => rfl
          | true => exact absurd (h2.2 rfl) h94
        subst this
        have hne : ((c2.toNat : Int) == 94) = false := by
          simp
          intro h
          exact h94 (UInt8.toNat_inj.1 (by simp; omega))
        clear h2
        go_wp2
        go_meet
        case rel => exact ⟨rfl, HW1.out.symm⟩
    · have h1' : decide (i + 1 < n) = false := by simpa using h1
      go_wp2
      go_meet
      case rel => exact ⟨rfl, HW1.out.symm⟩
  case rest =>
    obtain ⟨rfl, rfl⟩ := hcut
    clear HSec
    go_upto_if 48 with (fail)
    go_cut [1] (fun v W' => v = .int .i64 (j : Int) ∧ W1 = W')
    case first =>
      have hjj := HJ.out
      cases nb with
      | false =>
        have e : (j : Int) = (i : Int) + 1 := by rw [← hjj]; simp
        have E := Lib.hid e
        clear hjj e
        go_wp2
        go_meet
        case rel => exact ⟨by rw [E.out], rfl⟩
      | true =>
        have e : (j : Int) = (i : Int) + 1 + 1 := by rw [← hjj]; simp
        have E := Lib.hid e
        clear hjj e
        go_wp2
        go_meet
        case rel => exact ⟨by rw [E.out], rfl⟩
    case rest =>
      obtain ⟨rfl, rfl⟩ := hcut
      clear ix91
      have hmk := Hmk.out
      obtain ⟨r, hr⟩ : ∃ r, w.heap.size = r := ⟨_, rfl⟩
      rw [hr] at hmk HRm
      obtain ⟨z, hz⟩ : ∃ z, r + 1 = z := ⟨_, rfl⟩
      obtain ⟨g, hg⟩ : ∃ g, r + 2 = g := ⟨_, rfl⟩
      rw [hz, hg] at HRm
      rw [hg] at hmk
      have HRr := Lib.hid hr
      have HZz := Lib.hid hz
      go_wp2_with fail
      rw [HRr.out]
      rw [HZz.out]
      have hj' : j ≤ s.size := by rw [HN.out]; exact hjl
      have h0 : s.size < n + 1 + j := by rw [HN.out]; omega
      go_loopg [1, 10] (n + 1) (fun k a m W' => RoP w r z g s R k a m W')
      case atStart => exact ⟨none', j, 0, hj', h0, by rw [← HR.out]; rfl, rfl, rfl, Nat.zero_le _, HRm.out⟩
      case round =>
        clear HRm hj' h0 hmk
        obtain ⟨f, i2, mc, hi2, hk, hlp, rfl, rfl, hmc, hm⟩ := hrel
        rw [HN.out] at hi2 hk
        obtain ⟨k, rfl⟩ : ∃ k, gk = k + 1 := ⟨gk - 1, by omega⟩
        rw [lp] at hlp
        by_cases hx : decide (mc = 0) = false ∧ s.data.toList[i2]? = some 93
        · rw [if_pos hx] at hlp
          obtain ⟨hx1, hx2⟩ := hx
          have hmc0 : 0 < mc := by simp at hx1; omega
          have hil : i2 < n := by rw [HL.out]; exact (List.getElem?_eq_some_iff.1 hx2).1
          have ix := fun w => idx_run Tryd.underlying9 s .i64 (i2 : Int) i2 93 rfl hx2 w
          simp only [UInt8.reduceToNat, Int.cast_ofNat_Int] at ix
          subst hlp
          have HRm := Lib.hid hm
          clear hx1 hx2 hm HR
          cases nb with
          | false =>
            have hz' : Z = (f, i2 + 1, 0) := HBrd.out
            have HZ' := Lib.hid hz'
            have HO := Lib.hid (fun (W' : World) (hr : Rm w W' r z g f) => rof_c (some ⟨g, 0, none⟩) 256 256 _ W' (mkl_len _) rfl (Rd.own hr.own))
            clear hz'
            go_wp2_with fail
            refine (HO.out _ HRm.out).mono ?_
            rintro e w5 ⟨rs, rfl, hrs, hb5⟩
            have hset : IsSet rs f := ⟨hrs.len, hrs.lt, fun q hq => by rw [hrs.at' q hq]; exact mkl_get _ q hq⟩
            obtain ⟨x0, x1, x2, x3, rfl⟩ := four hrs.len
            have R5 := HRm.out.below hb5
            obtain ⟨⟨k0, k1, k2, k3⟩, f0, f1, f2, f3⟩ := R5.rr.cells
            have HF := Lib.hid (R5.fin x0 x1 x2 x3)
            have HSet := Lib.hid hset
            try simp only [sv, vals, List.map_cons, List.map_nil]
            clear hrs hset hb5 R5
            go_wp2
            ((try simp only [Exit.inBlock, Exit.then]); refine bodyPost_ret (Kt.results_cell3_row rfl _ _ (r) 24 _ (0, 0) _ rfl (HF.out.1) Tryd.underlying24 rfl ?hi1) rfl ?_; (case hi1 => kernel_rfl))
            rw [HZ'.out]
            exact ⟨[x0, x1, x2, x3], rfl, HSet.out, HF.out.2⟩
          | true =>
            have hz' : Z = (fun q => !f q, i2 + 1, 0) := HBrd.out
            have HZ' := Lib.hid hz'
            clear hz'
            go_wp2_with fail
            go_loopw [17, 126] (fun _ c W' => RtP w r z g f c W') (fun _ c _ => 256 - (intOf c).toNat)
            case atStart => exact ⟨0, Nat.zero_le _, rfl, HRm.out.congr (by intro q _; simp)⟩
            case round =>
              clear HRm
              obtain ⟨q, hq, rfl, hm⟩ := hrel
              by_cases hlt : q < 256
              · obtain ⟨cq, fq⟩ := hm.cell q hlt
                simp only [Nat.lt_irrefl, if_false] at cq
                have hs := hm.set (f' := fun x => if x < q + 1 then !f x else f x) q (!f q) (by simp) (fun x _ hxq => by by_cases h : x < q <;> simp [h] <;> omega)
                have HS := Lib.hid hs
                generalize f q = fq' at *
                clear hm hs
                go_wp2
                go_roundw
                case rel => first | exact ⟨q + 1, hlt, by go_num, HS.out⟩ | ((repeat apply Exists.intro); refine ⟨?r, ?f⟩; (case f => (and_intros <;> rfl)); exact ⟨q + 1, hlt, by go_num, HS.out⟩)
                case measure => simp [intOf]; omega
              · have hm' : Rm w wr r z g (fun q => !f q) := hm.congr fun x hx => by simp; omega
                have HRm := Lib.hid hm'
                clear hm hm'
                have HO := Lib.hid (fun (W' : World) (hr : Rm w W' r z g (fun q => !f q)) => rof_c (some ⟨g, 0, none⟩) 256 256 _ W' (mkl_len _) rfl (Rd.own hr.own))
                go_wp2_with fail
                refine (HO.out _ HRm.out).mono ?_
                rintro e w5 ⟨rs, rfl, hrs, hb5⟩
                have hset : IsSet rs (fun q => !f q) := ⟨hrs.len, hrs.lt, fun q hq => by rw [hrs.at' q hq]; exact mkl_get _ q hq⟩
                obtain ⟨x0, x1, x2, x3, rfl⟩ := four hrs.len
                have R5 := HRm.out.below hb5
                obtain ⟨⟨k0, k1, k2, k3⟩, f0, f1, f2, f3⟩ := R5.rr.cells
                have HF := Lib.hid (R5.fin x0 x1 x2 x3)
                have HSet := Lib.hid hset
                try simp only [sv, vals, List.map_cons, List.map_nil]
                clear hrs hset hb5 R5
                go_wp2
                ((try simp only [Exit.inBlock, Exit.then]); refine bodyPost_ret (Kt.results_cell3_row rfl _ _ (r) 24 _ (0, 0) _ rfl (HF.out.1) Tryd.underlying24 rfl ?hi2) rfl ?_; (case hi2 => kernel_rfl))
                rw [HZ'.out]
                exact ⟨[x0, x1, x2, x3], rfl, HSet.out, HF.out.2⟩
        · rw [if_neg hx] at hlp
          obtain ⟨t1, t2, t3⟩ := itm_gos' s n i2 HN.out hi2
          have hcond : mc = 0 ∨ (0 < mc ∧ ¬ i2 < n) ∨ (0 < mc ∧ i2 < n ∧ ∃ c2 : UInt8, ((c2.toNat : Int) == 93) = false ∧ ∀ w, (Instr.index 9 (.string s) (.int .i64 (i2 : Int))).run Tryd.prog w = .ok (.int .u8 (c2.toNat : Int)) w) := by
            by_cases h0 : mc = 0
            · exact .inl h0
            · by_cases h1 : i2 < n
              · obtain ⟨c2, hc2⟩ := get_lt (l := s.data.toList) (i := i2) (by rw [← HL.out]; exact h1)
                refine .inr (.inr ⟨by omega, h1, c2, ?_, fun w => idx_run Tryd.underlying9 s .i64 (i2 : Int) i2 c2 rfl hc2 w⟩)
                simp
                intro h
                apply hx
                refine ⟨by simpa using h0, ?_⟩
                rw [hc2]
                congr 1
                exact UInt8.toNat_inj.1 (by simp; omega)
              · exact .inr (.inl ⟨by omega, h1⟩)
          have HCond := Lib.hid hcond
          have HRm := Lib.hid hm
          have HLp := Lib.hid hlp
          clear hcond hm hlp hx HR
          go_upto_region 12 with (fail)
          go_cut [65] (fun v W' => v = .bool false ∧ wr = W')
          case first =>
            rcases HCond.out with rfl | ⟨h1, h2⟩ | ⟨h1, h2, c2, h3, ix2⟩
            · go_wp2
              go_meet
              case rel => exact ⟨rfl, rfl⟩
            · have h2' : decide (i2 < n) = false := by simpa using h2
              go_wp2
              go_meet
              case rel => exact ⟨rfl, rfl⟩
            · go_wp2
              go_meet
              case rel => exact ⟨rfl, rfl⟩
          case rest =>
            obtain ⟨rfl, rfl⟩ := hcut
            clear HCond
            have HO := Lib.hid (rone_c s i2 (by rw [HN.out]; exact hsz) wr)
            obtain ⟨b1, b2, b3, b4, b5⟩ := one_go s.data.toList i2 (by rw [← HL.out]; exact hi2)
            rw [← HL.out] at b3
            obtain ⟨r1, hr1⟩ : ∃ r1, one s.data.toList i2 = r1 := ⟨_, rfl⟩
            obtain ⟨v1, n1, g1⟩ := r1
            have hitm := itm_unf _ _ _ _ _ hr1
            rw [hr1] at HO b1 b2 b3 b4 b5
            simp only [resN] at HO b1 b2 b3 b4 b5
            obtain ⟨c1, rfl, hc1⟩ : ∃ c : Nat, v1 = (c : Int) ∧ c < 256 := ⟨v1.toNat, by omega, by omega⟩
            obtain ⟨q, hq⟩ : ∃ q, itm s.data.toList i2 = q := ⟨_, rfl⟩
            rw [hq] at hitm t1 t2 t3
            have HQ := Lib.hid hq
            have HItm := Lib.hid hitm
            clear hr1 b1 b2 hq hitm
            go_wp2_with fail
            refine HO.out.mono ?_
            rintro e w5 ⟨rfl, hb5⟩
            have HRm5 := Lib.hid (HRm.out.below hb5)
            clear hb5 HO
            by_cases hg1 : g1 = 0
            · subst hg1
              have hlt := b4 rfl
              clear b4 b5
              have hhy : ∃ hy, decide (s.data.toList[n1]? = some 45) = hy := ⟨_, rfl⟩
              obtain ⟨hy, hhy⟩ := hhy
              have hcd : (¬ n1 < n ∧ hy = false) ∨ (n1 < n ∧ ∃ c2 : UInt8, ((c2.toNat : Int) == 45) = hy ∧ ∀ w, (Instr.index 9 (.string s) (.int .i64 (n1 : Int))).run Tryd.prog w = .ok (.int .u8 (c2.toNat : Int)) w) := by
                by_cases h1 : n1 < n
                · obtain ⟨c2, hc2⟩ := get_lt (l := s.data.toList) (i := n1) (by rw [← HL.out]; exact h1)
                  refine .inr ⟨h1, c2, ?_, fun w => idx_run Tryd.underlying9 s .i64 (n1 : Int) n1 c2 rfl hc2 w⟩
                  rw [← hhy, hc2, Bool.eq_iff_iff]
                  simp
                  constructor
                  · intro h; exact UInt8.toNat_inj.1 (by simp; omega)
                  · rintro rfl; rfl
                · refine .inl ⟨h1, ?_⟩
                  rw [← hhy, List.getElem?_eq_none (by rw [← HL.out]; omega)]
                  rfl
              have HCd := Lib.hid hcd
              have HHy := Lib.hid hhy
              clear hcd hhy
              go_upto_region 19 with (fail)
              go_cut [91] (fun v W' => v = .bool hy ∧ w5 = W')
              case first =>
                rcases HCd.out with ⟨h1, rfl⟩ | ⟨h1, c2, h3, ix2⟩
                · have h2' : decide (n1 < n) = false := by simpa using h1
                  go_wp2
                  go_meet
                  case rel => exact ⟨rfl, rfl⟩
                · cases hy
                  all_goals
                    go_wp2
                    go_meet
                    case rel => exact ⟨rfl, rfl⟩
              case rest =>
                obtain ⟨rfl, rfl⟩ := hcut
                clear HCd
                go_upto_if 91 with (fail)
                go_cut [1, 14] (fun a h W' => RjP w r z g f s.data.toList i2 c1 a h W')
                case first =>
                  cases hy with
                  | false =>
                    have hno : ¬ s.data.toList[n1]? = some 45 := by simpa using HHy.out
                    have hq' := HItm.out
                    rw [if_neg (by simp), if_neg hno] at hq'
                    have hq2 : itm s.data.toList i2 = (c1, c1, n1, 0) := by rw [HQ.out, hq']; simp
                    have HQ2 := Lib.hid hq2
                    clear hq' hq2 hno
                    go_wp2
                    go_meet
                    case rel => exact ⟨c1, n1, HQ2.out, Nat.le_refl _, rfl, rfl, HRm5.out⟩
                  | true =>
                    have hyes : s.data.toList[n1]? = some 45 := by simpa using HHy.out
                    have hn1 : n1 < n := by rw [HL.out]; exact (List.getElem?_eq_some_iff.1 hyes).1
                    have HO2 := Lib.hid (fun W' => rone_c s (n1 + 1) (by rw [HN.out]; exact hsz) W')
                    obtain ⟨d1, d2, d3, d4, d5⟩ := one_go s.data.toList (n1 + 1) (by rw [← HL.out]; omega)
                    rw [← HL.out] at d3
                    have hq' := HItm.out
                    rw [if_neg (by simp), if_pos hyes] at hq'
                    obtain ⟨r2, hr2⟩ : ∃ r2, one s.data.toList (n1 + 1) = r2 := ⟨_, rfl⟩
                    obtain ⟨v2, n2, g2⟩ := r2
                    rw [hr2] at HO2 d1 d2 d3 d4 d5 hq'
                    simp only [resN] at HO2 d1 d2 d3 d4 d5 hq'
                    obtain ⟨c2, rfl, hc2⟩ : ∃ c : Nat, v2 = (c : Int) ∧ c < 256 := ⟨v2.toNat, by omega, by omega⟩
                    have hcast : ((n1 + 1 : Nat) : Int) = (n1 : Int) + 1 := by omega
                    rw [hcast] at HO2
                    clear hr2 d1 d2 d4 hyes hcast
                    by_cases hg2 : g2 = 0
                    · subst hg2
                      rw [if_neg (by simp)] at hq'
                      by_cases hlt2 : (c2 : Int) < (c1 : Int)
                      · rw [if_pos hlt2] at hq'
                        have HQ' := Lib.hid hq'
                        have hd : decide (c2 < c1) = true := by simp; omega
                        clear hq' d5 hlt2
                        go_wp2_with fail
                        refine (HO2.out _).mono ?_
                        rintro e w6 ⟨rfl, hb6⟩
                        have HRm6 := Lib.hid (HRm5.out.below hb6)
                        clear hb6
                        have hq' := HQ'.out
                        have hlp := HLp.out
                        rw [HQ.out, hq'] at hlp
                        rw [if_pos (by simp)] at hlp
                        have hZ : Z = (none', n1 + 1, 1) := by
                          rw [HBrd.out, ← hlp]
                          cases nb
                          · rfl
                          · rw [if_pos rfl, if_pos (by simp)]
                        have HZ' := Lib.hid hZ
                        obtain ⟨⟨z0, z1, z2, z3⟩, _, _, _, _⟩ := HRm6.out.zz.cells
                        obtain ⟨⟨k0, k1, k2, k3⟩, f0, f1, f2, f3⟩ := HRm6.out.rr.cells
                        have HF := Lib.hid (HRm6.out.fin 0 0 0 0)
                        clear hlp hZ hq'
                        go_wp2
                        ((try simp only [Exit.inBlock, Exit.then]); refine bodyPost_ret (Kt.results_cell3_row rfl _ _ (r) 24 _ (0, 0) _ rfl (HF.out.1) Tryd.underlying24 rfl ?hi3) rfl ?_; (case hi3 => kernel_rfl))
                        rw [HZ'.out]
                        exact ⟨[0, 0, 0, 0], rfl, none_set', HF.out.2⟩
                      · rw [if_neg hlt2] at hq'
                        have hle : c1 ≤ c2 := by omega
                        have hd : decide (c2 < c1) = false := by simp; omega
                        have hq2 : itm s.data.toList i2 = (c1, c2, n2, 0) := by rw [HQ.out, hq']; simp
                        have HQ2 := Lib.hid hq2
                        clear hq' hq2 d5 hlt2
                        go_wp2_with fail
                        refine (HO2.out _).mono ?_
                        rintro e w6 ⟨rfl, hb6⟩
                        have HRm6 := Lib.hid (HRm5.out.below hb6)
                        clear hb6
                        go_wp2
                        go_meet
                        case rel => exact ⟨c2, n2, HQ2.out, hle, rfl, rfl, HRm6.out⟩
                    · rw [if_pos (by simpa using hg2)] at hq'
                      have HQ' := Lib.hid hq'
                      have he1 : ((g2 : Int) == 0) = false := by simp; exact hg2
                      clear hq' d5
                      go_wp2_with fail
                      refine (HO2.out _).mono ?_
                      rintro e w6 ⟨rfl, hb6⟩
                      have HRm6 := Lib.hid (HRm5.out.below hb6)
                      clear hb6
                      have hq' := HQ'.out
                      have hlp := HLp.out
                      rw [HQ.out, hq'] at hlp
                      rw [if_pos (by simpa using hg2)] at hlp
                      have hZ : Z = (none', n2, g2) := by
                        rw [HBrd.out, ← hlp]
                        cases nb
                        · rfl
                        · rw [if_pos rfl, if_pos (by simpa using hg2)]
                      have HZ' := Lib.hid hZ
                      obtain ⟨⟨z0, z1, z2, z3⟩, _, _, _, _⟩ := HRm6.out.zz.cells
                      obtain ⟨⟨k0, k1, k2, k3⟩, f0, f1, f2, f3⟩ := HRm6.out.rr.cells
                      have HF := Lib.hid (HRm6.out.fin 0 0 0 0)
                      clear hlp hZ hq'
                      go_wp2
                      ((try simp only [Exit.inBlock, Exit.then]); refine bodyPost_ret (Kt.results_cell3_row rfl _ _ (r) 24 _ (0, 0) _ rfl (HF.out.1) Tryd.underlying24 rfl ?hi4) rfl ?_; (case hi4 => kernel_rfl))
                      rw [HZ'.out]
                      exact ⟨[0, 0, 0, 0], rfl, none_set', HF.out.2⟩
                case rest =>
                  obtain ⟨hi', nx, hq2, hle, rfl, rfl, hm⟩ := hcut
                  have hlp := HLp.out
                  rw [hq2, if_neg (by simp)] at hlp
                  have hq3 := HQ.out
                  rw [hq2] at hq3
                  subst hq3
                  simp only at t1 t2 t3 hlp
                  have ht2 := t2 (by trivial)
                  have hi256 : hi' < 256 := by
                    have := (itm_go s.data.toList i2 (by rw [← HL.out]; exact hi2)).2.1
                    rw [hq2] at this
                    exact this
                  have HLp2 := Lib.hid hlp
                  have HRm6 := Lib.hid hm
                  clear hlp hm t2 t3 HLp HQ HItm HHy HRm5 hq2 HRm
                  go_wp2_with fail
                  go_loopw [16] (fun c W' => RiP w r z g c1 hi' f c W') (fun c _ => 257 - (intOf c).toNat)
                  case atStart => exact ⟨c1, Nat.le_refl _, by omega, rfl, HRm6.out.congr (by intro q _; have : ¬ (c1 ≤ q ∧ q < c1) := by omega
                                                                                              simp [ors]; omega)⟩
                  case round =>
                    clear HRm6
                    obtain ⟨q, hq1, hq2, rfl, hm⟩ := hrel
                    by_cases hlt3 : q ≤ hi'
                    · obtain ⟨cq, fq⟩ := hm.cell q (by omega)
                      have hs := hm.set (f' := ors f fun x => decide (c1 ≤ x) && decide (x < q + 1)) q true (by simp [ors]; omega) (fun x _ hxq => by
                        show (f x || (decide (c1 ≤ x) && decide (x < q + 1))) = (f x || (decide (c1 ≤ x) && decide (x < q)))
                        congr 2
                        apply decide_eq_decide.2
                        omega)
                      have HS := Lib.hid hs
                      generalize (ors f (fun x => decide (c1 ≤ x) && decide (x < q)) q) = fq' at *
                      clear hm hs
                      go_wp2
                      go_roundw
                      case rel => first | exact ⟨q + 1, by omega, by omega, by go_num, HS.out⟩ | ((repeat apply Exists.intro); refine ⟨?r, ?f⟩; (case f => (and_intros <;> rfl)); exact ⟨q + 1, by omega, by omega, by go_num, HS.out⟩)
                      case measure => simp [intOf]; omega
                    · have hqe : q = hi' + 1 := by omega
                      have hm' : Rm w wr r z g (ors f (spn c1 hi')) := hm.congr fun x _ => by
                        show (f x || (decide (c1 ≤ x) && decide (x < q))) = (f x || (decide (c1 ≤ x) && decide (x ≤ hi')))
                        congr 2
                        apply decide_eq_decide.2
                        omega
                      have HRm7 := Lib.hid hm'
                      clear hm hm'
                      go_wp2
                      go_roundg k
                      case measure => omega
                      case rel => exact ⟨ors f (spn c1 hi'), nx, mc + 1, by rw [HN.out]; exact t1, by rw [HN.out]; omega, by rw [show decide (mc + 1 = 0) = false by simp]; exact HLp2.out, rfl, by go_num, by omega, HRm7.out⟩
            · have hq' := HItm.out
              rw [if_pos (by simpa using hg1)] at hq'
              have he1 : ((g1 : Int) == 0) = false := by simp; exact hg1
              have hlp := HLp.out
              rw [HQ.out, hq'] at hlp
              rw [if_pos (by simpa using hg1)] at hlp
              have hZ : Z = (none', n1, g1) := by
                rw [HBrd.out, ← hlp]
                cases nb
                · rfl
                · rw [if_pos rfl, if_pos (by simpa using hg1)]
              have HZ' := Lib.hid hZ
              obtain ⟨⟨z0, z1, z2, z3⟩, _, _, _, _⟩ := HRm5.out.zz.cells
              obtain ⟨⟨k0, k1, k2, k3⟩, f0, f1, f2, f3⟩ := HRm5.out.rr.cells
              have HF := Lib.hid (HRm5.out.fin 0 0 0 0)
              clear hlp hZ hq'
              go_wp2
              ((try simp only [Exit.inBlock, Exit.then]); refine bodyPost_ret (Kt.results_cell3_row rfl _ _ (r) 24 _ (0, 0) _ rfl (HF.out.1) Tryd.underlying24 rfl ?hi5) rfl ?_; (case hi5 => kernel_rfl))
              rw [HZ'.out]
              exact ⟨[0, 0, 0, 0], rfl, none_set', HF.out.2⟩
set_option maxHeartbeats 4000000 in
set_option maxRecDepth 100000 in
theorem rread_end (s : ByteArray) (i : Int) (w : World) (hi : i < 0 ∨ (s.size : Int) ≤ i) : Calls Tryd.prog 14 #[.string s, .int .i64 i] w (RfP w (none', s.size, 2)) := by
  have hbz : ∀ w : World, (Instr.build 24 #[]).run Tryd.prog w = .ok (.agg #[.int .u64 0, .int .u64 0, .int .u64 0, .int .u64 0]) w := fun w => by kernel_rfl
  have b2 : Below w.heap.size w ((w.alloc (.cells #[.int .u64 0, .int .u64 0, .int .u64 0, .int .u64 0] 24)).alloc (.cells #[.int .u64 0, .int .u64 0, .int .u64 0, .int .u64 0] 24)) := ((Below.refl _ _).alloc (Nat.le_refl _) _).alloc (by simp) _
  have hr0 : Aw ((w.alloc (.cells #[.int .u64 0, .int .u64 0, .int .u64 0, .int .u64 0] 24)).alloc (.cells #[.int .u64 0, .int .u64 0, .int .u64 0, .int .u64 0] 24)) w.heap.size 0 0 0 0 := heap_alloc2_old w _ _
  have HF := Lib.hid (And.intro hr0 b2)
  clear b2 hr0
  by_cases h0 : i < 0
  · have hd : decide (i < 0) = true := by simpa using h0
    clear hi
    go_enter Tryd.func14, Tryd.ntmps14
    go_wp2
    ((try simp only [Exit.inBlock, Exit.then]); refine bodyPost_ret (Kt.results_cell3_row rfl _ _ (w.heap.size) 24 _ (0, 0) _ rfl (HF.out.1) Tryd.underlying24 rfl ?hi6) rfl ?_; (case hi6 => kernel_rfl))
    exact ⟨[0, 0, 0, 0], rfl, none_set', HF.out.2⟩
  · have hd : decide (i < 0) = false := by simpa using h0
    obtain ⟨n, rfl⟩ : ∃ n : Nat, i = (n : Int) := ⟨i.toNat, by omega⟩
    have h1 : s.size ≤ n := by omega
    clear hi h0
    go_enter Tryd.func14, Tryd.ntmps14
    go_wp2
    ((try simp only [Exit.inBlock, Exit.then]); refine bodyPost_ret (Kt.results_cell3_row rfl _ _ (w.heap.size) 24 _ (0, 0) _ rfl (HF.out.1) Tryd.underlying24 rfl ?hi7) rfl ?_; (case hi7 => kernel_rfl))
    exact ⟨[0, 0, 0, 0], rfl, none_set', HF.out.2⟩
set_option maxHeartbeats 4000000 in
set_option maxRecDepth 100000 in
theorem rread_no (s : ByteArray) (i : Nat) (w : World) (hi : i < s.size) (hc : s.data.toList[i]? ≠ some 91) : Calls Tryd.prog 14 #[.string s, .int .i64 (i : Int)] w (RfP w (none', i, 4)) := by
  obtain ⟨c, hcc⟩ := get_lt (l := s.data.toList) (i := i) (by rw [← size_list]; exact hi)
  have hne : ((c.toNat : Int) == 91) = false := by
    simp
    intro h
    apply hc
    rw [hcc]
    congr 1
    exact UInt8.toNat_inj.1 (by simp; omega)
  have ix := fun w => idx_run Tryd.underlying9 s .i64 (i : Int) i c rfl hcc w
  have hbz : ∀ w : World, (Instr.build 24 #[]).run Tryd.prog w = .ok (.agg #[.int .u64 0, .int .u64 0, .int .u64 0, .int .u64 0]) w := fun w => by kernel_rfl
  have b2 : Below w.heap.size w ((w.alloc (.cells #[.int .u64 0, .int .u64 0, .int .u64 0, .int .u64 0] 24)).alloc (.cells #[.int .u64 0, .int .u64 0, .int .u64 0, .int .u64 0] 24)) := ((Below.refl _ _).alloc (Nat.le_refl _) _).alloc (by simp) _
  have hr0 : Aw ((w.alloc (.cells #[.int .u64 0, .int .u64 0, .int .u64 0, .int .u64 0] 24)).alloc (.cells #[.int .u64 0, .int .u64 0, .int .u64 0, .int .u64 0] 24)) w.heap.size 0 0 0 0 := heap_alloc2_old w _ _
  have HF := Lib.hid (And.intro hr0 b2)
  clear b2 hr0 hc hcc
  go_enter Tryd.func14, Tryd.ntmps14
  go_wp2
  ((try simp only [Exit.inBlock, Exit.then]); refine bodyPost_ret (Kt.results_cell3_row rfl _ _ (w.heap.size) 24 _ (0, 0) _ rfl (HF.out.1) Tryd.underlying24 rfl ?hi8) rfl ?_; (case hi8 => kernel_rfl))
  exact ⟨[0, 0, 0, 0], rfl, none_set', HF.out.2⟩
theorem rread_at (s : ByteArray) (i : Nat) (w : World) (hsz : s.size ≤ 1000000) : Calls Tryd.prog 14 #[.string s, .int .i64 (i : Int)] w (RfP w (brd s.data.toList i)) := by
  have hl := size_list s
  by_cases h1 : s.size ≤ i
  · have e : brd s.data.toList i = (none', s.size, 2) := by unfold brd; rw [if_pos (by omega), hl]
    rw [e]
    exact rread_end s _ w (.inr (by omega))
  · by_cases h2 : s.data.toList[i]? = some 91
    · exact rread_yes s i w (by omega) h2 hsz
    · have e : brd s.data.toList i = (none', i, 4) := by unfold brd; rw [if_neg (by omega), if_pos h2]
      rw [e]
      exact rread_no s i w (by omega) h2
end Bk
end Go.Proofs.YtmfcabidmacdcaaDoor
