import Derived.Test.YteekonojmpihlaaDoorQBrkDot
import Derived.Test.YteekonojmpihlaaDoorQSets3
import Derived.Deep.LoopGhost
import Derived.Deep.CutBlock
import Derived.Test.YteekonojmpihlaaDoorQBrkRef2
import Derived.Test.YteekonojmpihlaaDoorQSets5
import Derived.Test.YteekonojmpihlaaDoorQSetsR
import Derived.Test.YteekonojmpihlaaDoorQBuildM
import Derived.Test.YteekonojmpihlaaDoorQSpellRef
/- dofferlaw06: the chapter's example, and BracketsRead. Condition: the sentinels read as laid. -/
namespace Go.Proofs.YteekonojmpihlaaDoor
open Go Go.RowKit Kt Sp St
namespace Bk
theorem all_is {ws : List Nat} {f : Nat → Bool} (h : IsSet ws f) : Mk.all ws = (List.range 256).filter f := by
  unfold Mk.all
  rw [h.len]
  exact List.filter_congr fun q hq => h.at' q (by simpa using hq)

end Bk
end Go.Proofs.YteekonojmpihlaaDoor

/- brackets.Text: a set's text. Condition: the table of TrailingZeros64 reads as laid. -/
namespace Go.Proofs.YteekonojmpihlaaDoor
open Go Go.RowKit Kt Sp St
namespace Bk
variable {w W W' : World}
theorem str_cat (a b : List UInt8) (w : World) (h : a.length + b.length ≤ 9223372036854775807) : (Op.stringOp .add (Str a) (Str b)).run Tryd.prog w = .ok (.string (Str (a ++ b))) w := add_run w a b h
set_option maxHeartbeats 2000000 in
set_option maxRecDepth 100000 in
theorem bitem_c (c1 c2 : UInt8) (h12 : c1.toNat ≤ c2.toNat) (w : World) : Calls Tryd.prog 132 #[.agg #[.int .u8 (c1.toNat : Int), .int .u8 (c2.toNat : Int)]] w fun e w' => e = .returned (.string (Str (itx (c1.toNat, c2.toNat)))) ∧ Below w.heap.size w w' := by
  have hb1 := (Below.refl w.heap.size w).alloc (Nat.le_refl _) (.cells #[.int .u8 (c1.toNat : Int), .int .u8 (c2.toNat : Int)] 186)
  have hbk := heap_alloc_new w (.cells #[.int .u8 (c1.toNat : Int), .int .u8 (c2.toNat : Int)] 186)
  have sk : ∀ W, Below (w.alloc (.cells #[.int .u8 (c1.toNat : Int), .int .u8 (c2.toNat : Int)] 186)).heap.size (w.alloc (.cells #[.int .u8 (c1.toNat : Int), .int .u8 (c2.toNat : Int)] 186)) W → W.cell? ⟨w.heap.size, 0, none⟩ = some (.int .u8 (c1.toNat : Int)) ∧ W.cell? ⟨w.heap.size, 1, none⟩ = some (.int .u8 (c2.toNat : Int)) := fun W hB => by
    have h2 := (hB.block w.heap.size (by simp)).trans hbk
    exact ⟨cell_block h2 0, cell_block h2 1⟩
  have SK := Lib.hid sk
  have HB1 := Lib.hid hb1
  have H1 := Lib.hid (fun w => inner_c c1 w)
  have H2 := Lib.hid (fun w => inner_c c2 w)
  have l1 := sp_len c1
  have l2 := sp_len c2
  have hitx : itx (c1.toNat, c2.toNat) = if c1.toNat = c2.toNat then sp ins c1 else if c1.toNat + 1 = c2.toNat then sp ins c1 ++ sp ins c2 else sp ins c1 ++ [45] ++ sp ins c2 := by
    unfold itx
    simp only [UInt8.ofNat_toNat]
    split
    · rfl
    · split
      · rfl
      · simp
  rw [hitx]
  have hb2 := c2.toNat_lt
  have hs45 : (⟨#[45]⟩ : ByteArray) = Str [45] := rfl
  generalize sp ins c1 = s1 at *
  generalize sp ins c2 = s2 at *
  have r1 := fun w => str_cat s1 s2 w (by omega)
  have r2 := fun w => str_cat s1 [45] w (by simp; omega)
  have r3 := fun w => str_cat (s1 ++ [45]) s2 w (by simp; omega)
  have y0 := (Below.refl (w.alloc (.cells #[.int .u8 (c1.toNat : Int), .int .u8 (c2.toNat : Int)] 186)).heap.size (w.alloc (.cells #[.int .u8 (c1.toNat : Int), .int .u8 (c2.toNat : Int)] 186))).drew
  have z0 := SK.out _ y0
  clear sk hb1 hbk hitx l1 l2
  generalize c1.toNat = n1 at *
  generalize c2.toNat = n2 at *
  have hcase : ∀ R : List UInt8, (if n1 = n2 then s1 else if n1 + 1 = n2 then s1 ++ s2 else s1 ++ [45] ++ s2) = R → Calls Tryd.prog 132 #[.agg #[.int .u8 (n1 : Int), .int .u8 (n2 : Int)]] w fun e w' => e = .returned (.string (Str R)) ∧ Below w.heap.size w w' := by
    intro R hR
    have HR := Lib.hid hR
    clear hR
    obtain ⟨W1, hW1⟩ : ∃ W1, (w.alloc (.cells #[.int .u8 (n1 : Int), .int .u8 (n2 : Int)] 186)) = W1 := ⟨_, rfl⟩
    rw [hW1] at y0 SK HB1
    have HW1 := Lib.hid hW1
    clear hW1
    go_enter Tryd.func132, Tryd.ntmps132
    go_wp2_with fail
    rw [HW1.out]
    go_region_held3 (fun W => W.cell? ⟨w.heap.size, 0, none⟩ = some (.int .u8 (n1 : Int)) ∧ W.cell? ⟨w.heap.size, 1, none⟩ = some (.int .u8 (n2 : Int)))
      (first | exact SK.out _ y2 | exact SK.out _ y1 | exact SK.out _ y0)
      (first
        | (go_at_call 144; (with_reducible refine (H1.out _).mono ?_); rintro e w3 ⟨rfl, hb3⟩
           have y1 : Below W1.heap.size W1 w3 := y0.trans (hb3.mono y0.size))
        | (go_at_call 144; (with_reducible refine (H2.out _).mono ?_); rintro e w4 ⟨rfl, hb4⟩
           have y2 : Below W1.heap.size W1 w4 := y1.trans (hb4.mono y1.size)))
    obtain ⟨q0, q1⟩ := SK.out _ y2
    have HB4 := Lib.hid (HB1.out.trans (y2.mono HB1.out.size))
    clear hb3 hb4 y0 y1 y2 z0
    by_cases e0 : n1 = n2
    · subst e0
      have hr := HR.out
      rw [if_pos rfl] at hr
      subst hr
      go_wp2
      go_ret
      exact ⟨rfl, HB4.out⟩
    · by_cases e1 : n1 + 1 = n2
      · subst e1
        have hr := HR.out
        rw [if_neg e0, if_pos rfl] at hr
        subst hr
        have f0 : (((n1 + 1 : Nat) : Int) - (n1 : Int) == 0) = false := by simp; omega
        have f1 : (((n1 + 1 : Nat) : Int) - (n1 : Int) == 1) = true := by simp; omega
        clear e0
        go_wp2
        go_ret
        exact ⟨rfl, HB4.out⟩
      · have hr := HR.out
        rw [if_neg e0, if_neg e1] at hr
        subst hr
        have f0 : ((n2 : Int) - (n1 : Int) == 0) = false := by simp; omega
        have f1 : ((n2 : Int) - (n1 : Int) == 1) = false := by simp; omega
        clear e0 e1
        go_wp2
        go_ret
        exact ⟨by first | rfl | simp, HB4.out⟩
  exact hcase _ rfl
theorem bitem_p (p : Nat × Nat) (h1 : p.1 ≤ p.2) (h2 : p.2 < 256) (w : World) : Calls Tryd.prog 132 #[.agg #[.int .u8 (p.1 : Int), .int .u8 (p.2 : Int)]] w fun e w' => e = .returned (.string (Str (itx p))) ∧ Below w.heap.size w w' := by
  have e1 : (UInt8.ofNat p.1).toNat = p.1 := by rw [UInt8.toNat_ofNat']; omega
  have e2 : (UInt8.ofNat p.2).toNat = p.2 := by rw [UInt8.toNat_ofNat']; omega
  have h := bitem_c (UInt8.ofNat p.1) (UInt8.ofNat p.2) (by rw [e1, e2]; exact h1) w
  rw [e1, e2] at h
  exact h
theorem neq_run (xs ys : List Nat) (hx : xs.length = 4) (hy : ys.length = 4) (w : World) : (binOp .neq 34 (sv xs) (sv ys)).run Tryd.prog w = .ok (.bool (!decide (xs = ys))) w := by
  obtain ⟨x0, x1, x2, x3, rfl⟩ := four hx
  obtain ⟨y0, y1, y2, y3, rfl⟩ := four hy
  obtain ⟨i, hi⟩ : ∃ i, Tryd.prog.info? 32 = some i := Option.isSome_iff_exists.1 (by kernel_rfl)
  have hce : Tryd.prog.cellsOf 32 = 1 := by kernel_rfl
  simp only [sv, vals, List.map_cons, List.map_nil]
  rw [run_neq_struct, show (10000 : Nat) = 9999 + 1 from rfl, run_equalIn_array (P := Tryd.prog) w 9999 _ _ Tryd.underlying34 hi, hce]
  rw [show List.range 4 = [0, 1, 2, 3] from rfl]
  simp only [Op.eqItems]
  go_simp
  by_cases h0 : x0 = y0 <;> by_cases h1 : x1 = y1 <;> by_cases h2 : x2 = y2 <;> by_cases h3 : x3 = y3 <;> simp [h0, h1, h2, h3] <;> (intros; omega)
theorem full_iff {xs ys : List Nat} {f : Nat → Bool} (hx : IsSet xs f) (hy : IsSet ys (fun _ => true)) : xs = ys ↔ (ls f).length = 256 := by
  have hall : (ls f).length = 256 ↔ ∀ q, q < 256 → f q = true := by
    unfold ls
    have h := List.length_filter_eq_length_iff (l := List.range 256) (p := f)
    rw [List.length_range] at h
    rw [h]
    simp
  rw [hall]
  constructor
  · rintro rfl q hq
    rw [← hx.at' q hq, hy.at' q hq]
  · intro h
    have : IsSet xs (fun _ => true) := ⟨hx.len, hx.lt, fun q hq => by rw [hx.at' q hq, h q hq]⟩
    exact this.unique hy
/-- Which set is told, and how it begins. -/
def TxM (w : World) (b : Nat) (f : Nat → Bool) (tb : Bool) (o : Value) (W : World) : Prop :=
  ∃ y0 y1 y2 y3, o = .string (Str (if tb then [91, 94] else [91])) ∧ IsSet [y0, y1, y2, y3] (if tb then neg f else f) ∧ Ab W b y0 y1 y2 y3 ∧ Below w.heap.size w W
/-- The text so far. -/
def TxR (w : World) (b : Nat) (a : Option Addr) (op : List UInt8) (ps : List (Nat × Nat)) (i : Value) (W : World) : Prop :=
  ∃ (k : Nat) (gs : List Nat), k ≤ ps.length ∧ i = .int .i64 (k : Int) ∧ Bu.Own W w.heap.size b gs (op ++ (ps.take k).flatMap itx) ∧ Rd W a (brow ps) ∧ (∀ p, a = some p → p.block ∉ b :: gs) ∧ Below w.heap.size w W
theorem itx_len (p : Nat × Nat) : (itx p).length ≤ 9 := by
  have h1 := sp_len (UInt8.ofNat p.1)
  have h2 := sp_len (UInt8.ofNat p.2)
  unfold itx
  split
  · omega
  · split
    · simp; omega
    · simp; omega
theorem flat_len (ps : List (Nat × Nat)) : (ps.flatMap itx).length ≤ 9 * ps.length := by
  induction ps with
  | nil => simp
  | cons p r ih =>
    have := itx_len p
    rw [List.flatMap_cons, List.length_append, List.length_cons]
    omega
theorem turned_eq (f : Nat → Bool) (n : Nat) (hn : (ls f).length = n) : turned f = (decide (n = 0) || (decide (128 < n) && !decide (n = 256))) := by subst hn; rfl
set_option maxHeartbeats 8000000 in
set_option maxRecDepth 100000 in
theorem text_c (x0 x1 x2 x3 : Nat) (f : Nat → Bool) (hset : IsSet [x0, x1, x2, x3] f) (w : World) (hT : Bt.Tab w) : Calls Tryd.prog 113 #[.agg #[.int .u64 (x0 : Int), .int .u64 (x1 : Int), .int .u64 (x2 : Int), .int .u64 (x3 : Int)]] w fun e w' => e = .returned (.string (Str (btx f))) ∧ Below w.heap.size w w' := by
  have hb1 := (Below.refl w.heap.size w).alloc (Nat.le_refl _) (.cells #[.int .u64 (x0 : Int), .int .u64 (x1 : Int), .int .u64 (x2 : Int), .int .u64 (x3 : Int)] 34)
  have a1 : Ab (w.alloc (.cells #[.int .u64 (x0 : Int), .int .u64 (x1 : Int), .int .u64 (x2 : Int), .int .u64 (x3 : Int)] 34)) w.heap.size x0 x1 x2 x3 := heap_alloc_new w _
  obtain ⟨W1, hW1⟩ : ∃ W1, (w.alloc (.cells #[.int .u64 (x0 : Int), .int .u64 (x1 : Int), .int .u64 (x2 : Int), .int .u64 (x3 : Int)] 34)) = W1 := ⟨_, rfl⟩
  rw [hW1] at hb1 a1
  have HW1 := Lib.hid hW1
  obtain ⟨n, hn⟩ : ∃ n, (ls f).length = n := ⟨_, rfl⟩
  have hlen : (Mk.all [x0, x1, x2, x3]).length = n := by rw [all_is hset]; exact hn
  have HLen := Lib.hid (fun w => len_c [x0, x1, x2, x3] f hset w)
  rw [hlen] at HLen
  obtain ⟨tb, htb⟩ : ∃ tb, turned f = tb := ⟨_, rfl⟩
  have hte := turned_eq f n hn
  rw [htb] at hte
  have hn256 : n ≤ 256 := by rw [← hn]; exact ls_len f
  have hbx : btx f = (if tb then [91, 94] else [91]) ++ ((sps (ls (if tb then neg f else f))).flatMap itx ++ [93]) := by
    unfold btx
    rw [htb]
    cases tb <;> rfl
  have HBx := Lib.hid hbx
  -- against the full set
  have heq : 128 < n → ∀ y0 y1 y2 y3, IsSet [y0, y1, y2, y3] (fun _ => true) → ∀ w, (binOp .neq 34 (.agg #[.int .u64 (x0 : Int), .int .u64 (x1 : Int), .int .u64 (x2 : Int), .int .u64 (x3 : Int)]) (.agg #[.int .u64 (y0 : Int), .int .u64 (y1 : Int), .int .u64 (y2 : Int), .int .u64 (y3 : Int)])).run Tryd.prog w = .ok (.bool tb) w := by
    intro h y0 y1 y2 y3 hy w
    have h1 := neq_run [x0, x1, x2, x3] [y0, y1, y2, y3] rfl rfl w
    have h2 : (!decide ([x0, x1, x2, x3] = [y0, y1, y2, y3])) = tb := by
      rw [hte, Bool.eq_iff_iff]
      have := full_iff hset hy
      rw [hn] at this
      simp only [Bool.not_eq_true', decide_eq_false_iff_not, Bool.or_eq_true, decide_eq_true_eq, Bool.and_eq_true, this]
      omega
    rw [h2] at h1
    exact h1
  have HA1 := Lib.hid a1
  have HB1 := Lib.hid hb1
  have HN := Lib.hid hn
  have HT := Lib.hid hT
  have HSet := Lib.hid hset
  have HTe := Lib.hid hte
  have HEq := Lib.hid heq
  clear hb1 a1 hW1 hn hlen htb hte hbx heq hT hset
  obtain ⟨⟨k0, k1, k2, k3⟩, _, _, _, _⟩ := HA1.out.cells
  simp only [sv, vals, List.map_cons, List.map_nil] at HLen
  go_enter Tryd.func113, Tryd.ntmps113
  go_wp2_with fail
  rw [HW1.out]
  refine (HLen.out _).mono ?_
  rintro e w2 ⟨rfl, hb2⟩
  have HA2 := Lib.hid (HA1.out.below hb2)
  have HB2 := Lib.hid (HB1.out.trans (hb2.mono HB1.out.size))
  clear hb2 k0 k1 k2 k3
  go_upto_region 3 with (fail)
  go_cut [20] (fun v W' => v = .bool tb ∧ Ab W' w.heap.size x0 x1 x2 x3 ∧ Below w.heap.size w W')
  case first =>
    have hte := HTe.out
    by_cases h0 : n = 0
    · subst h0
      simp at hte
      subst hte
      clear HEq HTe
      go_quiet (fail)
      go_wp2
      go_meet
      case rel => exact ⟨rfl, HA2.out.below (below_drewN (Below.refl _ _) _), below_drewN HB2.out _⟩
    · by_cases h1 : 128 < n
      · have HEq2 := Lib.hid (HEq.out h1)
        obtain ⟨⟨k0, k1, k2, k3⟩, _, _, _, _⟩ := HA2.out.cells
        have f0 : ((n : Int) == 0) = false := by simp; omega
        have f1 : decide ((128 : Int) < (n : Int)) = true := by simp; omega
        clear hte HEq HTe h0
        have sk : ∀ W, Below w2.heap.size w2 W → W.cell? ⟨w.heap.size, 0, none⟩ = some (.int .u64 (x0 : Int)) ∧ W.cell? ⟨w.heap.size, 1, none⟩ = some (.int .u64 (x1 : Int)) ∧ W.cell? ⟨w.heap.size, 2, none⟩ = some (.int .u64 (x2 : Int)) ∧ W.cell? ⟨w.heap.size, 3, none⟩ = some (.int .u64 (x3 : Int)) := fun W hB => (HA2.out.below hB).cells.1
        have SK := Lib.hid sk
        have z0 : Below w2.heap.size w2 w2.drew := (Below.refl _ _).drew
        clear sk
        go_region_held3 (fun W => W.cell? ⟨w.heap.size, 0, none⟩ = some (.int .u64 (x0 : Int)) ∧ W.cell? ⟨w.heap.size, 1, none⟩ = some (.int .u64 (x1 : Int)) ∧ W.cell? ⟨w.heap.size, 2, none⟩ = some (.int .u64 (x2 : Int)) ∧ W.cell? ⟨w.heap.size, 3, none⟩ = some (.int .u64 (x3 : Int)))
          (first | exact SK.out _ z1 | exact SK.out _ z0)
          ((go_at_call 129; (with_reducible refine (all_c _).mono ?_); rintro e w3 ⟨rs, rfl, hset, hb3⟩
            have z1 : Below w2.heap.size w2 w3 := z0.trans (hb3.mono z0.size)
            obtain ⟨y0, y1, y2, y3, rfl⟩ := set_four hset
            have hq := HEq2.out y0 y1 y2 y3 hset
            simp only [sv, vals, List.map_cons, List.map_nil]))
        have HF := Lib.hid (And.intro (HA2.out.below z1) (HB2.out.trans (z1.mono HB2.out.size)))
        clear z0 z1 hb3 hset hq k0 k1 k2 k3
        go_wp2
        go_meet
        case rel => exact ⟨rfl, HF.out⟩
      · have f0 : ((n : Int) == 0) = false := by simp; omega
        have f1 : decide ((128 : Int) < (n : Int)) = false := by simp; omega
        have : tb = false := by rw [hte]; simp; omega
        subst this
        clear HEq HTe h0 h1 hte
        go_quiet (fail)
        go_wp2
        go_meet
        case rel => exact ⟨rfl, HA2.out.below (below_drewN (Below.refl _ _) _), below_drewN HB2.out _⟩
  case rest =>
    obtain ⟨rfl, hA3, hB3⟩ := hcut
    clear HEq HTe HA2 HB2
    have HA3 := Lib.hid hA3
    have HB3 := Lib.hid hB3
    clear hA3 hB3
    go_upto_if 20 with (fail)
    go_cut [3] (fun o W' => TxM w w.heap.size f tb o W')
    case first =>
      cases tb with
      | false =>
        go_wp2
        go_meet
        case rel => exact ⟨x0, x1, x2, x3, rfl, HSet.out, HA3.out, HB3.out⟩
      | true =>
        obtain ⟨⟨k0, k1, k2, k3⟩, f0, f1, f2, f3⟩ := HA3.out.cells
        have HNo := Lib.hid (fun W' => not_c [x0, x1, x2, x3] f HSet.out W')
        simp only [sv, vals, List.map_cons, List.map_nil] at HNo
        go_wp2_with fail
        refine (HNo.out _).mono ?_
        rintro e w4 ⟨rs, rfl, hset, hb4⟩
        obtain ⟨y0, y1, y2, y3, rfl⟩ := set_four hset
        have A4 := HA3.out.below hb4
        obtain ⟨⟨l0, l1, l2, l3⟩, g0, g1, g2, g3⟩ := A4.cells
        have HA4 := Lib.hid (A4.put y0 y1 y2 y3)
        have HB4 := Lib.hid (put4_below (HB3.out.trans (hb4.mono HB3.out.size)) (Nat.le_refl w.heap.size) y0 y1 y2 y3)
        have HSet2 := Lib.hid hset
        try simp only [sv, vals, List.map_cons, List.map_nil]
        clear hset hb4 A4 k0 k1 k2 k3 f0 f1 f2 f3
        go_wp2
        go_meet
        case rel => exact ⟨y0, y1, y2, y3, rfl, HSet2.out, HA4.out, HB4.out⟩
    case rest =>
      obtain ⟨y0, y1, y2, y3, rfl, hset, hA4, hB4⟩ := hcut
      obtain ⟨op, hop⟩ : ∃ op, (if tb then [91, 94] else [91] : List UInt8) = op := ⟨_, rfl⟩
      obtain ⟨f2, hf2⟩ : ∃ f2, (if tb then neg f else f) = f2 := ⟨_, rfl⟩
      rw [hop]
      rw [hf2] at hset
      have HOp := Lib.hid hop
      have HF2 := Lib.hid hf2
      have hopl : op.length ≤ 2 := by rw [← hop]; cases tb <;> simp
      have HSet2 := Lib.hid hset
      have hb5 := (Below.refl wc.heap.size wc).alloc (Nat.le_refl _) (.cells #[.pointer none, .slice none 0 0] 180)
      have HO5 := Lib.hid (Bu.Own.new wc w.heap.size hB4.size)
      have HA5 := Lib.hid (hA4.below hb5)
      have HB5 := Lib.hid (hB4.trans (hb5.mono hB4.size))
      have hbb : w.heap.size ≠ wc.heap.size := by have := block_lt hA4; omega
      obtain ⟨b, hb⟩ : ∃ b, wc.heap.size = b := ⟨_, rfl⟩
      rw [hb] at HO5 hbb
      have HBb := Lib.hid hb
      clear hop hf2 hset hb5 hA4 hB4 hb HA3 HB3
      go_wp2_with fail
      rw [HBb.out]
      refine (Bu.write_m op HO5.out (by simp; omega) HB5.out.size).mono ?_
      rintro e w6 ⟨rfl, gs, hO6, hM6, hg6⟩
      have hA6 := HA5.out.mod hM6 (by simp; exact hbb)
      have hB6 := HB5.out.trans (hM6.toBelow HB5.out.size (by
        intro k hk
        have : k = b := by simpa using hk
        rw [this]; exact HO5.out.B))
      rw [List.nil_append] at hO6
      have HO6 := Lib.hid hO6
      have HA6 := Lib.hid hA6
      have HB6 := Lib.hid hB6
      have HSp := Lib.hid (spans_c [y0, y1, y2, y3] rfl HSet2.out.lt w6 (HT.out.below hB6))
      simp only [sv, vals, List.map_cons, List.map_nil] at HSp
      obtain ⟨⟨k0, k1, k2, k3⟩, _, _, _, _⟩ := HA6.out.cells
      clear hO6 hM6 hg6 hA6 hB6
      go_wp2_with fail
      refine HSp.out.mono ?_
      rintro e w7 ⟨v, q, hq, rfl, hown, hb7⟩
      rw [hq, show Mk.all [y0, y1, y2, y3] = ls f2 from all_is HSet2.out] at hown
      obtain ⟨a, cc, rfl⟩ : ∃ a cc, v = .slice a (sps (ls f2)).length cc := by
        rcases hown.2 with ⟨h, h0⟩ | ⟨g, cap, cur, hv, _⟩
        · exact ⟨none, 0, by rw [h]; rw [show (sps (ls f2)).length = 0 from h0]⟩
        · exact ⟨_, _, hv⟩
      have HO7 := Lib.hid (HO6.out.below hb7)
      have HB7 := Lib.hid (HB6.out.trans (hb7.mono HB6.out.size))
      have HRd := Lib.hid (Rd.own hown)
      have hap : ∀ p, a = some p → p.block ∉ b :: gs := by
        intro p hp hm
        subst hp
        have h1 := (hown.lt p.block rfl).1
        have h2 : p.block < w6.heap.size := by
          rcases List.mem_cons.1 hm with h | h
          · rw [h]; exact HO6.out.lt
          · exact (HO6.out.glt _ h).1
        omega
      have HAp := Lib.hid hap
      have hl2 := sps_lt (l := ls f2) (fun x hx => ((ls_mem f2 x).1 hx).1)
      have hl1 := (sps_or (ls f2)).1
      have hpl : (sps (ls f2)).length ≤ 256 := Nat.le_trans (sps_len _) (ls_len f2)
      obtain ⟨ps, hps⟩ : ∃ ps, sps (ls f2) = ps := ⟨_, rfl⟩
      rw [hps] at hown hl1 hl2 hpl HRd
      obtain ⟨N, hN⟩ : ∃ N, ps.length = N := ⟨_, rfl⟩
      rw [hps, hN]
      rw [hN] at hpl
      have HPs := Lib.hid hps
      have HN2 := Lib.hid hN
      have HL1 := Lib.hid hl1
      have HL2 := Lib.hid hl2
      clear hown hb7 hap hl1 hl2 hps hN hq k0 k1 k2 k3
      go_wp2_with fail
      go_loopw [7, 28] (fun _ i W' => TxR w b a op ps i W') (fun _ i _ => N - (intOf i).toNat)
      case atStart => exact ⟨0, gs, Nat.zero_le _, rfl, by simp; exact HO7.out, HRd.out, HAp.out, HB7.out⟩
      case round =>
        clear HO6 HO7 HB7 HRd HAp HA6 HB6 HSp
        obtain ⟨k, gs', hk, rfl, hO, hrd, hap, hB⟩ := hrel
        rw [HN2.out] at hk
        by_cases hlt : k < N
        · have hkl : k < ps.length := by rw [HN2.out]; exact hlt
          obtain ⟨bb, off, ha, hcs⟩ := Rd.struct (f := fun p : Nat × Nat => [.int .u8 ((p.1 : Nat) : Int), .int .u8 ((p.2 : Nat) : Int)]) 2 hrd (by intro z _; rfl) k hkl (by omega)
          have k0 := hcs 0 _ rfl (by omega)
          have k1 := hcs 1 _ rfl (by omega)
          simp only [Nat.add_zero] at k0 k1
          rw [← Nat.add_assoc] at k1
          have hp1 := HL1.out _ (List.getElem_mem hkl)
          have hp2 := (HL2.out _ (List.getElem_mem hkl)).2
          have hsn : (ps.take (k + 1)).flatMap itx = (ps.take k).flatMap itx ++ itx ps[k] := by
            rw [← List.take_append_getElem hkl, List.flatMap_append]
            simp
          have hfl := flat_len (ps.take k)
          rw [List.length_take] at hfl
          have hml : min k ps.length ≤ 256 := by omega
          generalize ps[k] = p at *
          have hil := itx_len p
          have hb2 := (Below.refl wr.heap.size wr).alloc (Nat.le_refl _) (.cells #[.int .u8 (p.1 : Int), .int .u8 (p.2 : Int)] 186)
          have hO2 := hO.below hb2
          have hrd2 := hrd.keep hb2
          have hB2 := hB.trans (hb2.mono hB.size)
          have hnew := heap_alloc_new wr (.cells #[.int .u8 (p.1 : Int), .int .u8 (p.2 : Int)] 186)
          have n0 := cell_block hnew 0
          have n1 := cell_block hnew 1
          simp at n0 n1
          have HO := Lib.hid hO2
          have HB := Lib.hid hB2
          have HRd := Lib.hid hrd2
          have HSn := Lib.hid hsn
          have HAp := Lib.hid hap
          have hlen : (op ++ (ps.take k).flatMap itx).length + (itx p).length ≤ 140737488355328 := by rw [List.length_append]; omega
          have HLen2 := Lib.hid hlen
          have HI := Lib.hid (fun w => bitem_p p hp1 hp2 w)
          subst ha
          clear hcs hrd hO hB hb2 hO2 hrd2 hB2 hnew hsn hap hlen hfl hml hil
          go_wp2_with fail
          refine (HI.out _).mono ?_
          rintro e w8 ⟨rfl, hb8⟩
          have hO3 := HO.out.below hb8
          have hB3 := HB.out.trans (hb8.mono HB.out.size)
          have hrd3 := HRd.out.keep hb8
          have HW := Lib.hid (Bu.write_m (itx p) hO3 HLen2.out hB3.size)
          have HO3 := Lib.hid hO3
          have HB3 := Lib.hid hB3
          have HRd3 := Lib.hid hrd3
          clear hO3 hB3 hrd3 hb8 n0 n1
          go_wp2_with fail
          refine HW.out.mono ?_
          rintro e w9 ⟨rfl, gs2, hO4, hM4, hg4⟩
          rw [List.append_assoc, ← HSn.out] at hO4
          have hB4 := HB3.out.trans (hM4.toBelow HB3.out.size (by
            intro j hj
            rcases List.mem_cons.1 hj with h | h
            · rw [h]; exact HO3.out.B
            · exact (HO3.out.glt j h).2))
          have hrd4 := HRd3.out.mod hM4 (fun q hq => HAp.out q hq)
          have hap4 : ∀ q, some (⟨bb, off, none⟩ : Addr) = some q → q.block ∉ b :: gs2 := by
            intro q hq hm
            have hold := HAp.out q hq
            rcases List.mem_cons.1 hm with h | h
            · exact hold (by simp [h])
            · rcases hg4 _ h with h5 | h5
              · exact hold (by simp [h5])
              · cases hq
                obtain ⟨b', o', he, hc⟩ := HRd3.out 0 (.int .u8 ((ps.headD (0, 0)).1 : Int)) (by
                  obtain ⟨x, r, hx⟩ := List.exists_cons_of_ne_nil (l := ps) (by intro e; rw [e] at hkl; simp at hkl)
                  rw [hx]; rfl)
                have := lt_of_cell hc
                simp at he
                obtain ⟨rfl, rfl⟩ := he
                simp at this h5
                omega
          have HO4 := Lib.hid hO4
          have HB4 := Lib.hid hB4
          have HRd4 := Lib.hid hrd4
          have HAp4 := Lib.hid hap4
          clear hO4 hM4 hg4 hB4 hrd4 hap4
          go_wp2
          go_roundw
          case rel => first | exact ⟨k + 1, gs2, hkl, by go_num, HO4.out, HRd4.out, HAp4.out, HB4.out⟩ | ((repeat apply Exists.intro); refine ⟨?r, ?f⟩; (case f => (and_intros <;> rfl)); exact ⟨k + 1, gs2, hkl, by go_num, HO4.out, HRd4.out, HAp4.out, HB4.out⟩)
          case measure => simp [intOf]; omega
        · have hkN : k = N := by omega
          subst hkN
          rw [List.take_of_length_le (by rw [HN2.out]; exact Nat.le_refl _)] at hO
          have hfl := flat_len ps
          rw [HN2.out] at hfl
          have HO := Lib.hid hO
          have HB := Lib.hid hB
          have HW := Lib.hid (Bu.write_m [93] hO (by rw [List.length_append]; simp only [List.length_cons, List.length_nil]; omega) hB.size)
          clear hO hB hrd hap
          go_wp2_with fail
          refine HW.out.mono ?_
          rintro e w8 ⟨rfl, gs2, hO2, hM2, _⟩
          have hB2 := HB.out.trans (hM2.toBelow HB.out.size (by
            intro j hj
            rcases List.mem_cons.1 hj with h | h
            · rw [h]; exact HO.out.B
            · exact (HO.out.glt j h).2))
          have HB2 := Lib.hid hB2
          have HS := Lib.hid (Bu.string_c _ _ _ w8 hO2.is hB2.size)
          clear hO2 hM2 hB2
          go_wp2_with fail
          refine HS.out.mono ?_
          rintro e w9 ⟨rfl, hb9⟩
          go_wp2
          go_ret
          refine ⟨?_, HB2.out.trans hb9⟩
          rw [HBx.out, HOp.out, HF2.out, HPs.out]
          rfl
end Bk
end Go.Proofs.YteekonojmpihlaaDoor
