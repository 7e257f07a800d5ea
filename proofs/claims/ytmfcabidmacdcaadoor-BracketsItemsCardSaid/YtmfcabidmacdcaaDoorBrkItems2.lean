/- dofferlaw06.BracketsItems returns true. Conditions: the table of TrailingZeros64 and the sentinels read as laid. -/
import Derived.Test.YtmfcabidmacdcaaDoorBrkItems
namespace Go.Proofs.YtmfcabidmacdcaaDoor
open Go Go.RowKit Kt Sp St
namespace Bk
variable {w W W' : World} {A : Nat → Addr}
theorem mod_n (a : Int) (n : Nat) (h0 : 0 < n) : ∃ k : Nat, k < n ∧ (IntKind.u64.wrap a).tmod (n : Int) = (k : Int) := by
  rw [IntKind.wrap_u64]
  obtain ⟨m, hm⟩ : ∃ m : Nat, a % 18446744073709551616 = (m : Int) := ⟨(a % 18446744073709551616).toNat, by omega⟩
  rw [hm]
  refine ⟨m % n, Nat.mod_lt _ h0, ?_⟩
  rw [Int.tmod_eq_emod_of_nonneg (by omega)]
  rfl
/-- The list, turned. -/
def rot (l : List UInt8) (k : Nat) : List UInt8 := (List.range l.length).map fun i => l.getD ((i + k) % l.length) 0
theorem rot_len (l : List UInt8) (k : Nat) : (rot l k).length = l.length := by simp [rot]
theorem rot_get (l : List UInt8) (k i : Nat) (hi : i < l.length) (hj : (i + k) % l.length < l.length) : (rot l k)[i]'(by rw [rot_len]; exact hi) = l[(i + k) % l.length] := by
  simp [rot, List.getD_eq_getElem?_getD, hj]
theorem rot_any (l : List UInt8) (k : Nat) (q : Nat) : anyF (rot l k) q = anyF l q := by
  unfold anyF
  rw [Bool.eq_iff_iff, List.any_eq_true, List.any_eq_true]
  constructor
  · rintro ⟨c, hc, h⟩
    obtain ⟨i, hi, rfl⟩ := List.mem_iff_getElem.1 hc
    rw [rot_len] at hi
    have hj : (i + k) % l.length < l.length := Nat.mod_lt _ (by omega)
    rw [rot_get l k i hi hj] at h
    exact ⟨_, List.getElem_mem hj, h⟩
  · rintro ⟨c, hc, h⟩
    obtain ⟨j, hj, rfl⟩ := List.mem_iff_getElem.1 hc
    have h0 : 0 < l.length := by omega
    obtain ⟨i, hi, hij⟩ : ∃ i, i < l.length ∧ (i + k) % l.length = j := by
      refine ⟨(j + (l.length - k % l.length)) % l.length, Nat.mod_lt _ h0, ?_⟩
      rw [Nat.add_mod, Nat.mod_mod, ← Nat.add_mod]
      have hk := Nat.mod_lt k h0
      have e : (j + (l.length - k % l.length) + k) % l.length = (j + (l.length - k % l.length) + k % l.length) % l.length := by
        rw [Nat.add_mod, Nat.add_mod (j + (l.length - k % l.length)) (k % l.length), Nat.mod_mod]
      rw [e, show j + (l.length - k % l.length) + k % l.length = j + l.length by omega, Nat.add_mod_right]
      exact Nat.mod_eq_of_lt hj
    have hjj : (i + k) % l.length < l.length := by omega
    refine ⟨(rot l k)[i]'(by rw [rot_len]; exact hi), List.getElem_mem _, ?_⟩
    rw [rot_get l k i hi hjj]
    simp only [hij]
    exact h
def ItR (w : World) (l r : List UInt8) (a b i : Value) (W : World) : Prop := ∃ k, k ≤ l.length ∧ i = .int .i64 (k : Int) ∧ a = .string (Str (brs (l.take k))) ∧ b = .string (Str (brs (r.take k))) ∧ Below w.heap.size w W
theorem brs_take (l : List UInt8) (k : Nat) (hk : k < l.length) : brs (l.take (k + 1)) = brs (l.take k) ++ (91 :: (sp ins l[k] ++ [93])) := by
  rw [← List.take_append_getElem hk, brs_append, brs_one]
set_option maxHeartbeats 16000000 in
set_option maxRecDepth 100000 in
theorem items_small (turn : Int) (a : Option Addr) (cap n : Nat) (l : List UInt8) (w : World) (hn : l.length = n) (h0 : 0 < n) (hl : n ≤ 40) (hr : Rd w a (u8s l)) (hT : Bt.Tab w) (hs : Sent 254 w A bks) :
    Calls Tryd.prog 5 #[.slice a n cap, .int .i64 turn] w fun e w' => e = .returned (.bool true) ∧ Below w.heap.size w w' := by
  obtain ⟨t, ht, et⟩ := mod_n turn n h0
  have da : decide ((40 : Int) < (n : Int)) = false := by simp; omega
  have db : ((n : Int) == 0) = false := by simp; omega
  have HAl := Lib.hid (alive_c A w hs)
  have HN := Lib.hid hn
  have HRd := Lib.hid hr
  have HT := Lib.hid hT
  have HS := Lib.hid hs
  have HOf := Lib.hid (fun W (hB : Below w.heap.size w W) => of_c a cap n l W hn (by omega) (hr.keep hB))
  have hrot := rot_len l t
  rw [hn] at hrot
  have hrg : ∀ i (hi : i < n), ∃ j, (i + t) % n = j ∧ j < n ∧ ∃ (h1 : i < (rot l t).length) (h2 : j < l.length), (rot l t)[i] = l[j] := fun i hi => by
    have hj : (i + t) % l.length < l.length := Nat.mod_lt _ (by omega)
    refine ⟨(i + t) % n, rfl, by rw [hn] at hj; exact hj, by rw [hrot]; exact hi, by rw [← hn]; exact hj, ?_⟩
    have := rot_get l t i (by rw [hn]; exact hi) hj
    rw [this]
    simp only [hn]
  have hany := rot_any l t
  have hlb1 := brs_len l
  have hlb2 := brs_len (rot l t)
  rw [hrot] at hlb2
  rw [hn] at hlb1
  obtain ⟨r, hrr⟩ : ∃ r, rot l t = r := ⟨_, rfl⟩
  rw [hrr] at hrot hrg hany hlb2
  have HRg := Lib.hid hrg
  have HAny := Lib.hid hany
  have HRot := Lib.hid hrot
  clear hn hr hT hs hrot hrg hany hrr
  go_enter Tryd.func5, Tryd.ntmps5
  go_wp2_with fail
  refine HAl.out.mono ?_
  rintro e w1 ⟨rfl, hb1⟩
  have HB1 := Lib.hid hb1
  clear hb1
  go_wp2_with fail
  go_loopw [5, 6, 8, 35] (fun x y _ i W' => ItR w l r x y i W') (fun _ _ _ i _ => n - (intOf i).toNat)
  case atStart => exact ⟨0, Nat.zero_le _, rfl, rfl, rfl, HB1.out⟩
  case round =>
    clear HB1
    obtain ⟨k, hk, rfl, rfl, rfl, hB⟩ := hrel
    rw [HN.out] at hk
    by_cases hlt : k < n
    · have hkl : k < l.length := by rw [HN.out]; exact hlt
      obtain ⟨bb, off, ha, hc1⟩ := (HRd.out.keep hB).u8 k hkl
      obtain ⟨j, hj1, hj2, hkr, hjl, hrk⟩ := HRg.out k hlt
      obtain ⟨bb', off', ha', hc2⟩ := (HRd.out.keep hB).u8 j hjl
      rw [ha] at ha'
      simp only [Option.some.injEq, Addr.mk.injEq, and_true] at ha'
      obtain ⟨rfl, rfl⟩ := ha'
      have hs1 := brs_take l k hkl
      have hs2 := brs_take r k hkr
      rw [hrk] at hs2
      have hle1 := brs_len (l.take k)
      have hle2 := brs_len (r.take k)
      rw [List.length_take] at hle1 hle2
      have hm1 : min k l.length ≤ 40 := by omega
      have hm2 : min k r.length ≤ 40 := by omega
      generalize l[k] = c1 at *
      generalize l[j] = c2 at *
      have sl1 := sp_len c1
      have sl2 := sp_len c2
      have hq : ((k : Int) + (t : Int)) % (n : Int) = (j : Int) := by rw [← hj1, Int.natCast_emod, Int.natCast_add]
      have hq2 : ((k : Int) + (t : Int)).tmod (n : Int) = (j : Int) := by rw [Int.tmod_eq_emod_of_nonneg (by omega)]; exact hq
      have HTx1 := Lib.hid (fun w (hT : Bt.Tab w) {x0 x1 x2 x3 : Nat} (h : IsSet [x0, x1, x2, x3] (fun q => decide (q = c1.toNat))) => one_text c1 w hT h)
      have HTx2 := Lib.hid (fun w (hT : Bt.Tab w) {x0 x1 x2 x3 : Nat} (h : IsSet [x0, x1, x2, x3] (fun q => decide (q = c2.toNat))) => one_text c2 w hT h)
      obtain ⟨t1, ht1⟩ : ∃ t1, 91 :: (sp ins c1 ++ [93]) = t1 := ⟨_, rfl⟩
      obtain ⟨t2, ht2⟩ : ∃ t2, 91 :: (sp ins c2 ++ [93]) = t2 := ⟨_, rfl⟩
      have l1 : t1.length ≤ 6 := by rw [← ht1]; simp; omega
      have l2 : t2.length ≤ 6 := by rw [← ht2]; simp; omega
      rw [ht1] at HTx1 hs1
      rw [ht2] at HTx2 hs2
      generalize brs (l.take k) = T1 at *
      generalize brs (r.take k) = T2 at *
      have hcat1 := fun w => str_cat T1 t1 w (by omega)
      have hcat2 := fun w => str_cat T2 t2 w (by omega)
      have HO1 := Lib.hid (fun w => one_u c1 w)
      have HO2 := Lib.hid (fun w => one_u c2 w)
      have HS1 := Lib.hid hs1
      have HS2 := Lib.hid hs2
      have HB := Lib.hid hB
      have hcell : ∀ W, Below wr.heap.size wr W → W.cell? ⟨bb, off + j, none⟩ = some (.int .u8 (c2.toNat : Int)) := fun W hb => by
        rw [hb.cell (p := ⟨bb, off + j, none⟩) (lt_of_cell (p := ⟨bb, off + j, none⟩) hc2)]
        exact hc2
      have HC := Lib.hid hcell
      subst ha
      clear hs1 hs2 hle1 hle2 hm1 hm2 sl1 sl2 ht1 ht2 hB hrk hj1 hcell hc2
      go_wp2_with fail
      refine (HO1.out _).mono ?_
      rintro e w4 ⟨rs, rfl, hset4, hb4⟩
      obtain ⟨y0, y1, y2, y3, rfl⟩ := set_four hset4
      have hB4 := HB.out.trans (hb4.mono HB.out.size)
      have HB4 := Lib.hid hB4
      have HX := Lib.hid (HTx1.out w4 (HT.out.below hB4) hset4)
      have H4 := Lib.hid hb4
      simp only [sv, vals, List.map_cons, List.map_nil]
      clear hset4 hb4 hB4
      go_wp2_with fail
      refine HX.out.mono ?_
      rintro e w5 ⟨rfl, hb5⟩
      have HB5 := Lib.hid (HB4.out.trans (hb5.mono HB4.out.size))
      have hc2 := HC.out w5 (H4.out.trans (hb5.mono H4.out.size))
      clear hb5
      go_wp2_with fail
      refine (HO2.out _).mono ?_
      rintro e w6 ⟨rs, rfl, hset6, hb6⟩
      obtain ⟨y0, y1, y2, y3, rfl⟩ := set_four hset6
      have hB6 := HB5.out.trans (hb6.mono HB5.out.size)
      have HB6 := Lib.hid hB6
      have HX2 := Lib.hid (HTx2.out w6 (HT.out.below hB6) hset6)
      simp only [sv, vals, List.map_cons, List.map_nil]
      clear hset6 hb6 hB6 hc2
      go_wp2_with fail
      refine HX2.out.mono ?_
      rintro e w7 ⟨rfl, hb7⟩
      have HB7 := Lib.hid (HB6.out.trans (hb7.mono HB6.out.size))
      clear hb7
      go_wp2
      go_roundw
      case rel => first | exact ⟨k + 1, hkl, by go_num, by rw [HS1.out], by rw [HS2.out], HB7.out⟩ | ((repeat apply Exists.intro); refine ⟨?r, ?f⟩; (case f => (and_intros <;> rfl)); exact ⟨k + 1, hkl, by go_num, by rw [HS1.out], by rw [HS2.out], HB7.out⟩)
      case measure => simp [intOf]; omega
    · have hkN : k = n := by omega
      subst hkN
      rw [List.take_of_length_le (by rw [HN.out]; exact Nat.le_refl _), List.take_of_length_le (by rw [HRot.out]; exact Nat.le_refl _)]
      have HTo1 := Lib.hid (fun W (hB : Below w.heap.size w W) => together_c (A := A) l (by rw [HN.out]; omega) W (HS.out.keep hB))
      have HTo2 := Lib.hid (fun W (hB : Below w.heap.size w W) => together_c (A := A) r (by rw [HRot.out]; omega) W (HS.out.keep hB))
      have HB := Lib.hid hB
      have hne : l ≠ [] := by rintro rfl; have := HN.out; simp at this; omega
      have HNe := Lib.hid hne
      clear hB hlb1 hlb2 hne
      go_wp2_with fail
      refine (HTo1.out _ HB.out).mono ?_
      rintro e w4 ⟨rs, rfl, hset4, hb4⟩
      obtain ⟨x0, x1, x2, x3, rfl⟩ := set_four hset4
      have b5 := (Below.refl w4.heap.size w4).alloc (Nat.le_refl _) (.cells #[.int .u64 (x0 : Int), .int .u64 (x1 : Int), .int .u64 (x2 : Int), .int .u64 (x3 : Int)] 25)
      have hB4 := HB.out.trans (hb4.mono HB.out.size)
      have HB5 := Lib.hid (hB4.trans (b5.mono hB4.size))
      have HA5 := Lib.hid (show Ab (w4.alloc (.cells #[.int .u64 (x0 : Int), .int .u64 (x1 : Int), .int .u64 (x2 : Int), .int .u64 (x3 : Int)] 25)) w4.heap.size x0 x1 x2 x3 from heap_alloc_new w4 _)
      have HSet := Lib.hid hset4
      simp only [sv, vals, List.map_cons, List.map_nil]
      clear hset4 hb4 b5 hB4
      go_wp2_with fail
      refine (HTo2.out _ HB5.out).mono ?_
      rintro e w6 ⟨rs, rfl, hset6, hb6⟩
      have hset6' : IsSet rs (anyF l) := ⟨hset6.len, hset6.lt, fun q hq => by rw [hset6.at' q hq]; exact HAny.out q⟩
      obtain rfl := hset6'.unique HSet.out
      have b7 := (Below.refl w6.heap.size w6).alloc (Nat.le_refl _) (.cells #[.int .u64 (x0 : Int), .int .u64 (x1 : Int), .int .u64 (x2 : Int), .int .u64 (x3 : Int)] 25)
      have hB6 := HB5.out.trans (hb6.mono HB5.out.size)
      have HB7 := Lib.hid (hB6.trans (b7.mono hB6.size))
      have HA7 := Lib.hid ((HA5.out.below hb6).below b7)
      have HC7 := Lib.hid (show Ab (w6.alloc (.cells #[.int .u64 (x0 : Int), .int .u64 (x1 : Int), .int .u64 (x2 : Int), .int .u64 (x3 : Int)] 25)) w6.heap.size x0 x1 x2 x3 from heap_alloc_new w6 _)
      obtain ⟨w7, hw7⟩ : ∃ w7, (w6.alloc (.cells #[.int .u64 (x0 : Int), .int .u64 (x1 : Int), .int .u64 (x2 : Int), .int .u64 (x3 : Int)] 25)) = w7 := ⟨_, rfl⟩
      rw [hw7] at HB7 HA7 HC7
      obtain ⟨p9, hp9⟩ : ∃ p9, w4.heap.size = p9 := ⟨_, rfl⟩
      rw [hp9] at HA7
      obtain ⟨p11, hp11⟩ : ∃ p11, w6.heap.size = p11 := ⟨_, rfl⟩
      rw [hp11] at HC7
      have HW7 := Lib.hid hw7
      have HP9 := Lib.hid hp9
      have HP11 := Lib.hid hp11
      simp only [sv, vals, List.map_cons, List.map_nil]
      clear hset6 hset6' hb6 b7 hB6 hw7 hp9 hp11 HA5 HB5
      have hneq : ∀ w, (binOp .neq 25 (.agg #[.int .u64 (x0 : Int), .int .u64 (x1 : Int), .int .u64 (x2 : Int), .int .u64 (x3 : Int)]) (.agg #[.int .u64 (x0 : Int), .int .u64 (x1 : Int), .int .u64 (x2 : Int), .int .u64 (x3 : Int)])).run Tryd.prog w = .ok (.bool false) w := fun w => by
        have h := neq_run [x0, x1, x2, x3] [x0, x1, x2, x3] rfl rfl w
        simp only [decide_true, Bool.not_true] at h
        exact h
      have sk : ∀ W, Below w7.heap.size w7 W → (W.cell? ⟨p9, 0, none⟩ = some (.int .u64 (x0 : Int)) ∧ W.cell? ⟨p9, 1, none⟩ = some (.int .u64 (x1 : Int)) ∧ W.cell? ⟨p9, 2, none⟩ = some (.int .u64 (x2 : Int)) ∧ W.cell? ⟨p9, 3, none⟩ = some (.int .u64 (x3 : Int))) ∧ (W.cell? ⟨p11, 0, none⟩ = some (.int .u64 (x0 : Int)) ∧ W.cell? ⟨p11, 1, none⟩ = some (.int .u64 (x1 : Int)) ∧ W.cell? ⟨p11, 2, none⟩ = some (.int .u64 (x2 : Int)) ∧ W.cell? ⟨p11, 3, none⟩ = some (.int .u64 (x3 : Int))) := fun W hB => ⟨(HA7.out.below hB).cells.1, (HC7.out.below hB).cells.1⟩
      have SK := Lib.hid sk
      have z0 : Below w7.heap.size w7 w7.drew := (Below.refl _ _).drew
      clear sk
      go_wp2_with fail
      rw [HW7.out, HP9.out, HP11.out]
      go_region_held3 (fun W => (W.cell? ⟨p9, 0, none⟩ = some (.int .u64 (x0 : Int)) ∧ W.cell? ⟨p9, 1, none⟩ = some (.int .u64 (x1 : Int)) ∧ W.cell? ⟨p9, 2, none⟩ = some (.int .u64 (x2 : Int)) ∧ W.cell? ⟨p9, 3, none⟩ = some (.int .u64 (x3 : Int))) ∧ (W.cell? ⟨p11, 0, none⟩ = some (.int .u64 (x0 : Int)) ∧ W.cell? ⟨p11, 1, none⟩ = some (.int .u64 (x1 : Int)) ∧ W.cell? ⟨p11, 2, none⟩ = some (.int .u64 (x2 : Int)) ∧ W.cell? ⟨p11, 3, none⟩ = some (.int .u64 (x3 : Int))))
        (first | exact SK.out _ z1 | exact SK.out _ z0)
        ((go_at_call 23; (with_reducible refine (HOf.out _ (HB7.out.trans (z0.mono HB7.out.size))).mono ?_); rintro e w8 ⟨rs, rfl, hset8, hb8⟩
          have z1 : Below w7.heap.size w7 w8 := z0.trans (hb8.mono z0.size)
          obtain rfl := IsSet.unique (show IsSet rs (anyF l) from hset8) HSet.out
          simp only [sv, vals, List.map_cons, List.map_nil]))
      have HA8 := Lib.hid (HA7.out.below z1)
      have HB8 := Lib.hid (HB7.out.trans (z1.mono HB7.out.size))
      clear z0 z1 hb8 hset8 HA7 HB7 HC7
      obtain ⟨T, hT⟩ : ∃ T, (lsb (anyF l)).flatMap (sp ins) = T := ⟨_, rfl⟩
      have hlne : lsb (anyF l) ≠ [] := by
        obtain ⟨c, r', hcr⟩ := List.exists_cons_of_ne_nil HNe.out
        have hc : anyF l c.toNat = true := by unfold anyF; rw [hcr]; simp
        intro h
        have h2 : (c.toNat) ∈ ls (anyF l) := (ls_mem _ _).2 ⟨by have := c.toNat_lt; omega, hc⟩
        have h3 : ls (anyF l) = [] := by unfold lsb at h; simpa using h
        rw [h3] at h2
        cases h2
      have hTl : T.length ≤ 1024 := by
        rw [← hT]
        have h1 := sps_le (lsb (anyF l))
        have h2 : (lsb (anyF l)).length ≤ 256 := by unfold lsb; rw [List.length_map]; exact ls_len _
        omega
      obtain ⟨g, hg1, hg2⟩ := brd_in (lsb (anyF l)) hlne
      rw [hT] at hg1
      have HIn := Lib.hid (inner_l x0 x1 x2 x3 (anyF l) HSet.out w8 (HT.out.below HB8.out))
      rw [hT] at HIn
      have hs94 : (⟨#[91, 94]⟩ : ByteArray) = Str [91, 94] := rfl
      have hs93 : (⟨#[93]⟩ : ByteArray) = Str [93] := rfl
      have r1 : ∀ w, (Op.stringOp .add (Str [91, 94]) (Str T)).run Tryd.prog w = .ok (.string (Str (91 :: 94 :: T))) w := fun w => str_cat [91, 94] T w (by simp; omega)
      have r2 : ∀ w, (Op.stringOp .add (Str (91 :: 94 :: T)) (Str [93])).run Tryd.prog w = .ok (.string (Str (91 :: 94 :: (T ++ [93])))) w := fun w => str_cat (91 :: 94 :: T) [93] w (by simp; omega)
      have hrd : ∀ w, Sent 254 w A bks → Calls Tryd.prog 13 #[.string (Str (91 :: 94 :: (T ++ [93]))), .int .i64 0] w (ReP A w (g, T.length + 3, 0)) := fun w hs => by
        have h := read_at (A := A) (w := w) (s := Str (91 :: 94 :: (T ++ [93]))) (i := 0) (by rw [Str_size]; simp; omega) hs
        rw [Str_toList, hg1] at h
        exact h
      have HRd2 := Lib.hid hrd
      have HG2 := Lib.hid hg2
      have he0 : evb A 0 = .nilIface := rfl
      obtain ⟨⟨k0, k1, k2, k3⟩, _, _, _, _⟩ := HA8.out.cells
      clear hT hlne hg1 hg2 hrd hneq SK
      go_wp2_with fail
      refine HIn.out.mono ?_
      rintro e w9 ⟨rfl, hb9⟩
      have HA9 := Lib.hid (HA8.out.below hb9)
      have HB9 := Lib.hid (HB8.out.trans (hb9.mono HB8.out.size))
      clear hb9 k0 k1 k2 k3
      go_wp2_with fail
      refine (HRd2.out _ (HS.out.keep HB9.out)).mono ?_
      rintro e w10 ⟨rs, rfl, hset10, hb10⟩
      obtain ⟨y0, y1, y2, y3, rfl⟩ := set_four hset10
      simp only [he0]
      have b11 := (Below.refl w10.heap.size w10).alloc (Nat.le_refl _) (.cells #[.int .u64 (y0 : Int), .int .u64 (y1 : Int), .int .u64 (y2 : Int), .int .u64 (y3 : Int)] 25)
      have hB10 := HB9.out.trans (hb10.mono HB9.out.size)
      have HB11 := Lib.hid (hB10.trans (b11.mono hB10.size))
      have HA11 := Lib.hid ((HA9.out.below hb10).below b11)
      have HC11 := Lib.hid (show Ab (w10.alloc (.cells #[.int .u64 (y0 : Int), .int .u64 (y1 : Int), .int .u64 (y2 : Int), .int .u64 (y3 : Int)] 25)) w10.heap.size y0 y1 y2 y3 from heap_alloc_new w10 _)
      have hy : IsSet [y0, y1, y2, y3] (fun q => !anyF l q) := ⟨hset10.len, hset10.lt, fun q hq => by rw [hset10.at' q hq]; show g q = _; rw [HG2.out q, lsb_any _ q hq]⟩
      have HY := Lib.hid hy
      obtain ⟨w11, hw11⟩ : ∃ w11, (w10.alloc (.cells #[.int .u64 (y0 : Int), .int .u64 (y1 : Int), .int .u64 (y2 : Int), .int .u64 (y3 : Int)] 25)) = w11 := ⟨_, rfl⟩
      rw [hw11] at HB11 HA11 HC11
      obtain ⟨p13, hp13⟩ : ∃ p13, w10.heap.size = p13 := ⟨_, rfl⟩
      rw [hp13] at HC11
      have HW11 := Lib.hid hw11
      have HP13 := Lib.hid hp13
      simp only [sv, vals, List.map_cons, List.map_nil]
      clear hset10 hb10 b11 hB10 hw11 hp13 hy
      have heq := eq_same y0 y1 y2 y3
      have HNo := Lib.hid (fun W' => not_c [x0, x1, x2, x3] (anyF l) HSet.out W')
      simp only [sv, vals, List.map_cons, List.map_nil] at HNo
      have sk : ∀ W, Below w11.heap.size w11 W → (W.cell? ⟨p9, 0, none⟩ = some (.int .u64 (x0 : Int)) ∧ W.cell? ⟨p9, 1, none⟩ = some (.int .u64 (x1 : Int)) ∧ W.cell? ⟨p9, 2, none⟩ = some (.int .u64 (x2 : Int)) ∧ W.cell? ⟨p9, 3, none⟩ = some (.int .u64 (x3 : Int))) ∧ (W.cell? ⟨p13, 0, none⟩ = some (.int .u64 (y0 : Int)) ∧ W.cell? ⟨p13, 1, none⟩ = some (.int .u64 (y1 : Int)) ∧ W.cell? ⟨p13, 2, none⟩ = some (.int .u64 (y2 : Int)) ∧ W.cell? ⟨p13, 3, none⟩ = some (.int .u64 (y3 : Int))) := fun W hB => ⟨(HA11.out.below hB).cells.1, (HC11.out.below hB).cells.1⟩
      have SK := Lib.hid sk
      have z0 : Below w11.heap.size w11 w11.drew := (Below.refl _ _).drew
      clear sk
      go_wp2_with fail
      rw [HW11.out, HP13.out]
      go_region_held3 (fun W => (W.cell? ⟨p9, 0, none⟩ = some (.int .u64 (x0 : Int)) ∧ W.cell? ⟨p9, 1, none⟩ = some (.int .u64 (x1 : Int)) ∧ W.cell? ⟨p9, 2, none⟩ = some (.int .u64 (x2 : Int)) ∧ W.cell? ⟨p9, 3, none⟩ = some (.int .u64 (x3 : Int))) ∧ (W.cell? ⟨p13, 0, none⟩ = some (.int .u64 (y0 : Int)) ∧ W.cell? ⟨p13, 1, none⟩ = some (.int .u64 (y1 : Int)) ∧ W.cell? ⟨p13, 2, none⟩ = some (.int .u64 (y2 : Int)) ∧ W.cell? ⟨p13, 3, none⟩ = some (.int .u64 (y3 : Int))))
        (first | exact SK.out _ z1 | exact SK.out _ z0)
        ((go_at_call 25; (with_reducible refine (HNo.out _).mono ?_); rintro e w12 ⟨rs, rfl, hset12, hb12⟩
          have z1 : Below w11.heap.size w11 w12 := z0.trans (hb12.mono z0.size)
          obtain rfl := hset12.unique HY.out
          simp only [List.map_cons, List.map_nil]))
      have HB12 := Lib.hid (HB11.out.trans (z1.mono HB11.out.size))
      clear z0 z1 hb12 hset12
      go_wp2
      go_ret
      exact ⟨by first | rfl | simp, HB12.out⟩
set_option maxHeartbeats 2000000 in
set_option maxRecDepth 100000 in
theorem items_c (turn : Int) (a : Option Addr) (cap n : Nat) (l : List UInt8) (w : World) (hn : l.length = n) (hr : Rd w a (u8s l)) (hT : Bt.Tab w) (hs : Sent 254 w A bks) :
    Calls Tryd.prog 5 #[.slice a n cap, .int .i64 turn] w fun e w' => e = .returned (.bool true) ∧ Below w.heap.size w w' := by
  by_cases h40 : n ≤ 40
  · by_cases h0 : 0 < n
    · exact items_small turn a cap n l w hn h0 h40 hr hT hs
    · have : n = 0 := by omega
      subst this
      have HAl := Lib.hid (alive_c A w hs)
      clear hn hr hT hs h40 h0
      go_enter Tryd.func5, Tryd.ntmps5
      go_wp2_with fail
      refine HAl.out.mono ?_
      rintro e w1 ⟨rfl, hb1⟩
      go_wp2
      go_ret
      exact ⟨rfl, hb1⟩
  · have da : decide ((40 : Int) < (n : Int)) = true := by simp; omega
    have HAl := Lib.hid (alive_c A w hs)
    clear hn hr hT hs h40
    go_enter Tryd.func5, Tryd.ntmps5
    go_wp2_with fail
    refine HAl.out.mono ?_
    rintro e w1 ⟨rfl, hb1⟩
    go_wp2
    go_ret
    exact ⟨rfl, hb1⟩
end Bk
end Go.Proofs.YtmfcabidmacdcaaDoor
