/- dofferlaw06: together, inner. Conditions: the table of TrailingZeros64 and the sentinels read as laid. -/
import Derived.Test.YtmfcabidmacdcaaDoorBrkText
import Derived.Test.YtmfcabidmacdcaaDoorSets2
namespace Go.Proofs.YtmfcabidmacdcaaDoor
open Go Go.RowKit Kt Sp St
namespace Bk
variable {w W W' : World} {A : Nat → Addr}
def anyF (l : List UInt8) : Nat → Bool := fun q => l.any fun c => decide (c.toNat = q)
/-- The loop of together: at most m rounds are to come. -/
def ToR (w : World) (r o : Nat) (l : List UInt8) (m : Nat) (a : Value) (W : World) : Prop :=
  ∃ k x0 x1 x2 x3, k + m = l.length ∧ a = .int .i64 ((brs (l.take k)).length : Int) ∧ IsSet [x0, x1, x2, x3] (anyF (l.take k)) ∧ Ab W o x0 x1 x2 x3 ∧ Ab W r 0 0 0 0 ∧ Below w.heap.size w W
theorem anyF_snoc (l : List UInt8) (c : UInt8) (q : Nat) : anyF (l ++ [c]) q = (anyF l q || decide (q = c.toNat)) := by
  unfold anyF
  rw [List.any_append]
  simp only [List.any_cons, List.any_nil, Bool.or_false]
  congr 1
  apply decide_eq_decide.2
  omega
set_option maxHeartbeats 8000000 in
set_option maxRecDepth 100000 in
theorem together_c (l : List UInt8) (hl : l.length ≤ 1000) (w : World) (hs : Sent 254 w A bks) : Calls Tryd.prog 22 #[.string (Str (brs l))] w fun e w' => ∃ rs, e = .returned (.tuple #[sv rs, .bool true]) ∧ IsSet rs (anyF l) ∧ Below w.heap.size w w' := by
  have hbl := brs_len l
  have hsz := Str_size (brs l)
  obtain ⟨L, hL⟩ : ∃ L, (brs l).length = L := ⟨_, rfl⟩
  rw [hL] at hsz hbl
  obtain ⟨N, hN⟩ : ∃ N, l.length = N := ⟨_, rfl⟩
  have b1 : Below w.heap.size w ((w.alloc (.cells #[.int .u64 0, .int .u64 0, .int .u64 0, .int .u64 0] 25)).alloc (.cells #[.int .u64 0, .int .u64 0, .int .u64 0, .int .u64 0] 25)) := ((Below.refl _ _).alloc (Nat.le_refl _) _).alloc (by simp) _
  have a0 : Ab ((w.alloc (.cells #[.int .u64 0, .int .u64 0, .int .u64 0, .int .u64 0] 25)).alloc (.cells #[.int .u64 0, .int .u64 0, .int .u64 0, .int .u64 0] 25)) w.heap.size 0 0 0 0 := heap_alloc2_old w _ _
  have a1 : Ab ((w.alloc (.cells #[.int .u64 0, .int .u64 0, .int .u64 0, .int .u64 0] 25)).alloc (.cells #[.int .u64 0, .int .u64 0, .int .u64 0, .int .u64 0] 25)) (w.heap.size + 1) 0 0 0 0 := by
    have := heap_alloc_new (w.alloc (.cells #[.int .u64 0, .int .u64 0, .int .u64 0, .int .u64 0] 25)) (.cells #[.int .u64 0, .int .u64 0, .int .u64 0, .int .u64 0] 25)
    rw [World.size_alloc] at this
    exact this
  have hbz := build_zero
  have HB1 := Lib.hid b1
  have HA0 := Lib.hid a0
  have HA1 := Lib.hid a1
  have HN := Lib.hid hN
  have HL := Lib.hid hL
  have HS := Lib.hid hs
  obtain ⟨r, hr⟩ : ∃ r, w.heap.size = r := ⟨_, rfl⟩
  obtain ⟨o, ho⟩ : ∃ o, r + 1 = o := ⟨_, rfl⟩
  rw [hr] at HA0 HA1
  rw [ho] at HA1
  have HR := Lib.hid hr
  have HO := Lib.hid ho
  have hro : r ≠ o := by omega
  have hor : r ≤ o := by omega
  clear b1 a0 a1 hN hL hs hr ho
  go_enter Tryd.func22, Tryd.ntmps22
  go_wp2_with fail
  rw [HR.out, HO.out]
  go_loopg [5] N (fun m a W' => ToR w r o l m a W')
  case atStart => exact ⟨0, 0, 0, 0, 0, by rw [HN.out]; omega, rfl, ⟨zero_set.len, zero_set.lt, fun q hq => by rw [zero_set.at' q hq]; rfl⟩, HA1.out, HA0.out, HB1.out⟩
  case round =>
    clear HA0 HA1 HB1 hbz
    obtain ⟨k, x0, x1, x2, x3, hk, rfl, hset, hab, haz, hB⟩ := hrel
    rw [HN.out] at hk
    by_cases hlt : k < N
    · have hkl : k < l.length := by rw [HN.out]; exact hlt
      obtain ⟨m, rfl⟩ : ∃ m, gk = m + 1 := ⟨gk - 1, by omega⟩
      have hsn : l.take (k + 1) = l.take k ++ [l[k]] := (List.take_append_getElem hkl).symm
      have hsp : l = l.take k ++ ([l[k]] ++ l.drop (k + 1)) := by rw [← List.append_assoc, List.take_append_getElem hkl, List.take_append_drop]
      have hbr : brs l = brs (l.take k) ++ (91 :: (sp ins l[k] ++ [93]) ++ brs (l.drop (k + 1))) := by
        conv => lhs; rw [hsp]
        rw [brs_append, brs_append, brs_one]
      have hbs : brs (l.take (k + 1)) = brs (l.take k) ++ (91 :: (sp ins l[k] ++ [93])) := by rw [hsn, brs_append, brs_one]
      obtain ⟨g, hg1, hg2⟩ := brd_one (brs (l.take k)) (brs (l.drop (k + 1))) l[k]
      rw [← hbr] at hg1
      have hsl := sp_len l[k]
      have hanyc := anyF_snoc (l.take k) l[k]
      rw [← hsn] at hanyc
      generalize l[k] = c at *
      obtain ⟨at', hat⟩ : ∃ at', (brs (l.take k)).length = at' := ⟨_, rfl⟩
      obtain ⟨nx, hnx⟩ : ∃ nx, at' + (sp ins c).length + 2 = nx := ⟨_, rfl⟩
      rw [hat] at hg1 ⊢
      rw [hnx] at hg1
      have hltn : at' < nx := by omega
      have hnxl : nx = (brs (l.take (k + 1))).length := by rw [hbs, List.length_append, hat]; simp; omega
      have hLb : at' < L := by
        have h1 := HL.out
        rw [hbr, List.length_append, hat] at h1
        simp at h1
        omega
      have hrd : ∀ w, Sent 254 w A bks → Calls Tryd.prog 13 #[.string (Str (brs l)), .int .i64 (at' : Int)] w (ReP A w (g, nx, 0)) := fun w hs => by
        have h := read_at (A := A) (w := w) (s := Str (brs l)) (i := at') (by rw [Str_size, HL.out]; omega) hs
        rw [Str_toList, hg1] at h
        exact h
      have hleq : decide ((nx : Int) ≤ (at' : Int)) = false := by simp; omega
      have hleq2 : decide (nx ≤ at') = false := by simp; omega
      have hL6 : L ≤ 6000 := by omega
      have HRd := Lib.hid hrd
      have HSet := Lib.hid hset
      have HG2 := Lib.hid hg2
      have HAny := Lib.hid hanyc
      have HNx := Lib.hid hnxl
      have HAb := Lib.hid hab
      have HAz := Lib.hid haz
      have HB := Lib.hid hB
      have he0 : evb A 0 = .nilIface := rfl
      clear hrd hset hab haz hB hsn hsp hbr hbs hg1 hg2 hsl hanyc hat hnx hnxl
      go_wp2_with fail
      refine (HRd.out _ (HS.out.keep HB.out)).mono ?_
      rintro e w4 ⟨rs, rfl, hset4, hb4⟩
      obtain ⟨y0, y1, y2, y3, rfl⟩ := set_four hset4
      simp only [he0]
      have b5 := (Below.refl w4.heap.size w4).alloc (Nat.le_refl _) (.cells #[.int .u64 (y0 : Int), .int .u64 (y1 : Int), .int .u64 (y2 : Int), .int .u64 (y3 : Int)] 25)
      have hB4 := HB.out.trans (hb4.mono HB.out.size)
      have HB5 := Lib.hid (hB4.trans (b5.mono hB4.size))
      have A5 := (HAb.out.below hb4).below b5
      have HA5 := Lib.hid A5
      have HZ5 := Lib.hid ((HAz.out.below hb4).below b5)
      have c5 : Ab (w4.alloc (.cells #[.int .u64 (y0 : Int), .int .u64 (y1 : Int), .int .u64 (y2 : Int), .int .u64 (y3 : Int)] 25)) w4.heap.size y0 y1 y2 y3 := heap_alloc_new w4 _
      obtain ⟨⟨k0, k1, k2, k3⟩, _, _, _, _⟩ := A5.cells
      obtain ⟨⟨l0, l1, l2, l3⟩, _, _, _, _⟩ := c5.cells
      have HOr := Lib.hid (fun W' => or_c [x0, x1, x2, x3] [y0, y1, y2, y3] _ _ HSet.out hset4 W')
      simp only [sv, vals, List.map_cons, List.map_nil] at HOr ⊢
      clear hset4 hb4 b5 hB4 A5 c5 he0
      go_wp2_with fail
      refine (HOr.out _).mono ?_
      rintro e w6 ⟨ts, rfl, hset6, hb6⟩
      obtain ⟨u0, u1, u2, u3, rfl⟩ := set_four hset6
      have A6 := HA5.out.below hb6
      have Z6 := HZ5.out.below hb6
      obtain ⟨⟨m0, m1, m2, m3⟩, g0, g1, g2, g3⟩ := A6.cells
      have HA7 := Lib.hid (A6.put u0 u1 u2 u3)
      have HZ7 := Lib.hid (show Ab (put4 w6 o u0 u1 u2 u3) r 0 0 0 0 from (put4_other hro _ _ _ _).trans Z6)
      have hrw := HR.out
      have HB7 := Lib.hid (put4_below (HB5.out.trans (hb6.mono HB5.out.size)) (show w.heap.size ≤ o by omega) u0 u1 u2 u3)
      have hfin : IsSet [u0, u1, u2, u3] (anyF (l.take (k + 1))) := ⟨hset6.len, hset6.lt, fun q hq => by rw [hset6.at' q hq, HAny.out q, HG2.out q]⟩
      have HFin := Lib.hid hfin
      try simp only [sv, vals, List.map_cons, List.map_nil]
      clear hset6 hb6 A6 Z6 hfin hrw k0 k1 k2 k3 l0 l1 l2 l3
      go_wp2
      go_roundg m
      case measure => omega
      case rel => exact ⟨k + 1, u0, u1, u2, u3, by rw [HN.out]; omega, by rw [HNx.out], HFin.out, HA7.out, HZ7.out, HB7.out⟩
    · have hkN : k = N := by omega
      subst hkN
      rw [List.take_of_length_le (by rw [HN.out]; exact Nat.le_refl _)] at hset
      rw [List.take_of_length_le (by rw [HN.out]; exact Nat.le_refl _), HL.out]
      obtain ⟨⟨k0, k1, k2, k3⟩, _, _, _, _⟩ := hab.cells
      obtain ⟨⟨z0, z1, z2, z3⟩, f0, f1, f2, f3⟩ := haz.cells
      have HF := Lib.hid (haz.put x0 x1 x2 x3)
      have HB := Lib.hid (put4_below hB (Nat.le_of_eq HR.out) x0 x1 x2 x3)
      have HSet := Lib.hid hset
      clear hset hab haz hB
      go_wp2
      ((try simp only [Exit.inBlock, Exit.then]); refine bodyPost_ret (Kt.results_cell2_row rfl _ _ (r) 25 _ (0, 0) _ rfl (HF.out) Tryd.underlying25 rfl ?hi1) rfl ?_; (case hi1 => kernel_rfl))
      exact ⟨[x0, x1, x2, x3], rfl, HSet.out, HB.out⟩
theorem mid_run (s t : List UInt8) (K : Nat) (ht : t = 91 :: (s ++ [93])) (hK : t.length = K) (w : World) : (Instr.slice 9 (.string (Str t)) (some (.int .i64 1)) (some (.int .i64 ((K : Int) - 1))) none).run Tryd.prog w = .ok (.string (Str s)) w := by
  have hk : K = s.length + 2 := by rw [← hK, ht]; simp
  rw [run_slice_string (P := Tryd.prog) w 9 (Str t) .i64 .i64 1 ((K : Int) - 1) Tryd.underlying9 (by omega) (by omega) (by rw [Str_size, hK]; omega)]
  congr 2
  rw [Lib.extract_eq, Str_toList, ht, show ((K : Int) - 1).toNat = s.length + 1 by omega]
  simp [Str]
/-- A set's bytes. -/
def lsb (f : Nat → Bool) : List UInt8 := (ls f).map UInt8.ofNat
theorem lsb_u8s {q : List (Fin 256)} {f : Nat → Bool} (h : q.map Fin.val = ls f) : q.map b8 = u8s (lsb f) := by
  unfold lsb u8s
  rw [← h, List.map_map, List.map_map]
  apply List.map_congr_left
  intro x _
  have : (UInt8.ofNat x.val).toNat = x.val := by rw [UInt8.toNat_ofNat']; omega
  simp [b8, this]
theorem lsb_any (f : Nat → Bool) (q : Nat) (hq : q < 256) : (lsb f).any (fun c => decide (c.toNat = q)) = f q := by
  rw [Bool.eq_iff_iff]
  unfold lsb
  rw [List.any_map, List.any_eq_true]
  constructor
  · rintro ⟨x, hx, hxq⟩
    obtain ⟨h1, h2⟩ := (ls_mem f x).1 hx
    have : (UInt8.ofNat x).toNat = x := by rw [UInt8.toNat_ofNat']; omega
    simp [this] at hxq
    subst hxq
    exact h2
  · intro h
    refine ⟨q, (ls_mem f q).2 ⟨hq, h⟩, ?_⟩
    have : (UInt8.ofNat q).toNat = q := by rw [UInt8.toNat_ofNat']; omega
    simp [this]
def InR (w : World) (a : Option Addr) (l : List UInt8) (o i : Value) (W : World) : Prop := ∃ k, k ≤ l.length ∧ i = .int .i64 (k : Int) ∧ o = .string (Str ((l.take k).flatMap (sp ins))) ∧ Rd W a (u8s l) ∧ Below w.heap.size w W
theorem sps_le (l : List UInt8) : (l.flatMap (sp ins)).length ≤ 4 * l.length := by
  induction l with
  | nil => simp
  | cons c r ih =>
    have := sp_len c
    rw [List.flatMap_cons, List.length_append, List.length_cons]
    omega
/-- The text of one byte. -/
theorem one_text (c : UInt8) (w : World) (hT : Bt.Tab w) {x0 x1 x2 x3 : Nat} (h : IsSet [x0, x1, x2, x3] (fun q => decide (q = c.toNat))) : Calls Tryd.prog 16 #[.agg #[.int .u64 (x0 : Int), .int .u64 (x1 : Int), .int .u64 (x2 : Int), .int .u64 (x3 : Int)]] w fun e w' => e = .returned (.string (Str (91 :: (sp ins c ++ [93])))) ∧ Below w.heap.size w w' := by
  have := text_c x0 x1 x2 x3 _ h w hT
  rw [btx_one] at this
  exact this
theorem one_u (c : UInt8) (w : World) : Calls Tryd.prog 21 #[.int .u8 (c.toNat : Int)] w fun e w' => ∃ rs, e = .returned (sv rs) ∧ IsSet rs (fun q => decide (q = c.toNat)) ∧ Below w.heap.size w w' := St.one_c c.toNat (by have := c.toNat_lt; omega) w
set_option maxHeartbeats 8000000 in
set_option maxRecDepth 100000 in
theorem inner_l (x0 x1 x2 x3 : Nat) (f : Nat → Bool) (hset : IsSet [x0, x1, x2, x3] f) (w : World) (hT : Bt.Tab w) : Calls Tryd.prog 24 #[.agg #[.int .u64 (x0 : Int), .int .u64 (x1 : Int), .int .u64 (x2 : Int), .int .u64 (x3 : Int)]] w fun e w' => e = .returned (.string (Str ((lsb f).flatMap (sp ins)))) ∧ Below w.heap.size w w' := by
  have b1 := (Below.refl w.heap.size w).alloc (Nat.le_refl _) (.cells #[.int .u64 (x0 : Int), .int .u64 (x1 : Int), .int .u64 (x2 : Int), .int .u64 (x3 : Int)] 25)
  have HLi := Lib.hid (fun w (hT : Bt.Tab w) => list_c [x0, x1, x2, x3] rfl hset.lt w hT)
  simp only [sv, vals, List.map_cons, List.map_nil] at HLi
  have hall : Mk.all [x0, x1, x2, x3] = ls f := all_is hset
  have HB1 := Lib.hid b1
  have HT := Lib.hid hT
  have HAll := Lib.hid hall
  have hlb : (lsb f).length ≤ 256 := by unfold lsb; rw [List.length_map]; exact ls_len f
  obtain ⟨m, hm⟩ : ∃ m, lsb f = m := ⟨_, rfl⟩
  rw [hm] at hlb ⊢
  have HM := Lib.hid hm
  clear b1 hT hall hset hm
  go_enter Tryd.func24, Tryd.ntmps24
  go_wp2_with fail
  refine (HLi.out _ (HT.out.below HB1.out)).mono ?_
  rintro e w2 ⟨v, q, hq, rfl, hown, hb2⟩
  rw [HAll.out] at hq
  rw [lsb_u8s hq, HM.out] at hown
  have hql : q.length = m.length := by
    have := congrArg List.length hq
    rw [← HM.out]
    simpa [lsb] using this
  rw [hql] at hown
  obtain ⟨N, hN⟩ : ∃ N, m.length = N := ⟨_, rfl⟩
  rw [hN] at hown hlb
  obtain ⟨a, cc, rfl⟩ : ∃ a cc, v = .slice a N cc := by
    rcases hown.2 with ⟨h, h0⟩ | ⟨g, cap, cur, hv, _⟩
    · exact ⟨none, 0, by rw [h, h0]⟩
    · exact ⟨_, _, hv⟩
  have HRd := Lib.hid (Rd.own hown)
  have HB2 := Lib.hid (HB1.out.trans (hb2.mono HB1.out.size))
  have HN := Lib.hid hN
  clear hown hb2 hq hql hN
  go_wp2_with fail
  go_loopw [3, 5, 6, 10] (fun o _ _ i W' => InR w a m o i W') (fun _ _ _ i _ => N - (intOf i).toNat)
  case atStart => exact ⟨0, Nat.zero_le _, rfl, rfl, HRd.out, HB2.out⟩
  case round =>
    clear HRd HB2
    obtain ⟨k, hk, rfl, rfl, hrd, hB⟩ := hrel
    rw [HN.out] at hk
    by_cases hlt : k < N
    · have hkl : k < m.length := by rw [HN.out]; exact hlt
      obtain ⟨bb, off, ha, hc⟩ := hrd.u8 k hkl
      have hsn : (m.take (k + 1)).flatMap (sp ins) = (m.take k).flatMap (sp ins) ++ sp ins m[k] := by
        rw [← List.take_append_getElem hkl, List.flatMap_append]
        simp
      have hle := sps_le (m.take k)
      rw [List.length_take] at hle
      generalize m[k] = c at *
      have hsl := sp_len c
      have HTx := Lib.hid (fun w (hT : Bt.Tab w) {x0 x1 x2 x3 : Nat} (h : IsSet [x0, x1, x2, x3] (fun q => decide (q = c.toNat))) => one_text c w hT h)
      obtain ⟨t, ht⟩ : ∃ t, 91 :: (sp ins c ++ [93]) = t := ⟨_, rfl⟩
      obtain ⟨K, hK⟩ : ∃ K, t.length = K := ⟨_, rfl⟩
      have hmid := fun w => mid_run (sp ins c) t K ht.symm hK w
      rw [ht] at HTx
      have hst := Str_size t
      rw [hK] at hst
      have hK3 : 3 ≤ K := by rw [← hK, ← ht]; simp; omega
      have hK9 : K ≤ 9 := by rw [← hK, ← ht]; simp; omega
      have hd : decide ((K : Int) < 2) = false := by simp; omega
      have hmk : min k m.length ≤ 256 := by have := HN.out; omega
      generalize sp ins c = s at *
      obtain ⟨T, hT2⟩ : ∃ T, (m.take k).flatMap (sp ins) = T := ⟨_, rfl⟩
      rw [hT2] at hsn hle ⊢
      have hcat := fun w => str_cat T s w (by omega)
      have HSn := Lib.hid hsn
      have HRd := Lib.hid hrd
      have HB := Lib.hid hB
      subst ha
      clear hsn hrd hB hle hsl ht hK hT2
      go_wp2_with fail
      refine (one_u c _).mono ?_
      rintro e w4 ⟨rs, rfl, hset4, hb4⟩
      obtain ⟨y0, y1, y2, y3, rfl⟩ := set_four hset4
      have hB4 := HB.out.trans (hb4.mono HB.out.size)
      have HB4 := Lib.hid hB4
      have HRd4 := Lib.hid (HRd.out.keep hb4)
      have HX := Lib.hid (HTx.out w4 (HT.out.below hB4) hset4)
      simp only [sv, vals, List.map_cons, List.map_nil]
      clear hset4 hb4 hB4
      go_wp2_with fail
      refine HX.out.mono ?_
      rintro e w5 ⟨rfl, hb5⟩
      have HB5 := Lib.hid (HB4.out.trans (hb5.mono HB4.out.size))
      have HRd5 := Lib.hid (HRd4.out.keep hb5)
      clear hb5
      go_wp2
      go_roundw
      case rel => first | exact ⟨k + 1, hkl, by go_num, by rw [HSn.out], HRd5.out, HB5.out⟩ | ((repeat apply Exists.intro); refine ⟨?r, ?f⟩; (case f => (and_intros <;> rfl)); exact ⟨k + 1, hkl, by go_num, by rw [HSn.out], HRd5.out, HB5.out⟩)
      case measure => simp [intOf]; omega
    · have hkN : k = N := by omega
      subst hkN
      rw [List.take_of_length_le (by rw [HN.out]; exact Nat.le_refl _)]
      have HB := Lib.hid hB
      clear hB hrd
      go_wp2
      go_ret
      exact ⟨rfl, HB.out⟩
end Bk
end Go.Proofs.YtmfcabidmacdcaaDoor
