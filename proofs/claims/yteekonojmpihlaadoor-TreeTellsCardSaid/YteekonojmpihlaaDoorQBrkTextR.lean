import Derived.Test.YteekonojmpihlaaDoorQBrkText
import Derived.Test.YteekonojmpihlaaDoorQSetsR3
import Derived.Test.YteekonojmpihlaaDoorQSetsTell0
/- dofferref06.Text: the document's text of a set. -/
namespace Go.Proofs.YteekonojmpihlaaDoor
open Go Go.RowKit Kt Sp St
namespace Bk
variable {w W W' : World}
theorem rinner_p (n : Nat) (hn : n < 256) (w : World) : Calls Tryd.prog 120 #[.int .u8 (n : Int)] w fun e w' => e = .returned (.string (Str (sp ins (UInt8.ofNat n)))) ∧ Below w.heap.size w w' := by
  have e1 : (UInt8.ofNat n).toNat = n := by rw [UInt8.toNat_ofNat']; omega
  have h := rinner_c (UInt8.ofNat n) w
  rw [e1] at h
  exact h
def TyM (w : World) (b : Nat) (f : Nat → Bool) (tb : Bool) (o : Value) (W : World) : Prop :=
  ∃ y0 y1 y2 y3, o = .string (Str (if tb then [91, 94] else [91])) ∧ IsSet [y0, y1, y2, y3] (if tb then neg f else f) ∧ Aw W b y0 y1 y2 y3 ∧ Below w.heap.size w W
theorem rspan_all (w : World) : Calls Tryd.prog 118 #[.int .i64 0, .int .i64 255] w fun e w' => ∃ rs, e = .returned (sv rs) ∧ IsSet rs (fun q => decide (0 ≤ q) && decide (q ≤ 255)) ∧ Below w.heap.size w w' := rspan_c 0 255 (by omega) (by omega) w
theorem minus_r (z0 z1 z2 z3 x0 x1 x2 x3 : Nat) (f g : Nat → Bool) (hw : IsSet [z0, z1, z2, z3] f) (hu : IsSet [x0, x1, x2, x3] g) (w : World) : Calls Tryd.prog 117 #[.agg #[.int .u64 (z0 : Int), .int .u64 (z1 : Int), .int .u64 (z2 : Int), .int .u64 (z3 : Int)], .agg #[.int .u64 (x0 : Int), .int .u64 (x1 : Int), .int .u64 (x2 : Int), .int .u64 (x3 : Int)], .int .i64 2] w fun e w' => ∃ rs, e = .returned (sv rs) ∧ IsSet rs (fun q => bf 2 (f q) (g q)) ∧ Below w.heap.size w w' := both_c 2 (by omega) _ _ f g hw hu w
/-- The text so far. -/
def TyR (w : World) (a : Option Addr) (op : List UInt8) (ps : List (Nat × Nat)) (o i : Value) (W : World) : Prop :=
  ∃ k m : Nat, k ≤ ps.length ∧ m = 2 * k ∧ i = .int .i64 (m : Int) ∧ o = .string (Str (op ++ (ps.take k).flatMap itx)) ∧ Rd W a ((flat ps).map k64) ∧ Below w.heap.size w W
theorem flat_cells {a : Option Addr} {ps : List (Nat × Nat)} (h : Rd W a ((flat ps).map k64)) (k : Nat) (hk : k < ps.length) : ∃ b off, a = some ⟨b, off, none⟩ ∧ W.cell? ⟨b, off + 2 * k, none⟩ = some (.int .i64 (ps[k].1 : Int)) ∧ W.cell? ⟨b, off + (2 * k + 1), none⟩ = some (.int .i64 (ps[k].2 : Int)) := by
  obtain ⟨h1, h2⟩ := flat_at ps k hk
  obtain ⟨b, off, ha, hc⟩ := h (2 * k) (.int .i64 (ps[k].1 : Int)) (by rw [List.getElem?_map, h1]; rfl)
  obtain ⟨b', off', ha', hc'⟩ := h (2 * k + 1) (.int .i64 (ps[k].2 : Int)) (by rw [List.getElem?_map, h2]; rfl)
  rw [ha] at ha'
  simp only [Option.some.injEq, Addr.mk.injEq, and_true] at ha'
  obtain ⟨rfl, rfl⟩ := ha'
  exact ⟨b, off, ha, hc, hc'⟩
set_option maxHeartbeats 8000000 in
set_option maxRecDepth 100000 in
theorem rtext_c (x0 x1 x2 x3 : Nat) (f : Nat → Bool) (hset : IsSet [x0, x1, x2, x3] f) (w : World) : Calls Tryd.prog 88 #[.agg #[.int .u64 (x0 : Int), .int .u64 (x1 : Int), .int .u64 (x2 : Int), .int .u64 (x3 : Int)]] w fun e w' => e = .returned (.string (Str (btx f))) ∧ Below w.heap.size w w' := by
  have hb1 := (Below.refl w.heap.size w).alloc (Nat.le_refl _) (.cells #[.int .u64 (x0 : Int), .int .u64 (x1 : Int), .int .u64 (x2 : Int), .int .u64 (x3 : Int)] 33)
  have a1 : Aw (w.alloc (.cells #[.int .u64 (x0 : Int), .int .u64 (x1 : Int), .int .u64 (x2 : Int), .int .u64 (x3 : Int)] 33)) w.heap.size x0 x1 x2 x3 := heap_alloc_new w _
  obtain ⟨W1, hW1⟩ : ∃ W1, (w.alloc (.cells #[.int .u64 (x0 : Int), .int .u64 (x1 : Int), .int .u64 (x2 : Int), .int .u64 (x3 : Int)] 33)) = W1 := ⟨_, rfl⟩
  rw [hW1] at hb1 a1
  have HW1 := Lib.hid hW1
  obtain ⟨n, hn⟩ : ∃ n, (ls f).length = n := ⟨_, rfl⟩
  have hlen : (Mk.all [x0, x1, x2, x3]).length = n := by rw [all_is hset]; exact hn
  have HLst := Lib.hid (fun w => rlist_c [x0, x1, x2, x3] f hset w)
  rw [hlen] at HLst
  obtain ⟨tb, htb⟩ : ∃ tb, turned f = tb := ⟨_, rfl⟩
  have hte := turned_eq f n hn
  rw [htb] at hte
  have hn256 : n ≤ 256 := by rw [← hn]; exact ls_len f
  have hbx : btx f = (if tb then [91, 94] else [91]) ++ ((sps (ls (if tb then neg f else f))).flatMap itx ++ [93]) := by
    unfold btx
    rw [htb]
    cases tb <;> rfl
  have HBx := Lib.hid hbx
  have HA1 := Lib.hid a1
  have HB1 := Lib.hid hb1
  have HSet := Lib.hid hset
  have HTe := Lib.hid hte
  clear hb1 a1 hW1 hn hlen htb hte hbx hset
  obtain ⟨⟨k0, k1, k2, k3⟩, _, _, _, _⟩ := HA1.out.cells
  simp only [sv, vals, List.map_cons, List.map_nil] at HLst
  go_enter Tryd.func88, Tryd.ntmps88
  go_wp2_with fail
  rw [HW1.out]
  refine (HLst.out _).mono ?_
  rintro e w2 ⟨al, kl, cl, rfl, rfl, _, hb2⟩
  have HA2 := Lib.hid (HA1.out.below hb2)
  have HB2 := Lib.hid (HB1.out.trans (hb2.mono HB1.out.size))
  clear hb2 k0 k1 k2 k3
  go_upto_region 3 with (fail)
  go_cut [21] (fun v W' => v = .bool tb ∧ w2 = W')
  case first =>
    have hte := HTe.out
    by_cases h0 : n = 0
    · subst h0
      simp at hte
      subst hte
      clear HTe
      go_wp2
      go_meet
      case rel => exact ⟨rfl, rfl⟩
    · have f0 : ((n : Int) == 0) = false := by simp; omega
      by_cases h1 : 128 < n
      · have f1 : decide ((128 : Int) < (n : Int)) = true := by simp; omega
        by_cases h2 : n = 256
        · have : tb = false := by rw [hte]; simp; omega
          subst this h2
          clear hte HTe h0 h1
          go_wp2
          go_meet
          case rel => exact ⟨rfl, rfl⟩
        · have : tb = true := by rw [hte]; simp; omega
          subst this
          have f2 : decide ((n : Int) < 256) = true := by simp; omega
          clear hte HTe h0 h1 h2
          go_wp2
          go_meet
          case rel => exact ⟨rfl, rfl⟩
      · have f1 : decide ((128 : Int) < (n : Int)) = false := by simp; omega
        have : tb = false := by rw [hte]; simp; omega
        subst this
        clear hte HTe h0 h1
        go_wp2
        go_meet
        case rel => exact ⟨rfl, rfl⟩
  case rest =>
    obtain ⟨rfl, rfl⟩ := hcut
    clear HTe
    go_upto_if 21 with (fail)
    go_cut [4] (fun o W' => TyM w w.heap.size f tb o W')
    case first =>
      cases tb with
      | false =>
        go_wp2
        go_meet
        case rel => exact ⟨x0, x1, x2, x3, rfl, HSet.out, HA2.out, HB2.out⟩
      | true =>
        obtain ⟨⟨k0, k1, k2, k3⟩, f0, f1, f2, f3⟩ := HA2.out.cells
        go_wp2_with fail
        go_region_with ((first
          | (go_at_call 118; (with_reducible refine (rspan_all _).mono ?_); rintro e w4 ⟨ts, rfl, hsp, hb4⟩
             obtain ⟨z0, z1, z2, z3, rfl⟩ := set_four hsp
             have A4 := HA2.out.below ((Below.refl w2.heap.size w2).drew.trans (hb4.mono (Below.refl w2.heap.size w2).drew.size))
             obtain ⟨⟨l0, l1, l2, l3⟩, g0, g1, g2, g3⟩ := A4.cells
             simp only [sv, vals, List.map_cons, List.map_nil])
          | (go_at_call 117; (with_reducible refine (minus_r z0 z1 z2 z3 x0 x1 x2 x3 _ f hsp HSet.out _).mono ?_); rintro e w5 ⟨us, rfl, hu, hb5⟩
             obtain ⟨u0, u1, u2, u3, rfl⟩ := set_four hu
             have A5 := A4.below hb5
             obtain ⟨⟨m0, m1, m2, m3⟩, j0, j1, j2, j3⟩ := A5.cells
             simp only [sv, vals, List.map_cons, List.map_nil])))
        all_goals
          have HFin := Lib.hid (And.intro (A5.put u0 u1 u2 u3) (putw_below ((HB2.out.trans ((Below.refl w2.heap.size w2).drew.mono HB2.out.size)).trans ((hb4.mono (Nat.le_trans HB2.out.size (Nat.le_refl _))).trans (hb5.mono (Nat.le_trans HB2.out.size hb4.size)))) (Nat.le_refl w.heap.size) u0 u1 u2 u3))
          have hneg : IsSet [u0, u1, u2, u3] (neg f) := ⟨hu.len, hu.lt, fun q hq => by rw [hu.at' q hq]; simp [bf, neg]; omega⟩
          have HNeg := Lib.hid hneg
          clear A4 A5 hb4 hb5 hneg hsp hu
          go_wp2
          go_meet
          case rel => exact ⟨u0, u1, u2, u3, rfl, HNeg.out, HFin.out⟩
    case rest =>
      obtain ⟨y0, y1, y2, y3, rfl, hset, hA4, hB4⟩ := hcut
      obtain ⟨op, hop⟩ : ∃ op, (if tb then [91, 94] else [91] : List UInt8) = op := ⟨_, rfl⟩
      obtain ⟨f2, hf2⟩ : ∃ f2, (if tb then neg f else f) = f2 := ⟨_, rfl⟩
      rw [hop]
      rw [hf2] at hset
      have HOp := Lib.hid hop
      have HF2 := Lib.hid hf2
      have hopl : op.length ≤ 2 := by rw [← hop]; cases tb <;> simp
      have HSp := Lib.hid (rspans_c [y0, y1, y2, y3] f2 hset wc)
      rw [show Mk.all [y0, y1, y2, y3] = ls f2 from all_is hset] at HSp
      simp only [sv, vals, List.map_cons, List.map_nil] at HSp
      have hl2 := sps_lt (l := ls f2) (fun x hx => ((ls_mem f2 x).1 hx).1)
      have hl1 := (sps_or (ls f2)).1
      have hpl : (sps (ls f2)).length ≤ 256 := Nat.le_trans (sps_len _) (ls_len f2)
      obtain ⟨ps, hps⟩ : ∃ ps, sps (ls f2) = ps := ⟨_, rfl⟩
      rw [hps] at HSp hl1 hl2 hpl
      have hK := St.flat_len ps
      obtain ⟨K, hKe⟩ : ∃ K, (flat ps).length = K := ⟨_, rfl⟩
      rw [hKe] at hK
      have hK2 : K ≤ 512 := by omega
      have HKe := Lib.hid hKe
      have HK := Lib.hid hK
      have HPs := Lib.hid hps
      have HL1 := Lib.hid hl1
      have HL2 := Lib.hid hl2
      have HB4 := Lib.hid hB4
      obtain ⟨⟨k0, k1, k2, k3⟩, _, _, _, _⟩ := hA4.cells
      clear hop hf2 hset hl1 hl2 hps hKe hK hA4 hB4
      go_wp2_with fail
      refine HSp.out.mono ?_
      rintro e w6 ⟨a, kk, cc, rfl, hkk, hown, hb6⟩
      rw [HKe.out] at hkk
      subst hkk
      have HRd := Lib.hid (Rd.own hown)
      have HB6 := Lib.hid (HB4.out.trans (hb6.mono HB4.out.size))
      clear hown hb6 k0 k1 k2 k3
      go_wp2_with fail
      go_loopw [4, 6, 7, 8] (fun o i _ _ W' => TyR w a op ps o i W') (fun _ i _ _ _ => K - (intOf i).toNat)
      case atStart => exact ⟨0, 0, Nat.zero_le _, rfl, rfl, by simp, HRd.out, HB6.out⟩
      case round =>
        clear HRd HB6
        obtain ⟨k, m, hk, hm, rfl, rfl, hrd, hB⟩ := hrel
        have hKK := HK.out
        by_cases hlt : m < K
        · have hkl : k < ps.length := by omega
          obtain ⟨bb, off, ha, k0, k1⟩ := flat_cells hrd k hkl
          rw [← hm] at k0 k1
          have hp1 := HL1.out _ (List.getElem_mem hkl)
          have hp2 := (HL2.out _ (List.getElem_mem hkl)).2
          have hsn : (ps.take (k + 1)).flatMap itx = (ps.take k).flatMap itx ++ itx ps[k] := by
            rw [← List.take_append_getElem hkl, List.flatMap_append]
            simp
          have hfl := flat_len (ps.take k)
          rw [List.length_take] at hfl
          have hml : min k ps.length ≤ 256 := by omega
          have hm1 : m + 1 < K := by omega
          have hmb : m ≤ 1000 := by omega
          generalize ps[k] = p at *
          have hcases : itx p = if p.1 = p.2 then sp ins (UInt8.ofNat p.1) else if p.1 + 1 = p.2 then sp ins (UInt8.ofNat p.1) ++ sp ins (UInt8.ofNat p.2) else sp ins (UInt8.ofNat p.1) ++ 45 :: sp ins (UInt8.ofNat p.2) := rfl
          obtain ⟨lo, hi⟩ := p
          simp only at hp1 hp2 hcases k0 k1
          have HI1 := Lib.hid (fun w => rinner_p lo (by omega) w)
          have HI2 := Lib.hid (fun w => rinner_p hi hp2 w)
          have l1 := sp_len (UInt8.ofNat lo)
          have l2 := sp_len (UInt8.ofNat hi)
          generalize sp ins (UInt8.ofNat lo) = s1 at *
          generalize sp ins (UInt8.ofNat hi) = s2 at *
          obtain ⟨T, hT⟩ : ∃ T, op ++ (ps.take k).flatMap itx = T := ⟨_, rfl⟩
          have hTl : T.length ≤ 3000 := by rw [← hT, List.length_append]; omega
          have hsn' : op ++ (ps.take (k + 1)).flatMap itx = T ++ itx (lo, hi) := by rw [hsn, ← List.append_assoc, hT]
          rw [hT]
          have r1 := fun w => str_cat T s1 w (by omega)
          have r2 := fun w => str_cat (T ++ s1) [45] w (by simp; omega)
          have r3 := fun w => str_cat (T ++ (s1 ++ [45])) s2 w (by simp; omega)
          have r4 := fun w => str_cat (T ++ s1) s2 w (by simp; omega)
          have hwr : IntKind.i64.wrap ((m : Int) + 1) = (m : Int) + 1 := by rw [IntKind.wrap_i64]; omega
          have HSn := Lib.hid hsn'
          have HRd := Lib.hid hrd
          have HB := Lib.hid hB
          have HM := Lib.hid hm
          have HCs := Lib.hid hcases
          have h01 : (0 : Int) ≤ (m : Int) + 1 := by omega
          have h02 : ((m : Int) + 1).toNat = m + 1 := by omega
          subst ha
          clear hrd hB hsn hsn' hfl hml hT hcases l1 l2 hKK hm hK2
          go_wp2_with fail
          go_quiet (fail)
          clear hwr h02
          have hs45 : (⟨#[45]⟩ : ByteArray) = Str [45] := rfl
          have HB1 := Lib.hid (fun a => below_drewN HB.out a)
          have HRd1 := Lib.hid (fun a => HRd.out.keep (below_drewN (Below.refl wr.heap.size wr) a))
          clear HB HRd
          go_wp2_with fail
          refine (HI1.out _).mono ?_
          rintro e w7 ⟨rfl, hb7⟩
          have HB7 := Lib.hid ((HB1.out _).trans (hb7.mono (HB1.out _).size))
          have HRd7 := Lib.hid ((HRd1.out _).keep hb7)
          clear hb7 HB1 HRd1
          by_cases e0 : lo = hi
          · subst e0
            have hc := HCs.out
            rw [if_pos rfl] at hc
            have HC := Lib.hid hc
            have d1 : decide (lo + 1 < lo) = false := by simp
            have d1' : decide ((lo : Int) + 1 < (lo : Int)) = false := by simp; omega
            clear hc
            go_wp2
            go_roundw
            case rel => first | exact ⟨k + 1, m + 2, hkl, by have := HM.out; omega, by go_num, by rw [HSn.out, HC.out], HRd7.out, HB7.out⟩ | ((repeat apply Exists.intro); refine ⟨?r, ?f⟩; (case f => (and_intros <;> rfl)); exact ⟨k + 1, m + 2, hkl, by have := HM.out; omega, by go_num, by rw [HSn.out, HC.out], HRd7.out, HB7.out⟩)
            case measure => simp [intOf]; omega
          · by_cases e1 : lo + 1 = hi
            · have hc := HCs.out
              rw [if_neg e0, if_pos e1] at hc
              have HC := Lib.hid hc
              have d1 : decide (lo + 1 < hi) = false := by simp; omega
              have d1' : decide ((lo : Int) + 1 < (hi : Int)) = false := by simp; omega
              have d2 : decide (lo < hi) = true := by simp; omega
              clear hc e0 e1
              go_wp2_with fail
              refine (HI2.out _).mono ?_
              rintro e w8 ⟨rfl, hb8⟩
              have HB8 := Lib.hid (HB7.out.trans (hb8.mono HB7.out.size))
              have HRd8 := Lib.hid (HRd7.out.keep hb8)
              clear hb8
              go_wp2
              go_roundw
              case rel => first | exact ⟨k + 1, m + 2, hkl, by have := HM.out; omega, by go_num, by first | (rw [HSn.out, HC.out]; done) | (rw [HSn.out, HC.out]; simp; done), HRd8.out, HB8.out⟩ | ((repeat apply Exists.intro); refine ⟨?r, ?f⟩; (case f => (and_intros <;> rfl)); exact ⟨k + 1, m + 2, hkl, by have := HM.out; omega, by go_num, by first | (rw [HSn.out, HC.out]; done) | (rw [HSn.out, HC.out]; simp; done), HRd8.out, HB8.out⟩)
              case measure => simp [intOf]; omega
            · have hc := HCs.out
              rw [if_neg e0, if_neg e1] at hc
              have HC := Lib.hid hc
              have d1 : decide (lo + 1 < hi) = true := by simp; omega
              have d1' : decide ((lo : Int) + 1 < (hi : Int)) = true := by simp; omega
              have d2 : decide (lo < hi) = true := by simp; omega
              clear hc e0 e1
              go_wp2_with fail
              refine (HI2.out _).mono ?_
              rintro e w8 ⟨rfl, hb8⟩
              have HB8 := Lib.hid (HB7.out.trans (hb8.mono HB7.out.size))
              have HRd8 := Lib.hid (HRd7.out.keep hb8)
              clear hb8
              go_wp2
              go_roundw
              case rel => first | exact ⟨k + 1, m + 2, hkl, by have := HM.out; omega, by go_num, by first | (rw [HSn.out, HC.out]; done) | (rw [HSn.out, HC.out]; simp; done), HRd8.out, HB8.out⟩ | ((repeat apply Exists.intro); refine ⟨?r, ?f⟩; (case f => (and_intros <;> rfl)); exact ⟨k + 1, m + 2, hkl, by have := HM.out; omega, by go_num, by first | (rw [HSn.out, HC.out]; done) | (rw [HSn.out, HC.out]; simp; done), HRd8.out, HB8.out⟩)
              case measure => simp [intOf]; omega
        · have hkN : k = ps.length := by omega
          subst hkN
          rw [List.take_length]
          have hfl := flat_len ps
          have r1 := fun w => str_cat (op ++ ps.flatMap itx) [93] w (by rw [List.length_append]; simp only [List.length_cons, List.length_nil]; omega)
          have HB := Lib.hid hB
          have hs93 : (⟨#[93]⟩ : ByteArray) = Str [93] := rfl
          clear hB hrd
          go_wp2
          go_ret
          refine ⟨?_, HB.out⟩
          rw [HBx.out, HOp.out, HF2.out, HPs.out]
          first | rfl | simp
end Bk
end Go.Proofs.YteekonojmpihlaaDoor
