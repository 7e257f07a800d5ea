/- slices.symMergeCmpFunc at Lay's closure. -/
import Derived.Test.YteekonojmpihlaaDoorQCbSym
import Derived.Test.YteekonojmpihlaaDoorQCbSym2
import Derived.BigQuiet
namespace Go.Proofs.YteekonojmpihlaaDoor
namespace Kt
end Kt
open Go Go.RowKit Go.Sort Kt
namespace Cb
variable {w : World} {g cap N : Nat}
/-- What the merge answers. -/
def SymP (w : World) (g cap N M : Nat) (key : Nat → Nat) (a m b : Nat) : Prop := ∀ (d : Array Nat) (V : World), Sr w g cap N d V → Mg (lx key) d a m b →
    Calls Tryd.prog 124 #[.slice (some ⟨g, 0, none⟩) N cap, .int .i64 (a : Int), .int .i64 (m : Int), .int .i64 (b : Int), .func (.func 76) #[] #[.pointer (some ⟨M, 0, none⟩)]] V fun e w' => e = .returned (.tuple #[]) ∧ ∃ d', Sr w g cap N d' w' ∧ PermIn a b d d' ∧ SortedIn (lx key) a b d'
theorem mg_keep {lt : Nat → Nat → Bool} {d1 d2 : Array Nat} {a mid e b : Nat} (hme : mid ≤ e) (hp : PermIn a mid d1 d2) (h : Mg lt d1 mid e b) : Mg lt d2 mid e b := by
  have ee : ∀ q, mid ≤ q → d2[q]! = d1[q]! := fun q hq => hp.2.1 q (.inr hq)
  refine ⟨fun x y h1 h2 h3 => ?_, fun x y h1 h2 h3 => ?_, fun x y h1 h2 h3 h4 => ?_⟩
  · rw [ee x h1, ee y (by omega)]
    exact h.left x y h1 h2 h3
  · rw [ee x (by omega), ee y (by omega)]
    exact h.right x y h1 h2 h3
  · rw [ee x h1, ee y (by omega)]
    exact h.ids x y h1 h2 h3 h4
theorem sym_fin {lt : Nat → Nat → Bool} {d d1 d2 : Array Nat} {a m b s e c : Nat} (hb : b ≤ d.size) (hct : Cut lt d a m b s e) (hse : s + (e - m) = c) (hp : PermIn s e d d1) (hx : ∀ i j, a ≤ i → i < c → c ≤ j → j < b → lt d1[j]! d1[i]! = false)
    (p2 : PermIn a c d1 d2) (s2 : SortedIn lt a c d2) : ∀ d3, PermIn c b d2 d3 → SortedIn lt c b d3 → PermIn a b d d3 ∧ SortedIn lt a b d3 := fun d3 p3 s3 =>
  have hsl := hct.lo
  have hel := hct.hi
  cut_glue (s := s) (e := e) (c := c) hb hsl.1 (by omega) (by omega) hel.2 hp hx p2 s2 p3 s3
theorem mg_one_r {lt : Nat → Nat → Bool} {d : Array Nat} {a s m : Nat} (h : Mg lt d a s m) (hs : ¬ a < s) (has : a ≤ s) : SortedIn lt a m d := by
  have := h.right
  rw [show s = a by omega] at this
  exact this
theorem mg_one_l {lt : Nat → Nat → Bool} {d : Array Nat} {a s m : Nat} (h : Mg lt d a s m) (hs : ¬ s < m) (hsm : s ≤ m) : SortedIn lt a m d := by
  have := h.left
  rw [show s = m by omega] at this
  exact this
set_option maxRecDepth 100000 in
set_option maxHeartbeats 4000000 in
theorem sym_gen (M : Nat) (key : Nat → Nat) (a m b : Nat) (ham : a + 1 < m) (hmb : m + 1 < b) (hb : b ≤ N) (hN : N ≤ 1000) (hc : CmpOK w g M N key) (ih : ∀ a' m' b', b' - a' < b - a → a' < m' → m' < b' → b' ≤ N → SymP w g cap N M key a' m' b') : SymP w g cap N M key a m b := by
  intro d V h hm
  have HC := Lib.hid hc
  have H := Lib.hid h
  have HM := Lib.hid hm
  have IH := Lib.hid ih
  clear hc h hm ih
  obtain ⟨ma, hma⟩ : ∃ x, m - a = x := ⟨_, rfl⟩
  have q0 : (m : Int) - (a : Int) = (ma : Int) := by omega
  have q1 : IntKind.i64.wrap ((m : Int) - (a : Int)) = (ma : Int) := by rw [IntKind.wrap_i64]; omega
  have q2 : ((ma : Int) == 1) = false := by simp; omega
  have q3 : decide ((ma : Int) = 1) = false := by simp; omega
  have q3n : decide (ma = 1) = false := by simp; omega
  obtain ⟨bm, hbm⟩ : ∃ x, b - m = x := ⟨_, rfl⟩
  have r0 : (b : Int) - (m : Int) = (bm : Int) := by omega
  have r1 : IntKind.i64.wrap ((b : Int) - (m : Int)) = (bm : Int) := by rw [IntKind.wrap_i64]; omega
  have r2 : ((bm : Int) == 1) = false := by simp; omega
  have r3 : decide ((bm : Int) = 1) = false := by simp; omega
  have r3n : decide (bm = 1) = false := by simp; omega
  obtain ⟨ab, hab⟩ : ∃ x, a + b = x := ⟨_, rfl⟩
  obtain ⟨mid, hmid⟩ : ∃ x, ab / 2 = x := ⟨_, rfl⟩
  obtain ⟨n, hn⟩ : ∃ x, mid + m = x := ⟨_, rfl⟩
  obtain ⟨p, hp⟩ : ∃ x, n - 1 = x := ⟨_, rfl⟩
  obtain ⟨nb, hnb⟩ : ∃ x, n - b = x := ⟨_, rfl⟩
  have t1 : (a : Int) + (b : Int) = (ab : Int) := by omega
  have t2 : IntKind.i64.wrap ((a : Int) + (b : Int)) = (ab : Int) := by rw [IntKind.wrap_i64]; omega
  have t3 : IntKind.u64.wrap (ab : Int) = (ab : Int) := by rw [IntKind.wrap_u64]; omega
  have t4 : (ab : Int) / 2 = (mid : Int) := by omega
  have t5 : IntKind.i64.wrap (mid : Int) = (mid : Int) := by rw [IntKind.wrap_i64]; omega
  have t6 : (mid : Int) + (m : Int) = (n : Int) := by omega
  have t7 : IntKind.i64.wrap ((mid : Int) + (m : Int)) = (n : Int) := by rw [IntKind.wrap_i64]; omega
  have t8 : (n : Int) - 1 = (p : Int) := by omega
  have t9 : IntKind.i64.wrap ((n : Int) - 1) = (p : Int) := by rw [IntKind.wrap_i64]; omega
  have t10 : IntKind.i64.wrap (p : Int) = (p : Int) := by rw [IntKind.wrap_i64]; omega
  have t11 : IntKind.i64.wrap (n : Int) = (n : Int) := by rw [IntKind.wrap_i64]; omega
  have HV := Lib.hid (And.intro hab (And.intro hmid (And.intro hn (And.intro hp hnb))))
  obtain ⟨lo, top, hlt⟩ : ∃ lo top, (m > mid ∧ lo = n - b ∧ top = mid) ∨ (m ≤ mid ∧ lo = a ∧ top = m) := by
    rcases Nat.lt_or_ge mid m with h1 | h1
    · exact ⟨_, _, .inl ⟨h1, rfl, rfl⟩⟩
    · exact ⟨_, _, .inr ⟨h1, rfl, rfl⟩⟩
  have hlt0 : lo ≤ top := by omega
  have HLt := Lib.hid hlt
  have HMd := Lib.hid (show a < mid ∧ mid < b by omega)
  clear hma hbm hab hmid hn hp hnb
  go_enter Tryd.func124, Tryd.ntmps124
  go_upto_if 140 with (fail)
  go_cut [20, 21] (fun v20 v21 W => v20 = .int .i64 (lo : Int) ∧ v21 = .int .i64 (top : Int) ∧ W = V)
  case first =>
    as_aux_lemma =>
      rcases hlt with ⟨h1, h2, h3⟩ | ⟨h1, h2, h3⟩
      · have k1 : (mid : Int) < (m : Int) := by omega
        have k2 : (n : Int) - (b : Int) = (lo : Int) := by have := HV.out; omega
        have k3 : IntKind.i64.wrap ((n : Int) - (b : Int)) = (lo : Int) := by rw [IntKind.wrap_i64]; have := HV.out; omega
        subst h3
        clear h2
        go_wp2
        go_meet
        exact ⟨rfl, rfl, rfl⟩
      · have k1 : ¬ (mid : Int) < (m : Int) := by omega
        subst h2 h3
        go_wp2
        go_meet
        exact ⟨rfl, rfl, rfl⟩
  case rest =>
    as_aux_lemma =>
      obtain ⟨rfl, rfl, rfl⟩ := hcut
      clear q0 q1 q2 q3 q3n r0 r1 r2 r3 r3n t1 t2 t3 t4 t5 t6 t7
      go_wp2
      clear t8 t9 t10 t11
      go_loopw [20, 21, 23] (fun vs vr _ W => ∃ (s r : Nat), vs = .int .i64 (s : Int) ∧ vr = .int .i64 (r : Int) ∧ lo ≤ s ∧ s ≤ r ∧ r ≤ top ∧ Sr w g cap N d W ∧ (lo < s → lx key d[n - 1 - (s - 1)]! d[s - 1]! = false) ∧ (r < top → lx key d[n - 1 - r]! d[r]! = true)) (fun vs vr _ _ => (intOf vr).toNat - (intOf vs).toNat)
      case atStart => exact ⟨lo, top, rfl, rfl, Nat.le_refl _, hlt0, Nat.le_refl _, H.out, fun h => by omega, fun h => by omega⟩
      case round =>
        obtain ⟨s, r, rfl, rfl, hls, hsr, hrt, hs, hlo, hhi⟩ := hrel
        have HS := Lib.hid hs
        have HLo := Lib.hid hlo
        have HHi := Lib.hid hhi
        clear hs hlo hhi
        by_cases hsr2 : s < r
        · have hlti : (s : Int) < (r : Int) := by omega
          obtain ⟨S, hS⟩ : ∃ S, s + r = S := ⟨_, rfl⟩
          obtain ⟨c, hc⟩ : ∃ c, S / 2 = c := ⟨_, rfl⟩
          obtain ⟨pc, hpc⟩ : ∃ x, p - c = x := ⟨_, rfl⟩
          have hv := HV.out
          have hl := HLt.out
          have s1 : (s : Int) + (r : Int) = (S : Int) := by omega
          have w1 : IntKind.i64.wrap ((s : Int) + (r : Int)) = (S : Int) := by rw [IntKind.wrap_i64]; omega
          have w2 : IntKind.u64.wrap (S : Int) = (S : Int) := by rw [IntKind.wrap_u64]; omega
          have s2 : (S : Int) / 2 = (c : Int) := by omega
          have w3 : IntKind.i64.wrap (c : Int) = (c : Int) := by rw [IntKind.wrap_i64]; omega
          have hsc : s ≤ c := by omega
          have hcr : c < r := by omega
          have hpn : pc = n - 1 - c := by omega
          have x1 : a ≤ c ∧ c < m ∧ m ≤ pc ∧ pc < b := by omega
          have s3 : (p : Int) - (c : Int) = (pc : Int) := by omega
          have w5 : IntKind.i64.wrap ((p : Int) - (c : Int)) = (pc : Int) := by rw [IntKind.wrap_i64]; omega
          have w6 : IntKind.i64.wrap (pc : Int) = (pc : Int) := by rw [IntKind.wrap_i64]; omega
          have c1 := HS.out.cell pc (by omega)
          have c2 := HS.out.cell c (by omega)
          have b1 := HS.out.bd pc (by omega)
          have b2 := HS.out.bd c (by omega)
          have hid := HM.out.ids c pc x1.1 x1.2.1 x1.2.2.1 x1.2.2.2
          obtain ⟨x, hx⟩ : ∃ x, d[pc]! = x := ⟨_, rfl⟩
          obtain ⟨y, hy⟩ : ∃ y, d[c]! = y := ⟨_, rfl⟩
          rw [hx] at c1 b1 hid
          rw [hy] at c2 b2 hid
          have hcl : ∀ k, Calls Tryd.prog 76 #[.int .i64 (x : Int), .int .i64 (y : Int), .pointer (some ⟨M, 0, none⟩)] (wr.drewN k) fun e w' => e = .returned (.int .i64 (cmp3 (key y) (key x))) ∧ wr.drewN k = w' := fun k => HC.out x y b1 b2 _ (HS.out.mod.drewN k)
          have hky : decide (cmp3 (key y) (key x) < 0) = lx key x y := by
            rw [cmp3_neg]
            exact ky_lx hid
          obtain ⟨Z, hZ⟩ : ∃ Z, cmp3 (key y) (key x) = Z := ⟨_, rfl⟩
          rw [hZ] at hky
          rw [hZ] at hcl
          have HCl := Lib.hid hcl
          have HX := Lib.hid (And.intro hx (And.intro hy hpn))
          have p1 : (pc : Int) < (N : Int) := by omega
          have p2 : (c : Int) < (N : Int) := by omega
          have w4 : IntKind.i64.wrap ((c : Int) + 1) = (c : Int) + 1 := by rw [IntKind.wrap_i64]; omega
          clear hS hc hpc hcl hx hy hZ hv hl hpn x1
          cases hk : lx key x y with
          | true =>
            as_aux_lemma =>
              rw [hk] at hky
              have hZn : Z < 0 := by simpa using hky
              have HK := Lib.hid hk
              clear hk
              go_wp2_with fail
              (first
                | (go_quiet (exact Calls.quiet_of_same ((HCl.out _).mono fun _ _ ⟨h1, h2⟩ => ⟨h1, h2.symm⟩)))
                | fail)
              go_wp2
              go_roundw
              case rel => exact ⟨s, c, rfl, rfl, hls, hsc, by omega, HS.out.drewN _, HLo.out, fun _ => by rw [← HX.out.2.2, HX.out.1, HX.out.2.1]; exact HK.out⟩
              case measure => simp [intOf]; omega
          | false =>
            as_aux_lemma =>
              rw [hk] at hky
              have hZn : decide (Z < 0) = false := hky
              have HK := Lib.hid hk
              clear hk
              go_wp2_with fail
              (first
                | (go_quiet (exact Calls.quiet_of_same ((HCl.out _).mono fun _ _ ⟨h1, h2⟩ => ⟨h1, h2.symm⟩)))
                | fail)
              go_wp2
              go_roundw
              case rel => exact ⟨c + 1, r, by go_num, rfl, by omega, by omega, hrt, HS.out.drewN _, fun _ => by rw [Nat.add_sub_cancel, ← HX.out.2.2, HX.out.1, HX.out.2.1]; exact HK.out, HHi.out⟩
              case measure => simp [intOf]; omega
        · obtain rfl : s = r := by omega
          have hlti : ¬ (s : Int) < (s : Int) := by omega
          have hv := HV.out
          have he0 : (a + b) / 2 = mid := by omega
          have hcutof := cut_of (lx_swo key) HM.out (s := s) (lo := lo) (top := top) (n := n) (by omega) (by omega) (by rw [he0]; omega) (by rw [he0]; exact HLt.out) hls hrt HLo.out HHi.out
          obtain ⟨e, he⟩ : ∃ x, n - s = x := ⟨_, rfl⟩
          rw [he, he0] at hcutof
          obtain ⟨hct, hse⟩ := hcutof
          have hsl := hct.lo
          have hel := hct.hi
          have v1 : (n : Int) - (s : Int) = (e : Int) := by omega
          have v2 : IntKind.i64.wrap ((n : Int) - (s : Int)) = (e : Int) := by rw [IntKind.wrap_i64]; omega
          have v3 : IntKind.i64.wrap (e : Int) = (e : Int) := by rw [IntKind.wrap_i64]; omega
          have hsm : s ≤ mid := by omega
          have has : a ≤ s := hsl.1
          have heb : e ≤ b := hel.2
          have hme : mid ≤ e := by omega
          have hbd : b ≤ d.size := by rw [H.out.sz]; exact hb
          have hmd := HMd.out
          have hsd : mid - a < b - a := by omega
          have hsd2 : b - mid < b - a := by omega
          have heN : e ≤ N := by omega
          have hmN : mid ≤ N := by omega
          have HCt := Lib.hid hct
          clear hv he0 he hct hlt hmd
          obtain ⟨bb, hbb⟩ : ∃ bb, (decide (s < m) && decide (m < e)) = bb := ⟨_, rfl⟩
          have HBb := Lib.hid hbb
          go_upto_region 39 with (fail)
          go_cut [185] (fun v W => v = .bool bb ∧ W = wr)
          case first =>
            as_aux_lemma =>
              by_cases g1 : s < m
              · have i1 : (s : Int) < (m : Int) := by omega
                have i1d : decide ((s : Int) < (m : Int)) = true := by simp; omega
                have i1n : decide (s < m) = true := by simp; omega
                by_cases g2 : m < e
                · have i2 : (m : Int) < (e : Int) := by omega
                  obtain rfl : bb = true := by rw [← hbb]; simp [g1, g2]
                  clear hbb
                  go_wp2
                  go_meet
                  exact ⟨rfl, rfl⟩
                · have i2 : ¬ (m : Int) < (e : Int) := by omega
                  obtain rfl : bb = false := by rw [← hbb]; simp [g2]
                  clear hbb
                  go_wp2
                  go_meet
                  exact ⟨rfl, rfl⟩
              · have i1 : ¬ (s : Int) < (m : Int) := by omega
                have i1d : decide ((s : Int) < (m : Int)) = false := by simp; omega
                have i1n : decide (s < m) = false := by simp; omega
                obtain rfl : bb = false := by rw [← hbb]; simp [g1]
                clear hbb
                go_wp2
                go_meet
                exact ⟨rfl, rfl⟩
          case rest =>
            as_aux_lemma =>
              obtain ⟨rfl, rfl⟩ := hcut
              clear hbb
              go_upto_if 185 with (fail)
              go_cut [] (fun W => ∃ d1, Sr w g cap N d1 W ∧ Rot d d1 s m e)
              case first =>
                as_aux_lemma =>
                  cases bb with
                  | true =>
                    have hgg := HBb.out
                    simp only [Bool.and_eq_true, decide_eq_true_eq] at hgg
                    have HRt := Lib.hid (rot_c (.func (.func 76) #[] #[.pointer (some ⟨M, 0, none⟩)]) s m e hgg.1 hgg.2 heN hN HS.out)
                    clear hgg
                    go_wp2_with fail
                    refine HRt.out.mono ?_
                    rintro _ w5 ⟨rfl, d1, h1, h2⟩
                    have HR := Lib.hid (And.intro h1 h2)
                    clear h1 h2
                    go_wp2
                    go_meet
                    exact ⟨d1, HR.out⟩
                  | false =>
                    go_wp2
                    go_meet
                    refine ⟨d, HS.out, Rot.none ?_⟩
                    have hgg := HBb.out
                    simp only [Bool.and_eq_false_iff, decide_eq_false_iff_not] at hgg
                    omega
              case rest =>
                as_aux_lemma =>
                  obtain ⟨d1, hs1, hrot⟩ := hcut
                  obtain ⟨m1, m2, hx, hpp⟩ := cut_mg HM.out HCt.out hrot
                  rw [hse] at m1 m2 hx
                  have HS1 := Lib.hid hs1
                  have HM1 := Lib.hid m1
                  have HM2 := Lib.hid m2
                  have HXc := Lib.hid hx
                  have HPp := Lib.hid hpp
                  clear hs1 hrot m1 m2 hx hpp v1 v2 v3 hsl hel hlt0 ham hmb hls hrt hsr2 hlti
                  obtain ⟨b2, hb2⟩ : ∃ b2, (decide (a < s) && decide (s < mid)) = b2 := ⟨_, rfl⟩
                  have HB2 := Lib.hid hb2
                  obtain ⟨wd, hwd⟩ : ∃ wd, wd = wc := ⟨_, rfl⟩
                  subst hwd
                  go_upto_region 41 with (fail)
                  go_cut [199] (fun v W => v = .bool b2 ∧ W = wd)
                  case first =>
                    as_aux_lemma =>
                      by_cases g1 : a < s
                      · have i1 : (a : Int) < (s : Int) := by omega
                        have i1d : decide ((a : Int) < (s : Int)) = true := by simp; omega
                        have i1n : decide (a < s) = true := by simp; omega
                        by_cases g2 : s < mid
                        · have i2 : (s : Int) < (mid : Int) := by omega
                          obtain rfl : b2 = true := by rw [← hb2]; simp [g1, g2]
                          clear hb2
                          go_wp2
                          go_meet
                          exact ⟨rfl, rfl⟩
                        · have i2 : ¬ (s : Int) < (mid : Int) := by omega
                          obtain rfl : b2 = false := by rw [← hb2]; simp [g2]
                          clear hb2
                          go_wp2
                          go_meet
                          exact ⟨rfl, rfl⟩
                      · have i1 : ¬ (a : Int) < (s : Int) := by omega
                        have i1d : decide ((a : Int) < (s : Int)) = false := by simp; omega
                        have i1n : decide (a < s) = false := by simp; omega
                        obtain rfl : b2 = false := by rw [← hb2]; simp [g1]
                        clear hb2
                        go_wp2
                        go_meet
                        exact ⟨rfl, rfl⟩
                  case rest =>
                    as_aux_lemma =>
                      obtain ⟨rfl, rfl⟩ := hcut
                      clear hb2
                      go_upto_if 199 with (fail)
                      go_cut [] (fun W => ∃ d2, Sr w g cap N d2 W ∧ PermIn a mid d1 d2 ∧ SortedIn (lx key) a mid d2)
                      case first =>
                        as_aux_lemma =>
                          cases b2 with
                          | true =>
                            have hgg := HB2.out
                            simp only [Bool.and_eq_true, decide_eq_true_eq] at hgg
                            have HIh := Lib.hid (IH.out a s mid hsd hgg.1 hgg.2 hmN d1 _ HS1.out HM1.out)
                            clear hgg
                            go_wp2_with fail
                            refine HIh.out.mono ?_
                            rintro _ w5 ⟨rfl, d2, h1, h2, h3⟩
                            have HR := Lib.hid (And.intro h1 (And.intro h2 h3))
                            clear h1 h2 h3
                            go_wp2
                            go_meet
                            exact ⟨d2, HR.out⟩
                          | false =>
                            go_wp2
                            go_meet
                            refine ⟨d1, HS1.out, permIn_refl _ _ _, ?_⟩
                            have hgg := HB2.out
                            simp only [Bool.and_eq_false_iff, decide_eq_false_iff_not] at hgg
                            rcases hgg with hgg | hgg
                            · exact mg_one_r HM1.out hgg has
                            · exact mg_one_l HM1.out hgg hsm
                      case rest =>
                        as_aux_lemma =>
                          obtain ⟨d2, hs2, hp2, hq2⟩ := hcut
                          have hm2' : Mg (lx key) d2 mid e b := mg_keep hme hp2 HM2.out
                          have hfin := sym_fin hbd HCt.out hse HPp.out HXc.out hp2 hq2
                          have HS2 := Lib.hid hs2
                          have HMm := Lib.hid hm2'
                          have HFin := Lib.hid hfin
                          clear hs2 hp2 hq2 hm2' hfin
                          by_cases g1 : mid < e
                          · have i1 : (mid : Int) < (e : Int) := by omega
                            have i1d : decide ((mid : Int) < (e : Int)) = true := by simp; omega
                            have i1n : decide (mid < e) = true := by simp; omega
                            by_cases g2 : e < b
                            · have i2 : (e : Int) < (b : Int) := by omega
                              have HIh := Lib.hid (IH.out mid e b hsd2 g1 g2 hb d2 wc HS2.out HMm.out)
                              go_wp2_with fail
                              refine HIh.out.mono ?_
                              rintro _ w5 ⟨rfl, d3, h1, h2, h3⟩
                              have HR := Lib.hid (And.intro h1 (And.intro h2 h3))
                              clear h1 h2 h3
                              go_wp2
                              go_end0
                              exact ⟨rfl, d3, HR.out.1, HFin.out d3 HR.out.2.1 HR.out.2.2⟩
                            · have i2 : ¬ (e : Int) < (b : Int) := by omega
                              go_wp2
                              go_end0
                              exact ⟨rfl, d2, HS2.out, HFin.out d2 (permIn_refl _ _ _) (mg_one_l HMm.out g2 heb)⟩
                          · have i1 : ¬ (mid : Int) < (e : Int) := by omega
                            have i1d : decide ((mid : Int) < (e : Int)) = false := by simp; omega
                            have i1n : decide (mid < e) = false := by simp; omega
                            go_wp2
                            go_end0
                            exact ⟨rfl, d2, HS2.out, HFin.out d2 (permIn_refl _ _ _) (mg_one_r HMm.out g1 hme)⟩
theorem sym_c (M : Nat) (key : Nat → Nat) (hN : N ≤ 1000) (hc : CmpOK w g M N key) : ∀ (k a m b : Nat), b - a ≤ k → a < m → m < b → b ≤ N → SymP w g cap N M key a m b
  | 0, a, m, b, hk, h1, h2, _ => by omega
  | k + 1, a, m, b, hk, h1, h2, h3 => by
    by_cases c1 : a + 1 = m
    · subst c1
      intro d V h hm
      exact sym_left M key a b h2 h3 hN hc h hm
    · by_cases c2 : m + 1 = b
      · subst c2
        intro d V h hm
        exact sym_right M key a m (by omega) h3 hN hc h hm
      · exact sym_gen M key a m b (by omega) (by omega) h3 hN hc (fun a' m' b' h4 h5 h6 h7 => sym_c M key hN hc k a' m' b' (by omega) h5 h6 h7)
end Cb
end Go.Proofs.YteekonojmpihlaaDoor
