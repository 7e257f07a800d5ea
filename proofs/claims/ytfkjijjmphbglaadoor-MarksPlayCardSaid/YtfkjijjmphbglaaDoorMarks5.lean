/- The walks of package marks by a row of truths: Or, Meets, Copy. -/
import Derived.Test.YtfkjijjmphbglaaDoorMarks4
import Derived.Test.YtfkjijjmphbglaaDoorRef02
import Derived.Deep.RegionHeld3
namespace Go.Proofs.YtfkjijjmphbglaaDoor
open Go Go.RowKit Kt
namespace Mk
variable {w w' : World} {p b q b' : Nat} {bs cs : List Bool}
theorem aft_cases (bs : List Bool) (i : Int) : (aft bs i = -1 ∧ ∀ q : Nat, i < (q : Int) → bs.getD q false = false) ∨ ∃ m : Nat, aft bs i = m ∧ i < (m : Int) ∧ m < bs.length ∧ bs.getD m false = true ∧ ∀ q : Nat, q < m → i < (q : Int) → bs.getD q false = false := by
  unfold aft
  cases h : (List.range bs.length).find? (fun (k : Nat) => bs.getD k false && decide (i < (k : Int))) with
  | none =>
    refine .inl ⟨rfl, fun q hq => ?_⟩
    by_cases hl : q < bs.length
    · rw [List.find?_range_eq_none] at h
      have := h q hl
      have hd : decide (i < (q : Int)) = true := by simpa using hq
      rw [hd, Bool.and_true] at this
      simpa using this
    · exact getD_out (by omega)
  | some m =>
    rw [List.find?_range_eq_some] at h
    obtain ⟨h1, h2, h3⟩ := h
    rw [Bool.and_eq_true] at h1
    refine .inr ⟨m, rfl, by simpa using h1.2, by simpa using h2, h1.1, fun q hq hi => ?_⟩
    have := h3 q hq
    have hd : decide (i < (q : Int)) = true := by simpa using hi
    rw [hd, Bool.and_true] at this
    simpa using this
theorem tk_next {j m : Nat} (hj : j ≤ m) (hm : bs.getD m false = true) (h : ∀ q, j ≤ q → q < m → bs.getD q false = false) : tk bs (m + 1) = tk bs j ++ [m] := filter_next hj hm h
theorem tk_end {j : Nat} (h : ∀ q, j ≤ q → bs.getD q false = false) : tk bs j = tru bs := by
  rw [← tk_all]
  unfold tk
  by_cases hj : j ≤ bs.length
  · have := filter_none (p := fun i => bs.getD i false) j (bs.length - j) (fun q h1 _ => h q h1)
    rw [show j + (bs.length - j) = bs.length by omega] at this
    exact this.symm
  · have := filter_none (p := fun i => bs.getD i false) bs.length (j - bs.length) (fun q h1 _ => getD_out h1)
    rw [show bs.length + (j - bs.length) = j by omega] at this
    exact this
theorem wf_small {m : Nat} (h : m ≤ 100000) : (Lit.int .i64 (m : Int)).wf = true := by
  simp only [Lit.wf, Bool.and_eq_true, decide_eq_true_eq]
  refine ⟨?_, ?_⟩ <;> (simp [IntKind.min, IntKind.max, IntKind.signed, IntKind.bits] <;> omega)
/-- The loop of Or. -/
def OrR (w : World) (p b : Nat) (bs cs : List Bool) (f i : Value) (W : World) : Prop := ∃ (j : Nat) (r : Int), j ≤ cs.length ∧ i = .int .i64 r ∧ aft cs ((j : Int) - 1) = r ∧ f = .bool (orB bs (tk cs j)).2 ∧ MI W p b (orB bs (tk cs j)).1 ∧ Mod [b] w W
set_option maxHeartbeats 2000000 in
set_option maxRecDepth 100000 in
theorem or_m (w : World) (h : MI w p b bs) (h' : MI w q b' cs) (hq : q ≠ b) (hb' : b' ≠ b) (hT : ∀ W, Mod [b] w W → Bt.Tab W) : Calls Tryd.prog 40 #[.pointer (some ⟨p, 0, none⟩), .pointer (some ⟨q, 0, none⟩)] w fun e w' => e = .returned (.bool (orB bs (tru cs)).2) ∧ MI w' p b (orB bs (tru cs)).1 ∧ Mod [b] w w' := by
  have hl := h'.len
  have HA := Lib.hid (after_m (-1) w h' (hT w (Mod.refl _ _)))
  obtain ⟨r0, hr0⟩ : ∃ r, aft cs (-1) = r := ⟨_, rfl⟩
  rw [hr0] at HA
  have H0 := Lib.hid (show OrR w p b bs cs (.bool false) (.int .i64 r0) w from ⟨0, r0, Nat.zero_le _, rfl, hr0, rfl, h, Mod.refl _ _⟩)
  have HT := Lib.hid hT
  have H' := Lib.hid h'
  clear h h' hT hr0
  go_enter Tryd.func40, Tryd.ntmps40
  go_wp2_with fail
  refine HA.out.mono ?_
  rintro e w1 ⟨rfl, rfl⟩
  go_wp2
  go_loopw [5, 6] (fun f i W => OrR w p b bs cs f i W) (fun _ i _ => if intOf i < 0 then 0 else (70001 - intOf i).toNat)
  case atStart => exact H0.out
  case round =>
    clear H0 HA
    obtain ⟨j, r, hj, rfl, hr, rfl, hI, hM⟩ := hrel
    obtain ⟨⟨s1, s2⟩, hs⟩ : ∃ s, orB bs (tk cs j) = s := ⟨_, rfl⟩
    rw [hs] at hI ⊢
    rcases aft_cases cs ((j : Int) - 1) with ⟨e, hno⟩ | ⟨m, e, h1, h2, h3, h4⟩
    · rw [e] at hr
      subst hr
      have ht : tk cs j = tru cs := tk_end fun q hq => hno q (by omega)
      rw [ht] at hs
      have HS := Lib.hid (show Ending.returned (.bool (s1, s2).2) = Ending.returned (.bool (orB bs (tru cs)).2) ∧ MI wr p b (orB bs (tru cs)).1 ∧ Mod [b] w wr from ⟨by rw [hs], by rw [hs]; exact hI, hM⟩)
      clear hs hI hM ht hno e
      go_wp2
      go_ret
      exact HS.out
    · rw [e] at hr
      subst hr
      have hm : m ≤ 65536 := by omega
      have ht := tk_next (bs := cs) (j := j) (m := m) (by omega) h3 (fun q h5 h6 => h4 q h6 (by omega))
      have hst : orB bs (tk cs (m + 1)) = (puB s1 m, prB s1 m || s2) := by rw [ht, orB_snoc, hs]; rfl
      have HP := Lib.hid (put_m (m : Int) (wf_small (by omega)) wr hI)
      have Hst := Lib.hid hst
      have HM := Lib.hid hM
      clear hs hI hM ht h4 e hst h3
      generalize prB s1 m = v at *
      simp only
      go_wp2_with fail
      refine HP.out.mono ?_
      rintro e w2 ⟨rfl, hI2, hM2⟩
      have HM2 := Lib.hid (HM.out.trans hM2 (fun x hx => .inl hx))
      have HA := Lib.hid (after_m (m : Int) w2 (H'.out.mod HM2.out (by simp; exact hq) (by simp; exact hb')) (HT.out w2 HM2.out))
      have HI2 := Lib.hid hI2
      have hme : (if aft cs m < 0 then 0 else (70001 - aft cs m).toNat) < (if (m : Int) < 0 then 0 else (70001 - (m : Int)).toNat) := by
        rw [if_neg (by omega : ¬ (m : Int) < 0)]
        rcases aft_cases cs (m : Int) with ⟨e, _⟩ | ⟨k, e, k1, _⟩
        · rw [e, if_pos (by decide)]; omega
        · rw [e, if_neg (by omega)]; omega
      have Hme := Lib.hid hme
      have har : aft cs (((m + 1 : Nat) : Int) - 1) = aft cs m := by congr 1; omega
      have Har := Lib.hid har
      clear hM2 hI2 hme har
      generalize aft cs m = r2 at *
      cases v
      all_goals
        go_wp2_with fail
        refine HA.out.mono ?_
        rintro e w3 ⟨rfl, rfl⟩
        go_wp2
        go_roundw
        case rel => exact ⟨m + 1, r2, h2, rfl, Har.out, by rw [Hst.out]; rfl, by rw [Hst.out]; exact HI2.out, HM2.out⟩
        case measure => exact Hme.out
/-- The loop of Meets. -/
theorem ret_b {a b : Bool} (h : a = b) : Ending.returned (.bool a) = .returned (.bool b) := by rw [h]
theorem below_drew {w w' : World} {n : Nat} (h : w.drewN n = w') : Below w.heap.size w w' := by subst h; exact below_drewN (Below.refl _ _) n
theorem drew_drew {w w' : World} {n : Nat} (h : w.drewN n = w') (m : Nat) : w.drewN (n + m) = w'.drewN m := by subst h; simp [World.drewN, Nat.add_assoc]
def MeR (w : World) (ws us : List Nat) (M : Nat) (i : Value) (W : World) : Prop := ∃ (k n : Nat), k ≤ M ∧ i = .int .i64 (k : Int) ∧ (∀ x (hx : x < ws.length) (hu : x < us.length), x < k → ws[x] &&& us[x] = 0) ∧ w.drewN n = W
set_option maxHeartbeats 2000000 in
set_option maxRecDepth 100000 in
theorem meets_m (w : World) (h : MI w p b bs) (h' : MI w q b' cs) : Calls Tryd.prog 44 #[.pointer (some ⟨p, 0, none⟩), .pointer (some ⟨q, 0, none⟩)] w fun e w' => e = .returned (.bool (meetB bs cs)) ∧ ∃ n, w.drewN n = w' := by
  obtain ⟨ws, i1, a1⟩ := h.ex
  obtain ⟨us, i2, a2⟩ := h'.ex
  have hL1 := i1.fit.2.1
  have hL2 := i2.fit.2.1
  obtain ⟨M, hM⟩ : ∃ M, min ws.length us.length = M := ⟨_, rfl⟩
  have o1 := own_c w i1
  have o2 := own_c w i2
  have hyes : ∀ k (hk : k < ws.length) (hu : k < us.length), ws[k] &&& us[k] ≠ 0 → meetB bs cs = true := fun k hk hu => meet_of a1 a2 i1.lt hk hu
  have hno : (∀ k (hk : k < ws.length) (hu : k < us.length), ws[k] &&& us[k] = 0) → meetB bs cs = false := meet_no a1 a2
  obtain ⟨L1, e1⟩ : ∃ L, ws.length = L := ⟨_, rfl⟩
  obtain ⟨L2, e2⟩ : ∃ L, us.length = L := ⟨_, rfl⟩
  rw [e1] at o1 hL1
  rw [e2] at o2 hL2
  rw [e1, e2] at hM
  have hle : (M ≤ L1 ∧ M ≤ L2) ∧ (L1 ≤ M ∨ L2 ≤ M) := by omega
  have O1 := Lib.hid o1
  have O2 := Lib.hid o2
  have HY := Lib.hid hyes
  have HN := Lib.hid hno
  have I1 := Lib.hid i1
  have I2 := Lib.hid i2
  have E1 := Lib.hid e1
  have E2 := Lib.hid e2
  have HLE := Lib.hid hle
  clear h h' i1 i2 a1 a2 o1 o2 hyes hno e1 e2 hle
  have hMv : (M = L1 ∧ L1 ≤ L2) ∨ (M = L2 ∧ L2 < L1) := by omega
  clear hM
  rcases hMv with ⟨rfl, hll⟩ | ⟨rfl, hll⟩
  all_goals
    go_enter Tryd.func44, Tryd.ntmps44
    go_wp2_with fail
    refine O1.out.mono ?_
    rintro e w1 ⟨⟨c1, rfl⟩, rfl⟩
    go_wp2_with fail
    refine O2.out.mono ?_
    rintro e w1 ⟨⟨c2, rfl⟩, rfl⟩
    go_wp2
    go_loopw [7, 17] (fun _ i W => MeR w ws us M i W) (fun _ i _ => M - (intOf i).toNat)
    case atStart => exact ⟨0, 0, Nat.zero_le _, rfl, fun x hx hu h0 => absurd h0 (by omega), rfl⟩
    case round =>
      obtain ⟨k, n, hk, rfl, hz, hW⟩ := hrel
      have hB := below_drew hW
      have HZ := Lib.hid hz
      have HW := Lib.hid hW
      clear hz hW
      by_cases hlt : k < M
      · have hk1 : k < ws.length := by rw [E1.out]; omega
        have hk2 : k < us.length := by rw [E2.out]; omega
        have w1 := (I1.out.below hB).word k hk1
        have w2 := (I2.out.below hB).word k hk2
        have hand := bits_and_u64_nat ws[k] us[k] (I1.out.lt _ (List.getElem_mem hk1)) (I2.out.lt _ (List.getElem_mem hk2))
        have HY1 := Lib.hid (HY.out k hk1 hk2)
        have hzn : ws[k] &&& us[k] = 0 → ∀ x (hx : x < ws.length) (hu : x < us.length), x < k + 1 → ws[x] &&& us[x] = 0 := by
          intro h0 x hx hu hxk
          by_cases e : x = k
          · subst e; exact h0
          · exact HZ.out x hx hu (by omega)
        have HZN := Lib.hid hzn
        have g1 := hk1
        rw [E1.out] at g1
        have g2 := hk2
        rw [E2.out] at g2
        clear hzn hB
        generalize hv : ws[k] &&& us[k] = v at *
        generalize ws[k] = x at *
        generalize us[k] = y at *
        clear hv hk1 hk2
        by_cases h0 : v = 0
        · subst h0
          have HZN2 := Lib.hid (HZN.out rfl)
          clear HZN HY1
          go_wp2
          go_quiet (fail)
          have HW2 := Lib.hid (drew_drew HW.out nq)
          clear HW
          go_wp2
          go_roundw
          case rel => exact ⟨k + 1, _, by omega, by go_num, HZN2.out, HW2.out⟩
          case measure => simp [intOf]; omega
        · have hv0 : ((v : Int) == 0) = false := by simp; omega
          have HYY := Lib.hid (HY1.out h0)
          clear HZN HY1 h0
          go_wp2
          go_quiet (fail)
          have HW2 := Lib.hid (drew_drew HW.out nq)
          clear HW
          go_wp2
          go_ret
          exact ⟨ret_b HYY.out.symm, _, HW2.out⟩
      · have HNN := Lib.hid (HN.out fun x hx hu => HZ.out x hx hu (by have := E1.out; have := E2.out; have := HLE.out; omega))
        go_wp2
        go_ret
        exact ⟨ret_b HNN.out.symm, _, HW.out⟩
set_option maxHeartbeats 400000 in
set_option maxRecDepth 100000 in
theorem clone_w (b cap L : Nat) (l : List Value) (w : World) (hl : l.length = L) (hL : L ≤ 1024) (h1 : ∀ u ∈ l, u.oneCell' = true) (hr : Rd w (some ⟨b, 0, none⟩) l) :
    Calls Tryd.prog 93 #[.slice (some ⟨b, 0, none⟩) L cap] w fun e w' => ∃ g c rest, e = .returned (.slice (some ⟨g, 0, none⟩) L c) ∧ w'.heap[g]? = some (.cells (l ++ rest).toArray 54 (0, 0)) ∧ w.heap.size ≤ g ∧ Below w.heap.size w w' := by
  have hn := fun w a n c n2 c2 => Lib.run_eql_slice_nil (P := Tryd.prog) w 146 54 a n c n2 c2 Tryd.underlying146
  have own0 := World.ownsRow_made (base := w.heap.size) (e := 54) (size := 1) w #[] 0 (Nat.le_refl _) (by decide) rfl
  have hb := (Below.refl w.heap.size w).alloc (Nat.le_refl _) (.cells #[] 54)
  obtain ⟨v', w2, hrun, own2, gr2, hnil⟩ := elU64.append w.heap.size (ty := 146) own0 L cap (by simp [hl]) (hr.keep hb) (fun h => by cases h) h1 (by unfold maxLen; omega) (by omega) hb.size
  have hb2 := hb.trans (below_grown own0 gr2 (Nat.le_refl _) hb.size)
  simp only [Nat.zero_add, List.nil_append] at own2
  obtain ⟨_, ⟨h, _⟩ | ⟨g, c, cur, rfl, hg, hh, hn', hm, hs, ht⟩⟩ := id own2
  · exact absurd (hnil.1 h).1 (by simp)
  have hbk : w2.heap[g]? = some (.cells (l ++ cur.toList.drop L).toArray 54 (0, 0)) := by
    rw [hh]
    congr 2
    apply Array.toList_inj.1
    have : l ++ cur.toList.drop L = cur.toList := by
      rw [← ht, Nat.mul_one, List.take_append_drop]
    rw [this]
  have O := Lib.hid hbk
  have B := Lib.hid hb2
  have HG := Lib.hid hg
  clear own0 own2 hb hb2 gr2 hr hnil hh hbk hn' hm hs ht hl h1
  go_enter Tryd.func93, Tryd.ntmps93
  go_wp2_with (at_builtin; (with_reducible apply wpList_append_run hrun); rfl; rfl; rfl; rfl; rfl)
  go_ret
  exact ⟨_, _, _, rfl, O.out, HG.out, B.out⟩
set_option maxHeartbeats 1000000 in
set_option maxRecDepth 100000 in
theorem copy_m (w : World) (h : MI w p b bs) : Calls Tryd.prog 41 #[.pointer (some ⟨p, 0, none⟩)] w fun e w' => ∃ p' g, e = .returned (.pointer (some ⟨p', 0, none⟩)) ∧ MI w' p' g bs ∧ w.heap.size ≤ p' ∧ w.heap.size ≤ g ∧ Below w.heap.size w w' := by
  obtain ⟨ws, i1, a1⟩ := h.ex
  obtain ⟨cap, hp⟩ := i1.hp
  obtain ⟨rest, hbk⟩ := i1.hb
  have sk : ∀ W, Below w.heap.size w W → (W.cell? ⟨p, 0, none⟩ = some (.slice (some ⟨b, 0, none⟩) ws.length cap) ∧ W.cell? ⟨p, 1, none⟩ = some (.int .i64 (bs.length : Int))) := by
    intro W hB
    have h2 : W.heap[p]? = _ := (hB.block p (block_lt hp)).trans hp
    exact ⟨cell_block h2 0, cell_block h2 1⟩
  have hrd : Rd w (some ⟨b, 0, none⟩) (vals ws) := by
    intro i x hi
    refine ⟨b, 0, rfl, ?_⟩
    rw [Nat.zero_add, cell_block hbk, List.getElem?_toArray, List.getElem?_append_left (List.getElem?_eq_some_iff.1 hi).1]
    exact hi
  have hL := i1.fit.2.1
  have hfin : ∀ (g c : Nat) (rest' : List Value) (W : World), W.heap[g]? = some (.cells (vals ws ++ rest').toArray 54 (0, 0)) → MI (W.alloc (.cells #[.slice (some ⟨g, 0, none⟩) ws.length c, .int .i64 (bs.length : Int)] 148)) W.heap.size g bs := by
    intro g c rest' W hg
    exact ⟨ws, ⟨⟨c, heap_alloc_new W _⟩, ⟨rest', block_alloc hg⟩, Nat.ne_of_lt (block_lt hg), i1.lt, i1.fit, i1.clear⟩, a1⟩
  have hone : ∀ u ∈ vals ws, u.oneCell' = true := by
    intro u hu
    obtain ⟨x, _, rfl⟩ := List.mem_map.1 hu
    rfl
  have y0 : Below w.heap.size w w.drew := (Below.refl _ _).drew
  have hcl := fun W (hB : Below w.heap.size w W) => clone_w b cap ws.length (vals ws) W (by simp [vals]) hL hone (hrd.keep hB)
  have SK := Lib.hid sk
  have HF := Lib.hid hfin
  have HC := Lib.hid hcl
  clear h i1 a1 hp hbk sk hrd hfin hone hcl
  generalize ws.length = L at *
  generalize bs.length = N at *
  go_enter Tryd.func41, Tryd.ntmps41
  go_wp2
  go_region_held3 (fun W => W.cell? ⟨p, 0, none⟩ = some (.slice (some ⟨b, 0, none⟩) L cap) ∧ W.cell? ⟨p, 1, none⟩ = some (.int .i64 (N : Int)))
    (first | exact SK.out _ (y1.alloc y1.size _) | exact SK.out _ y1 | exact SK.out _ y0)
    (first
      | (go_at_call 93; (with_reducible refine (HC.out _ y0).mono ?_); rintro e w5 ⟨g, c, rest', rfl, hg, hge, hb5⟩
         have y1 : Below w.heap.size w w5 := y0.trans (hb5.mono y0.size)))
  have HF5 := Lib.hid (HF.out g c rest' w5 hg)
  have HB := Lib.hid (y1.alloc y1.size (.cells #[.slice (some ⟨g, 0, none⟩) L c, .int .i64 (N : Int)] 148))
  have HZ := Lib.hid (show w.heap.size ≤ w5.heap.size ∧ w.heap.size ≤ g from ⟨y1.size, hge⟩)
  clear y0 y1 hb5 hg hge
  go_wp2
  go_ret
  exact ⟨_, g, rfl, HF5.out, HZ.out.1, HZ.out.2, HB.out⟩
end Mk
end Go.Proofs.YtfkjijjmphbglaaDoor
