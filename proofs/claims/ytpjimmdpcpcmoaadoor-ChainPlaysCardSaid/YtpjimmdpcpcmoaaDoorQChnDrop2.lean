import Derived.Test.YtpjimmdpcpcmoaaDoorQChnDrop
/- (*chain.Chain).Drop and Clear. Condition: the sentinels read as laid. -/
namespace Go.Proofs.YtpjimmdpcpcmoaaDoor
open Go Go.RowKit Kt
namespace Ch
open Po
variable {w w' w2 w3 W : World} {k p : Nat} {L L' L2 S S' M l l' : List Nat} {m m' m2 : Md} {c c' : Cn} {acc : Int} {frm many came went : Nat}
/-- The chain without its first bytes. -/
def drp (s : Nat) (c : Cn) (n : Nat) : Cn := { c with frm := df s c.frm n c.all.length, all := c.all.drop n, went := c.went + n }
set_option maxRecDepth 100000 in
set_option maxHeartbeats 2000000 in
theorem drop_no (E : Nat → Addr) (i : Int) (hs : Sent 169 w E Er.egs) (h : CS w p k L S m l c) (hi : i < 0 ∨ (c.all.length : Int) < i) :
    Calls Tryd.prog 37 #[.pointer (some ⟨k, 0, none⟩), .int .i64 i] w fun e w' => e = .returned (ee E 1) ∧ Below w.heap.size w w' := by
  have g1 : w.cell? ⟨0, 0, none⟩ = some (ee E 1) := sentc hs 1 (by decide) (by decide)
  obtain ⟨e1, h1⟩ : ∃ v, ee E 1 = v := ⟨_, rfl⟩
  rw [h1] at g1 ⊢
  obtain ⟨_, _, _, _, _, _, _, k4, _⟩ := h.C.cells
  generalize c.all.length = many at *
  clear h hs h1
  by_cases h0 : i < 0
  · have hd : decide (i < 0) = true := decide_eq_true h0
    clear hi
    go_enter Tryd.func37, Tryd.ntmps37
    go_wp2
    go_ret
    exact ⟨rfl, Below.refl _ _⟩
  · have hd : decide (i < 0) = false := decide_eq_false h0
    have hm : (many : Int) < i := by omega
    clear hi
    go_enter Tryd.func37, Tryd.ntmps37
    go_wp2
    go_ret
    exact ⟨rfl, Below.refl _ _⟩
/-- Where the loop of Drop stands. -/
def DR (w : World) (p k : Nat) (L S l : List Nat) (m : Md) (acc : Int) (f r came q K : Nat) (i : Value) (W : World) : Prop :=
  ∃ j : Nat, j ≤ K ∧ i = .int .i64 (j : Int) ∧ ∃ Lj mj, PI W p Lj mj ∧ Gv m acc l j mj ∧ CB W k p S (l.drop j) acc f r came q ∧ (∀ x ∈ k :: S, x ∉ Lj) ∧ Mod (L ++ k :: S) w W ∧ Fr Lj L w.heap.size
/-- A round of it: the call of give. -/
theorem DR.step {w0 : World} (E : Nat → Addr) (hx : (Lit.int .i64 c.acc).wf = true) (hs : Sent 169 w0 E Er.egs) (hB : Bs w0 w k L S) (h : CS w p k L S m l c) {f r q K j : Nat} {Lj : List Nat} {mj : Md} (hK : K ≤ l.length) (hj : j < K) (hP : PI W p Lj mj) (hg : Gv m c.acc l j mj) (hC : CB W k p S (l.drop j) c.acc f r came q) (hd : ∀ x ∈ k :: S, x ∉ Lj) (hM : Mod (L ++ k :: S) w W) (hF : Fr Lj L w.heap.size) :
    Calls Tryd.prog 64 #[.pointer (some ⟨k, 0, none⟩)] W fun e w' => e = .returned .nilIface ∧ ∃ L' m', PI w' p L' m' ∧ Gv m c.acc l (j + 1) m' ∧ CB w' k p S (l.drop (j + 1)) c.acc f r came q ∧ (∀ x ∈ k :: S, x ∉ L') ∧ Mod (L ++ k :: S) w w' ∧ Fr L' L w.heap.size := by
  have hjl : j < l.length := by omega
  obtain ⟨s1, s2⟩ := hg.step (h.ok.acc0 h.P.ok) h.ok.op h.ok.nd hjl
  rw [List.drop_eq_getElem_cons hjl] at hC
  have hsz := hM.size
  refine (give_c E hx (hs.keep (hB.mod hM)) hP hC hd s1 (by have := h.ll; rw [List.length_drop]; omega)).mono ?_
  rintro e w' ⟨L', rfl, q1, q2, q3, q4, q5⟩
  refine ⟨rfl, L', _, q1, s2, q2, q3, hM.trans q4 (fun x hx => ?_), fun x hx => ?_⟩
  · rcases List.mem_append.1 hx with h5 | h5
    · rcases hF x h5 with h6 | h6
      · exact .inl (by simp [h6])
      · exact .inr h6
    · exact .inl (by simp only [List.mem_append]; exact .inr h5)
  · rcases q5 x hx with h5 | h5
    · exact hF x h5
    · exact .inr (by omega)
set_option maxRecDepth 100000 in
set_option maxHeartbeats 4000000 in
theorem drop_yes {w0 : World} (E : Nat → Addr) (i : Nat) (hx : (Lit.int .i64 c.acc).wf = true) (hs : Sent 169 w0 E Er.egs) (hB : Bs w0 w k L S) (h : CS w p k L S m l c) (hb : c.came ≤ 1000000000) (hi : i ≤ c.all.length) :
    Calls Tryd.prog 37 #[.pointer (some ⟨k, 0, none⟩), .int .i64 (i : Int)] w fun e w' => e = .returned .nilIface ∧ St w p k L S m c.acc (drp m.size c i) w' := by
  have hf := h.f62
  have hcw := h.ok.cw
  have hll := h.ll
  have hs0 : 0 < m.size := by have := h.P.ok.s1; omega
  have hpl := place_c h.C h.P i (by omega)
  have hln := h.ok.ln
  have hKl : dk m.size c.frm i c.all.length ≤ l.length := by rw [hln]; exact dk_le hs0 hi
  have hstep := fun W (f r q j : Nat) Lj mj => DR.step (W := W) (came := c.came) (f := f) (r := r) (q := q) (j := j) (Lj := Lj) (mj := mj) E hx hs hB h hKl
  obtain ⟨a, cap, hsl, k0, k1, k2, k3, k4, k5, k6, kf⟩ := h.C.cells
  have hcell : ∀ W, Below w.heap.size w W → W.cell? ⟨k, 2, none⟩ = some (.slice a l.length cap) ∧ W.cell? ⟨k, 3, none⟩ = some (.int .i64 (c.frm : Int)) ∧ W.cell? ⟨k, 4, none⟩ = some (.int .i64 (c.all.length : Int)) ∧ W.cell? ⟨k, 6, none⟩ = some (.int .i64 (c.went : Int)) ∧ W.frozen? ⟨k, 3, none⟩ = false ∧ W.frozen? ⟨k, 4, none⟩ = false ∧ W.frozen? ⟨k, 6, none⟩ = false := fun W hb =>
    ⟨(hb.cell (lt_of_cell k2)).trans k2, (hb.cell (lt_of_cell k3)).trans k3, (hb.cell (lt_of_cell k4)).trans k4, (hb.cell (lt_of_cell k6)).trans k6, (hb.frozen (lt_of_cell k3)).trans (kf 3), (hb.frozen (lt_of_cell k4)).trans (kf 4), (hb.frozen (lt_of_cell k6)).trans (kf 6)⟩
  have hst : ∀ W (r q f : Nat), Below w.heap.size w W → ∃ Lj mj, PI (((W.setCell ⟨k, 4, none⟩ (.int .i64 (r : Int))).setCell ⟨k, 6, none⟩ (.int .i64 (q : Int))).setCell ⟨k, 3, none⟩ (.int .i64 (f : Int))) p Lj mj ∧ Gv m c.acc l 0 mj ∧
      CB (((W.setCell ⟨k, 4, none⟩ (.int .i64 (r : Int))).setCell ⟨k, 6, none⟩ (.int .i64 (q : Int))).setCell ⟨k, 3, none⟩ (.int .i64 (f : Int))) k p S (l.drop 0) c.acc f r c.came q ∧ (∀ x ∈ k :: S, x ∉ Lj) ∧
      Mod (L ++ k :: S) w (((W.setCell ⟨k, 4, none⟩ (.int .i64 (r : Int))).setCell ⟨k, 6, none⟩ (.int .i64 (q : Int))).setCell ⟨k, 3, none⟩ (.int .i64 (f : Int))) ∧ Fr Lj L w.heap.size := fun W r q f hb => by
    have hM1 : Mod [k] W (((W.setCell ⟨k, 4, none⟩ (.int .i64 (r : Int))).setCell ⟨k, 6, none⟩ (.int .i64 (q : Int))).setCell ⟨k, 3, none⟩ (.int .i64 (f : Int))) := (((Mod.refl [k] W).setCell (.inl (by simp)) _).setCell (.inl (by simp)) _).setCell (.inl (by simp)) _
    refine ⟨L, m, (h.P.below hb).mod hM1 (fun x hx e => ?_), Gv.start h.P.ok h.ok, ((((h.C.below hb).setMany r).setWent q).setFrm f), h.d, (Mod.of_below hb _).trans hM1 (fun x hx => .inl (by simp only [List.mem_singleton] at hx; simp [hx])), fun _ h => .inl h⟩
    simp only [List.mem_singleton] at e
    subst e
    exact h.d x (by simp) hx
  have hfin : ∀ W Lj mj, PI W p Lj mj → Gv m c.acc l (dk m.size c.frm i c.all.length) mj → CB W k p S (l.drop (dk m.size c.frm i c.all.length)) c.acc (df m.size c.frm i c.all.length) (c.all.length - i) c.came (c.went + i) → (∀ x ∈ k :: S, x ∉ Lj) → Mod (L ++ k :: S) w W → Fr Lj L w.heap.size → St w p k L S m c.acc (drp m.size c i) W := fun W Lj mj q1 q2 q3 q4 q5 q6 =>
    ⟨Lj, S, mj, _, ⟨q1, by simpa [drp] using q3, q4, h.ok.drop h.P.ok hi q2⟩, q2.on, q5, Fr.app q6 S⟩
  have hd : decide ((i : Int) < 0) = false := decide_eq_false (by omega)
  have hm : ¬ (c.all.length : Int) < (i : Int) := by omega
  have hlen : c.all.length ≤ 1000000000 := by omega
  have hwl : c.went ≤ 1000000000 := by omega
  obtain ⟨s, hs1⟩ : ∃ n, m.size = n := ⟨_, rfl⟩
  obtain ⟨frm, hm0⟩ : ∃ n, c.frm = n := ⟨_, rfl⟩
  obtain ⟨n, hn1⟩ : ∃ n, l.length = n := ⟨_, rfl⟩
  obtain ⟨many, hm1⟩ : ∃ n, c.all.length = n := ⟨_, rfl⟩
  obtain ⟨went, hm2⟩ : ∃ n, c.went = n := ⟨_, rfl⟩
  rw [hn1] at hcell hll hKl hln
  rw [hm1] at hcell hm hlen k4 hi hKl hln
  rw [hm2] at hcell hwl
  rw [hm0, hs1] at hpl hKl hln
  rw [hm0] at hcell
  have HPl := Lib.hid hpl
  have HStep := Lib.hid hstep
  have HCell := Lib.hid hcell
  have HSt := Lib.hid hst
  have HFin := Lib.hid hfin
  have HE := Lib.hid (And.intro hm0 (And.intro hm1 (And.intro hm2 hs1)))
  have HLn := Lib.hid hln
  clear hpl hstep hcell hst hfin h hs hB hsl hx hcw hn1 hm1 hm2 hm0 hs1 hs0 k0 k1 k2 k3 k5 k6 kf hb hln
  by_cases hin : i = many
  · subst hin
    have hK : dk s frm i i = n := by unfold dk; rw [if_pos rfl]; exact HLn.out.symm
    have hF : df s frm i i = 0 := by unfold df; rw [if_pos rfl]
    have hsub : (i : Int) - (i : Int) = ((0 : Nat) : Int) := by simp
    have HKF := Lib.hid (And.intro hK hF)
    have hnb : n ≤ 1000 := by omega
    clear hK hF hKl
    go_enter Tryd.func37, Tryd.ntmps37
    go_wp2_with fail
    with_reducible refine HPl.out.mono ?_
    rintro e w2 ⟨rfl, hb2⟩
    obtain ⟨q2, q3, q4, q6, f3, f4, f6⟩ := HCell.out w2 hb2
    obtain ⟨L0, m0, z1, z2, z3, z4, z5, z6⟩ := HSt.out w2 0 (went + i) 0 hb2
    have hwi : (went : Int) + (i : Int) = ((went + i : Nat) : Int) := by simp
    have HZ := Lib.hid (And.intro hwi (And.intro z1 (And.intro z2 (And.intro z3 (And.intro z4 (And.intro z5 z6))))))
    clear z1 z2 z3 z4 z5 z6 hb2 hwi k4 HPl HSt HCell
    go_wp2_with fail
    go_loopw [7, 56] (fun _ v W => DR w p k L S l m c.acc 0 0 c.came (went + i) n v W) (fun _ v _ => n - (cj v).toNat)
    case atStart =>
      have h0 := HZ.out.2
      rw [← HZ.out.1] at h0
      exact ⟨0, Nat.zero_le _, rfl, L0, m0, h0⟩
    case round =>
      clear HZ
      obtain ⟨j, hj, rfl, Lj, mj, y1, y2, y3, y4, y5, y6⟩ := hrel
      by_cases hjK : j < n
      · have hg := HStep.out wr 0 0 (went + i) j Lj mj (by have h1 := HKF.out.1; have e0 := HE.out.1; have e1 := HE.out.2.1; have e3 := HE.out.2.2.2; rw [e0, e1, e3, h1]; exact hjK) y1 y2 y3 y4 y5 y6
        have HG := Lib.hid hg
        clear hg y1 y2 y3 y4 y5 y6 HStep
        go_wp2_with fail
        with_reducible refine HG.out.mono ?_
        rintro e w4 ⟨rfl, h4⟩
        have H4 := Lib.hid h4
        clear h4 HG
        go_wp2_with fail
        go_roundw
        case rel => first | exact ⟨j + 1, by omega, by go_num, H4.out⟩ | ((repeat apply Exists.intro); refine ⟨?r, ?f⟩; (case f => (and_intros <;> rfl)); exact ⟨j + 1, by omega, by go_num, H4.out⟩)
        case measure => simp [cj]; omega
      · obtain rfl : j = n := by omega
        have H := Lib.hid (And.intro y1 (And.intro y2 (And.intro y3 (And.intro y4 (And.intro y5 y6)))))
        clear y1 y2 y3 y4 y5 y6 HStep
        go_wp2
        go_ret
        have hk := HKF.out.1
        have hf := HKF.out.2
        have e0 := HE.out.1
        have e1 := HE.out.2.1
        have e2 := HE.out.2.2.1
        have e3 := HE.out.2.2.2
        subst e0 e2 e3
        have hfn := HFin.out wr Lj mj
        rw [e1, hk, hf, Nat.sub_self] at hfn
        exact ⟨rfl, hfn H.out.1 H.out.2.1 H.out.2.2.1 H.out.2.2.2.1 H.out.2.2.2.2.1 H.out.2.2.2.2.2⟩
  · have hK : dk s frm i many = (frm + i) / s := by unfold dk; rw [if_neg hin]
    have hF : df s frm i many = (frm + i) % s := by unfold df; rw [if_neg hin]
    obtain ⟨r, hr⟩ : ∃ r, many - i = r := ⟨_, rfl⟩
    have hsub : (many : Int) - (i : Int) = (r : Int) := by omega
    have hrb : ((r : Int) == 0) = false := by simp; omega
    have hrl : r ≤ 1000000000 := by omega
    rw [hK] at hKl
    have HKF := Lib.hid (And.intro hK (And.intro hF hr))
    generalize (frm + i) / s = K at *
    generalize (frm + i) % s = F at *
    have hnb : K ≤ 1000 := by omega
    clear hK hF hKl hr hin
    go_enter Tryd.func37, Tryd.ntmps37
    go_wp2_with fail
    with_reducible refine HPl.out.mono ?_
    rintro e w2 ⟨rfl, hb2⟩
    obtain ⟨q2, q3, q4, q6, f3, f4, f6⟩ := HCell.out w2 hb2
    obtain ⟨L0, m0, z1, z2, z3, z4, z5, z6⟩ := HSt.out w2 r (went + i) F hb2
    have hwi : (went : Int) + (i : Int) = ((went + i : Nat) : Int) := by simp
    have HZ := Lib.hid (And.intro hwi (And.intro z1 (And.intro z2 (And.intro z3 (And.intro z4 (And.intro z5 z6))))))
    clear z1 z2 z3 z4 z5 z6 hb2 hwi k4 HPl HSt HCell
    go_wp2_with fail
    go_loopw [7, 56] (fun _ v W => DR w p k L S l m c.acc F r c.came (went + i) K v W) (fun _ v _ => K - (cj v).toNat)
    case atStart =>
      have h0 := HZ.out.2
      rw [← HZ.out.1] at h0
      exact ⟨0, Nat.zero_le _, rfl, L0, m0, h0⟩
    case round =>
      clear HZ
      obtain ⟨j, hj, rfl, Lj, mj, y1, y2, y3, y4, y5, y6⟩ := hrel
      by_cases hjK : j < K
      · have hg := HStep.out wr F r (went + i) j Lj mj (by have h1 := HKF.out.1; have e0 := HE.out.1; have e1 := HE.out.2.1; have e3 := HE.out.2.2.2; rw [e0, e1, e3, h1]; exact hjK) y1 y2 y3 y4 y5 y6
        have HG := Lib.hid hg
        clear hg y1 y2 y3 y4 y5 y6 HStep
        go_wp2_with fail
        with_reducible refine HG.out.mono ?_
        rintro e w4 ⟨rfl, h4⟩
        have H4 := Lib.hid h4
        clear h4 HG
        go_wp2_with fail
        go_roundw
        case rel => first | exact ⟨j + 1, by omega, by go_num, H4.out⟩ | ((repeat apply Exists.intro); refine ⟨?r, ?f⟩; (case f => (and_intros <;> rfl)); exact ⟨j + 1, by omega, by go_num, H4.out⟩)
        case measure => simp [cj]; omega
      · obtain rfl : j = K := by omega
        have H := Lib.hid (And.intro y1 (And.intro y2 (And.intro y3 (And.intro y4 (And.intro y5 y6)))))
        clear y1 y2 y3 y4 y5 y6 HStep
        go_wp2
        go_ret
        have hk := HKF.out.1
        have hf := HKF.out.2.1
        have hr := HKF.out.2.2
        have e0 := HE.out.1
        have e1 := HE.out.2.1
        have e2 := HE.out.2.2.1
        have e3 := HE.out.2.2.2
        subst e0 e2 e3
        have hfn := HFin.out wr Lj mj
        rw [e1, hk, hf, hr] at hfn
        exact ⟨rfl, hfn H.out.1 H.out.2.1 H.out.2.2.1 H.out.2.2.2.1 H.out.2.2.2.2.1 H.out.2.2.2.2.2⟩
end Ch
end Go.Proofs.YtpjimmdpcpcmoaaDoor
