import Derived.Test.YtpjimmdpcpcmoaaDoorQChnAt
/- (*chain.Chain).give, Drop and Clear. Condition: the sentinels read as laid. -/
namespace Go.Proofs.YtpjimmdpcpcmoaaDoor
open Go Go.RowKit Kt
namespace Ch
open Po
variable {w w' w2 w3 W : World} {k p : Nat} {L L' L2 S S' M l l' : List Nat} {m m' m2 : Md} {c c' : Cn} {acc : Int} {frm many came went : Nat}
theorem nats_cons (b : Nat) (l : List Nat) : nats (b :: l) = .int .i64 (b : Int) :: nats l := by simp [nats, i64s]
set_option maxRecDepth 100000 in
set_option maxHeartbeats 2000000 in
/-- The first buffer goes. -/
theorem give_c (E : Nat → Addr) {b : Nat} (hx : (Lit.int .i64 acc).wf = true) (hs : Sent 169 w E Er.egs) (hP : PI w p L m) (hC : CB w k p S (b :: l) acc frm many came went) (hd : ∀ x ∈ k :: S, x ∉ L) (hh : hldE m acc (b : Int) = 0) (hll : l.length ≤ 1000) :
    Calls Tryd.prog 64 #[.pointer (some ⟨k, 0, none⟩)] w fun e w' => ∃ L', e = .returned .nilIface ∧ PI w' p L' (giv m acc b) ∧ CB w' k p S l acc frm many came went ∧ (∀ x ∈ k :: S, x ∉ L') ∧ Mod (L ++ k :: S) w w' ∧ Fr L' L w.heap.size := by
  have hgv := fun W (hb : Below w.heap.size w W) => give_yes E acc b hx W (hP.below hb) (hs.keep hb) hh
  obtain ⟨v, h1, h2⟩ := hC.ex
  rw [nats_cons] at h2
  obtain ⟨g, off, cap, rfl, hc1, hc2, ht1, ht2⟩ := h2.tail
  obtain ⟨g', off', cap', hv, hS, hrow⟩ := h2.cell 0 (by simp)
  simp only [List.length_cons, Value.slice.injEq, Option.some.injEq, Addr.mk.injEq, and_true, true_and] at hv
  obtain ⟨⟨rfl, rfl⟩, rfl⟩ := hv
  rw [nats_len] at h1 hc1 ht2
  simp only [List.getElem_cons_zero, Nat.add_zero] at hrow
  have hlt := hC.lts
  have hkS := hC.nk
  have k0 := cell_block h1 0
  have k1 := cell_block h1 1
  have k2 := cell_block h1 2
  simp only [List.getElem?_toArray, List.getElem?_cons_zero, List.getElem?_cons_succ] at k0 k1 k2
  have hkL : k ∉ L := hd k (by simp)
  have hgL : g ∉ L := hd g (by simp [hS])
  have hkl : k < w.heap.size := block_lt h1
  have hgl := lt_of_cell hrow
  simp only at hgl
  have hsk : ∀ W, Mod L w W → W.cell? ⟨k, 0, none⟩ = some (.pointer (some ⟨p, 0, none⟩)) ∧ W.cell? ⟨k, 1, none⟩ = some (.int .i64 acc) ∧ W.cell? ⟨k, 2, none⟩ = some (.slice (some ⟨g, off, none⟩) (l.length + 1) cap) ∧ W.cell? ⟨g, off, none⟩ = some (.int .i64 (b : Int)) ∧ W.frozen? ⟨k, 2, none⟩ = false :=
    fun W hM => ⟨(hM.cell hkl hkL).trans k0, (hM.cell hkl hkL).trans k1, (hM.cell hkl hkL).trans k2, (hM.cell hgl hgL).trans hrow, frozen_block ((hM.block k hkl hkL).trans h1) 2⟩
  have hfin : ∀ W L' v', Mod L w W → PI W p L' (giv m acc b) → Fr L' L w.heap.size → SlO w 3 v' S (nats l) → PI (W.setCell ⟨k, 2, none⟩ v') p L' (giv m acc b) ∧ CB (W.setCell ⟨k, 2, none⟩ v') k p S l acc frm many came went ∧ (∀ x ∈ k :: S, x ∉ L') ∧ Mod (L ++ k :: S) w (W.setCell ⟨k, 2, none⟩ v') ∧ Fr L' L w.heap.size := by
    intro W L' v' hM hP' hF hv'
    have hd' : ∀ x ∈ k :: S, x ∉ L' := fun x hx e => by
      rcases hF x e with h5 | h5
      · exact hd x hx h5
      · have := hlt x hx; omega
    have hM1 : Mod [k] W (W.setCell ⟨k, 2, none⟩ v') := (Mod.refl [k] W).setCell (.inl (by simp)) _
    have hCW := hC.mod hM hd
    refine ⟨hP'.mod hM1 (fun x hx e => ?_), ?_, hd', (hM.sub (fun x hx => by simp [hx])).setCell (.inl (by simp)) _, hF⟩
    · simp only [List.mem_singleton] at e
      subst e
      exact hd' x (by simp) hx
    · exact hCW.setList (hv'.mod hM (fun x hx => hd x (by simp [hx]))) (Mod.refl [] W) (by simp) hkS
  obtain ⟨n, hn⟩ : ∃ n, l.length = n := ⟨_, rfl⟩
  rw [hn] at hsk hc1 ht2 hll
  have hcm : cap ≤ 9223372036854775807 := by unfold maxLen at hc2; omega
  have HSk := Lib.hid hsk
  have HGv := Lib.hid hgv
  have HFin := Lib.hid hfin
  have b0 : Below w.heap.size w w.drew := (Below.refl _ _).drew
  have H0 := Lib.hid (Mod.refl L w)
  have HB0 := Lib.hid b0
  have M0 : Mod L w w.drew := Mod.of_below b0 L
  by_cases hcap : cap = 1
  · subst hcap
    obtain rfl : n = 0 := by omega
    have HT := Lib.hid (ht1 rfl)
    clear hgv hsk hfin h1 h2 ht1 ht2 hrow hS hlt hkS k0 k1 k2 hkL hgL hkl hgl hP hC hd hh hx hs hn hc2 b0
    go_enter Tryd.func64, Tryd.ntmps64
    go_wp2_with fail
    go_region_held3 (fun W => W.cell? ⟨k, 0, none⟩ = some (.pointer (some ⟨p, 0, none⟩)) ∧ W.cell? ⟨k, 1, none⟩ = some (.int .i64 acc) ∧ W.cell? ⟨k, 2, none⟩ = some (.slice (some ⟨g, off, none⟩) (0 + 1) 1) ∧ W.cell? ⟨g, off, none⟩ = some (.int .i64 (b : Int)))
      (first | exact ⟨(HSk.out _ M3).1, (HSk.out _ M3).2.1, (HSk.out _ M3).2.2.1, (HSk.out _ M3).2.2.2.1⟩ | exact ⟨(HSk.out _ M0).1, (HSk.out _ M0).2.1, (HSk.out _ M0).2.2.1, (HSk.out _ M0).2.2.2.1⟩)
      ((go_at_call 14; (with_reducible refine (HGv.out _ HB0.out).mono ?_); rintro e w3 ⟨L3, rfl, P3, M3', F3⟩; have M3 := M0.trans M3' (fun _ h => .inl h)))
    obtain ⟨_, _, q2, _, f2⟩ := HSk.out _ M3
    have H3 := Lib.hid (HFin.out w3 L3 _ M3 P3 F3 HT.out)
    clear M3 M3' P3 F3 M0 HFin HGv HSk
    go_wp2
    go_ret
    exact ⟨L3, rfl, H3.out⟩
  · have h1c : 1 < cap := by omega
    have HT := Lib.hid (ht2 h1c)
    clear hgv hsk hfin h1 h2 ht1 ht2 hrow hS hlt hkS k0 k1 k2 hkL hgL hkl hgl hP hC hd hh hx hs hn hc2 b0
    go_enter Tryd.func64, Tryd.ntmps64
    go_wp2_with fail
    go_region_held3 (fun W => W.cell? ⟨k, 0, none⟩ = some (.pointer (some ⟨p, 0, none⟩)) ∧ W.cell? ⟨k, 1, none⟩ = some (.int .i64 acc) ∧ W.cell? ⟨k, 2, none⟩ = some (.slice (some ⟨g, off, none⟩) (n + 1) cap) ∧ W.cell? ⟨g, off, none⟩ = some (.int .i64 (b : Int)))
      (first | exact ⟨(HSk.out _ M3).1, (HSk.out _ M3).2.1, (HSk.out _ M3).2.2.1, (HSk.out _ M3).2.2.2.1⟩ | exact ⟨(HSk.out _ M0).1, (HSk.out _ M0).2.1, (HSk.out _ M0).2.2.1, (HSk.out _ M0).2.2.2.1⟩)
      ((go_at_call 14; (with_reducible refine (HGv.out _ HB0.out).mono ?_); rintro e w3 ⟨L3, rfl, P3, M3', F3⟩; have M3 := M0.trans M3' (fun _ h => .inl h)))
    obtain ⟨_, _, q2, _, f2⟩ := HSk.out _ M3
    have H3 := Lib.hid (HFin.out w3 L3 _ M3 P3 F3 HT.out)
    clear M3 M3' P3 F3 M0 HFin HGv HSk
    go_wp2
    go_ret
    exact ⟨L3, rfl, H3.out⟩
end Ch
end Go.Proofs.YtpjimmdpcpcmoaaDoor
