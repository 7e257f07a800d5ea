/- dofferlaw30.same: a pool shows its model. -/
import Derived.Test.YtpjimmdpcpcmoaaDoorQPoolRef8
import Derived.Test.YtpjimmdpcpcmoaaDoorQPoolAcc
namespace Go.Proofs.YtpjimmdpcpcmoaaDoor
open Go Go.RowKit Kt
namespace Po
variable {w w' : World} {p z : Nat} {m : Md} {L M : List Nat}
set_option maxRecDepth 100000 in
set_option maxHeartbeats 4000000 in
theorem same_c (x : Int) (hx : (Lit.int .i64 x).wf = true) (w : World) (hP : PI w p L m) (hR : RI w z M m) :
    Calls Tryd.prog 33 #[.pointer (some ⟨p, 0, none⟩), .pointer (some ⟨z, 0, none⟩), .int .i64 x] w fun e w' => e = .returned (.bool true) ∧ Below w.heap.size w w' := by
  have hok := hP.ok
  have hn2 := hok.n2
  have ha1 := hok.a1
  have hnd := hok.nd
  obtain ⟨own, hown⟩ : ∃ own, m.own = own := ⟨_, rfl⟩
  obtain ⟨acc, hacc⟩ : ∃ acc, m.acc = acc := ⟨_, rfl⟩
  obtain ⟨n, hn⟩ : ∃ n, own.length = n := ⟨_, rfl⟩
  obtain ⟨na, hna⟩ : ∃ na, acc.length = na := ⟨_, rfl⟩
  obtain ⟨s, hs⟩ : ∃ s, m.size = s := ⟨_, rfl⟩
  obtain ⟨U, hU⟩ : ∃ U, used own = U := ⟨_, rfl⟩
  obtain ⟨H, hH⟩ : ∃ H : Int, (held own x : Int) = H := ⟨_, rfl⟩
  obtain ⟨C, hC⟩ : ∃ C : Int, (crd acc x).getD 0 = C := ⟨_, rfl⟩
  obtain ⟨F, hF⟩ : ∃ F, fndI acc x = F := ⟨_, rfl⟩
  have hUn : U ≤ n := by rw [← hU, ← hn]; exact List.countP_le_length
  have hall := fun W (hB : Below w.heap.size w W) => And.intro (hP.below hB) (hR.below hB)
  have HAll := Lib.hid hall
  have cf := fun y W (hB : Below w.heap.size w W) => rfind_c y W (hall W hB).2
  have cac := fun W (hB : Below w.heap.size w W) => accounts_c W (hall W hB).1
  have cu := fun W (hB : Below w.heap.size w W) => used_c W (hall W hB).1
  have cfr := fun W (hB : Below w.heap.size w W) => free_c W (hall W hB).1
  have cs := fun W (hB : Below w.heap.size w W) => size_c W (hall W hB).1
  have ch := fun W (hB : Below w.heap.size w W) => held_c x hx W (hall W hB).1
  have crh := fun W (hB : Below w.heap.size w W) => rheld_c x W (hall W hB).2
  have cc := fun W (hB : Below w.heap.size w W) => credit_c x hx W (hall W hB).1
  have hcells : ∀ W, Below w.heap.size w W → ∃ ob oc aa ak, W.cell? ⟨z, 0, none⟩ = some (.int .i64 (s : Int)) ∧ W.cell? ⟨z, 1, none⟩ = some (.slice (some ⟨ob, 0, none⟩) n oc) ∧ W.cell? ⟨z, 3, none⟩ = some (.slice aa na ak) ∧ Rd W (some ⟨ob, 0, none⟩) (i64s own) ∧ Rd W aa (acc.flatMap a2) := fun W hB => by
    obtain ⟨ob, oc, bb, bc, aa, ak, G, h1, _⟩ := (hall W hB).2.ex
    have h2 := h1.hp
    rw [hown, hacc, hs, hn, hna] at h2
    have h3 := h1.ho.rd
    have h4 := h1.ha
    rw [hown] at h3
    rw [hacc] at h4
    exact ⟨ob, oc, aa, ak, cell_block h2 0, cell_block h2 1, cell_block h2 3, h3, h4⟩
  rw [hown] at hn2 cu cfr ch crh
  rw [hacc] at ha1 hnd cf cac cc
  rw [hn] at hn2 cfr
  rw [hna] at ha1
  rw [hU] at cu cfr
  obtain ⟨FR, hFR⟩ : ∃ FR : Int, ((n - U : Nat) : Int) = FR := ⟨_, rfl⟩
  rw [hFR] at cfr
  have hsub : IntKind.i64.wrap ((n : Int) - (U : Int)) = FR := by rw [← hFR]; rw [IntWalk.i64_in _ ⟨by omega, by omega⟩]; omega
  have HSub := Lib.hid hsub
  rw [hH] at ch crh
  rw [hC] at cc
  rw [hs] at cs
  have Cf := Lib.hid cf
  have Cac := Lib.hid cac
  have Cu := Lib.hid cu
  have Cfr := Lib.hid cfr
  have Cs := Lib.hid cs
  have Ch := Lib.hid ch
  have Crh := Lib.hid crh
  have Cc := Lib.hid cc
  have HC := Lib.hid hcells
  have HN := Lib.hid (And.intro hn (And.intro hna (And.intro hU (And.intro hC (And.intro hF hnd)))))
  obtain ⟨ob, oc, aa, ak, k0, k1, k3, hr, _⟩ := hcells w (Below.refl _ _)
  have HR := Lib.hid hr
  clear hok hall cf cac cu cfr cs ch crh cc hcells hP hR hn hna hU hC hF hnd hH hs hr HAll
  go_enter Tryd.func33, Tryd.ntmps33
  go_wp2
  go_loopw [7, 10, 20] (fun k _ i W => ∃ j : Nat, j ≤ n ∧ i = .int .i64 (j : Int) ∧ k = .int .i64 ((used (own.take j) : Nat) : Int) ∧ w = W) (fun _ _ i _ => n - (rj i).toNat)
  case atStart => exact ⟨0, Nat.zero_le _, rfl, rfl, rfl⟩
  case round =>
    obtain ⟨j, hj, rfl, rfl, rfl⟩ := hrel
    by_cases hjn : j < n
    · have hjl : j < own.length := by rw [HN.out.1]; exact hjn
      obtain ⟨b, off, ha, hc⟩ := HR.out.i64 j hjl
      simp only [Option.some.injEq, Addr.mk.injEq, and_true] at ha
      obtain ⟨rfl, rfl⟩ := ha
      rw [Nat.zero_add] at hc
      have hnx : used (own.take (j + 1)) = used (own.take j) + (if 0 ≤ own[j] then 1 else 0) := by
        unfold used
        rw [← List.take_append_getElem hjl, List.countP_append, List.countP_cons, List.countP_nil]
        simp
      have hle : used (own.take j) ≤ j := by
        have := List.countP_le_length (p := fun o : Int => decide (0 ≤ o)) (l := own.take j)
        unfold used
        rw [List.length_take] at this
        omega
      generalize own[j] = o at *
      obtain ⟨V, hV⟩ : ∃ V, used (own.take j) = V := ⟨_, rfl⟩
      rw [hV] at hnx hle ⊢
      have HNx := Lib.hid hnx
      clear hnx hV hjl
      by_cases h0 : 0 ≤ o
      · go_wp2_with fail
        go_roundw
        case rel => exact ⟨j + 1, by omega, by go_num, by rw [HNx.out, if_pos h0]; go_num, by first | rfl | trivial⟩
        case measure => simp [rj]; omega
      · go_wp2_with fail
        go_roundw
        case rel => exact ⟨j + 1, by omega, by go_num, by rw [HNx.out, if_neg h0, Nat.add_zero], by first | rfl | trivial⟩
        case measure => simp [rj]; omega
    · obtain rfl : j = n := by omega
      have e : used (own.take j) = U := by rw [List.take_of_length_le (by rw [HN.out.1]; exact Nat.le_refl _)]; exact HN.out.2.2.1
      rw [e]
      clear e
      have hB0 := Below.refl w.heap.size w
      have hf0 := Cf.out x w hB0
      rw [HN.out.2.2.2.2.1] at hf0
      have HF := Lib.hid hf0
      clear hB0 hf0
      go_wp2_with fail
      with_reducible refine HF.out.mono ?_
      rintro e w2 ⟨rfl, hb2⟩
      go_upto_if 33 with (fail)
      go_cut [8] (fun u W => u = .int .i64 C ∧ Below w.heap.size w W)
      case first =>
        obtain ⟨ob, oc, aa, ak, q0, q1, q3, qr, qa⟩ := HC.out w2 hb2
        cases hc : crd acc x with
        | none =>
          have hFm : F < 0 := by rw [← HN.out.2.2.2.2.1, fndI_none hc]; decide
          have hC0 : C = 0 := by rw [← HN.out.2.2.2.1, hc]; rfl
          subst hC0
          have HB2 := Lib.hid hb2
          clear hc q0 q1 q3 qr qa hb2 HF HR
          go_wp2
          go_meet
          case rel => exact ⟨rfl, HB2.out⟩
        | some c =>
          obtain ⟨k, hk, hki⟩ := fndI_some hc
          have hFk : F = (k : Int) := by rw [← HN.out.2.2.2.2.1, hki]
          obtain ⟨hkl, hk1, hk2⟩ := fnd_some HN.out.2.2.2.2.2 hk
          rw [hc] at hk2
          simp only [Option.some.injEq] at hk2
          have hCc : C = c := by rw [← HN.out.2.2.2.1, hc]; rfl
          subst hCc
          obtain ⟨b, off, rfl, hcs⟩ := qa.struct 2 (by intro z _; rfl) k hkl (by omega)
          have c1 := hcs 1 _ rfl (by omega)
          rw [← hk2, ← Nat.add_assoc, show k = F.toNat by omega] at c1
          have hkn : k < na := by rw [← HN.out.2.1]; exact hkl
          have hF0 : 0 ≤ F := by omega
          have hFn : F < (na : Int) := by omega
          have HB2 := Lib.hid hb2
          clear hc q0 q1 qr qa hb2 HF HR hk hki hk1 hcs
          clear hk2 hkl hFk hkn
          go_wp2
          go_meet
          case rel => exact ⟨rfl, HB2.out⟩
      case rest =>
        obtain ⟨rfl, hBc⟩ := hcut
        have HAc := Lib.hid (Cac.out wc hBc)
        clear hb2 HF HR k0 k1 k3
        have HBc := Lib.hid hBc
        clear hBc
        go_wp2_with fail
        with_reducible refine HAc.out.mono ?_
        rintro e w3 ⟨v, zs, rfl, hperm, hpw, hwf, hown, hb3⟩
        have hzl : zs.length = na := by rw [hperm.length_eq, List.length_map]; exact HN.out.2.1
        rw [hzl] at hown
        obtain ⟨a, cap, rfl, g1, g2, _⟩ := rd_own hown
        have HRz := Lib.hid (Rd.own hown)
        have hB3 := HBc.out.trans (hb3.mono HBc.out.size)
        have HB3 := Lib.hid hB3
        have hmem : ∀ y ∈ zs, ∃ k : Nat, fndI acc y = (k : Int) := fun y hy => by
          have h1 := hperm.mem_iff.1 hy
          cases hc : crd acc y with
          | none => exact absurd h1 (crd_none.1 hc)
          | some c => obtain ⟨k, _, hk⟩ := fndI_some hc; exact ⟨k, hk⟩
        have HM := Lib.hid (And.intro hzl (And.intro hmem hpw))
        clear hown hb3 hB3 hmem hperm hpw hwf hzl HAc
        go_wp2_with fail
        go_loopw [13, 14, 46] (fun _ _ i W => ∃ j : Nat, j ≤ na ∧ i = .int .i64 (j : Int) ∧ Below w3.heap.size w3 W) (fun _ _ i _ => na - (rj i).toNat)
        case atStart => exact ⟨0, Nat.zero_le _, rfl, Below.refl _ _⟩
        case round =>
          obtain ⟨j, hj, rfl, hBj⟩ := hrel
          by_cases hjn : j < na
          · have hjl : j < zs.length := by rw [HM.out.1]; exact hjn
            obtain ⟨b, off, rfl, cj⟩ := (HRz.out.keep hBj).i64 j hjl
            obtain ⟨k, hk⟩ := HM.out.2.1 zs[j] (List.getElem_mem hjl)
            have hBw := HB3.out.trans (hBj.mono HB3.out.size)
            have hfj := Cf.out zs[j] wr hBw
            rw [hk] at hfj
            have hprev : ∀ i (hi : i + 1 = j), ∃ u, u < zs[j] ∧ ∀ W, Below w3.heap.size w3 W → W.cell? ⟨b, off + i, none⟩ = some (.int .i64 u) := fun i hi => by
              have hil : i < zs.length := by omega
              refine ⟨zs[i], List.pairwise_iff_getElem.1 HM.out.2.2 i j hil hjl (by omega), fun W hB => ?_⟩
              obtain ⟨b', off', e, c⟩ := (HRz.out.keep hB).i64 i hil
              cases e
              exact c
            generalize zs[j] = y at *
            have HFj := Lib.hid hfj
            have HPv := Lib.hid hprev
            have HBj := Lib.hid hBj
            clear hk hBw hfj hprev hjl hBj
            by_cases hj0 : j = 0
            · subst hj0
              rw [Nat.add_zero] at cj
              go_wp2_with fail
              with_reducible refine HFj.out.mono ?_
              rintro e w5 ⟨rfl, hb5⟩
              have HB5 := Lib.hid (HBj.out.trans (hb5.mono HBj.out.size))
              clear hb5
              go_wp2_with fail
              go_roundw
              case rel => exact ⟨0 + 1, by omega, by go_num, HB5.out⟩
              case measure => simp [rj]; omega
            · obtain ⟨i, rfl⟩ : ∃ i, j = i + 1 := ⟨j - 1, by omega⟩
              obtain ⟨u, hu, huc⟩ := HPv.out i rfl
              go_wp2_with fail
              with_reducible refine HFj.out.mono ?_
              rintro e w5 ⟨rfl, hb5⟩
              have hB5 := HBj.out.trans (hb5.mono HBj.out.size)
              have cu := huc w5 hB5
              have HB5 := Lib.hid hB5
              clear hb5 hB5 huc
              have hu2 : ¬ y ≤ u := by omega
              go_wp2_with fail
              go_roundw
              case rel => exact ⟨i + 1 + 1, by omega, by go_num, HB5.out⟩
              case measure => simp [rj]; omega
          · obtain rfl : j = na := by omega
            have hBw := HB3.out.trans (hBj.mono HB3.out.size)
            obtain ⟨ob, oc, aa, ak, q0, q1, q3, _⟩ := HC.out wr hBw
            have Q1 := Lib.hid (fun nq => (Cu.out _ (below_drewN hBw nq)).mono fun _ _ ⟨h1, h2⟩ => And.intro h1 h2.symm)
            have Q2 := Lib.hid (fun nq => (Cfr.out _ (below_drewN hBw nq)).mono fun _ _ ⟨h1, h2⟩ => And.intro h1 h2.symm)
            have Q3 := Lib.hid (fun nq => (Cs.out _ (below_drewN hBw nq)).mono fun _ _ ⟨h1, h2⟩ => And.intro h1 h2.symm)
            have Q4 := Lib.hid (fun nq => (Ch.out _ (below_drewN hBw nq)).mono fun _ _ ⟨h1, h2⟩ => And.intro h1 h2.symm)
            have Q5 := Lib.hid (fun nq => (Crh.out _ (below_drewN hBw nq)).mono fun _ _ ⟨h1, h2⟩ => And.intro h1 h2.symm)
            have Q6 := Lib.hid (fun nq => (Cc.out _ (below_drewN hBw nq)).mono fun _ _ ⟨h1, h2⟩ => And.intro h1 h2.symm)
            have HBw := Lib.hid hBw
            clear hBj hBw Cf Cac Cu Cfr Cs Ch Crh Cc HC HN HM HRz HB3 HBc
            have hsub := HSub.out
            go_wp2_with fail
            go_quiet ((first | (go_at_call 18; exact Calls.quiet_of_same (Q1.out _)) | (go_at_call 19; exact Calls.quiet_of_same (Q2.out _)) | (go_at_call 62; exact Calls.quiet_of_same (Q3.out _)) | (go_at_call 16; exact Calls.quiet_of_same (Q4.out _)) | (go_at_call 59; exact Calls.quiet_of_same (Q5.out _)) | (go_at_call 17; exact Calls.quiet_of_same (Q6.out _))))
            go_wp2
            go_ret
            exact ⟨rfl, below_drewN HBw.out _⟩
end Po
end Go.Proofs.YtpjimmdpcpcmoaaDoor
