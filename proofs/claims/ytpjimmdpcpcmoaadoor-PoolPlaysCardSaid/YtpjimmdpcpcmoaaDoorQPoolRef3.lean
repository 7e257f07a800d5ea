/- The model's pool (dofferref30): Take's walk. -/
import Derived.Test.YtpjimmdpcpcmoaaDoorQPoolRef2
namespace Go.Proofs.YtpjimmdpcpcmoaaDoor
open Go Go.RowKit Kt
namespace Po
variable {w w' : World} {z ob oc bb bc ak : Nat} {aa : Option Addr} {G : List Nat} {m : Md} {L : List Nat}
theorem RI.take (h : RB w z ob oc bb bc aa ak G m) (hok : Ok m) {x : Int} {i : Nat} (he : takE m x = 0) (hti : takI m x = i) {w0 w1 : World} (hB : Below w0.heap.size w0 w)
    (hw : w1 = (((w.alloc (.cells (u8s (List.replicate m.size 0)).toArray 5 (0, 0))).setCell ⟨ob, i, none⟩ (.int .i64 x)).setCell ⟨bb, i, none⟩ (.slice (some ⟨w.heap.size, 0, none⟩) m.size m.size)).drew) (hi : i < m.own.length) :
    ∃ L', RI w1 z L' (tak m x) ∧ Mod (z :: ob :: bb :: (sb aa ++ G)) w0 w1 ∧ Fr L' (z :: ob :: bb :: (sb aa ++ G)) w0.heap.size := by
  obtain ⟨h1, h2, h3⟩ := h.take hi x hw
  have hmd : tak m x = { m with own := m.own.set i x, cont := m.cont.set i (List.replicate m.size 0) } := by unfold tak; rw [if_pos he, hti]
  have := hB.size
  refine ⟨_, ⟨⟨ob, oc, bb, bc, aa, ak, _, by rw [hmd]; exact h1, rfl⟩, tak_ok hok x⟩, (Mod.of_below hB _).trans h2 (fun k hk => .inl ?_), fun k hk => (h3 k hk).imp id (fun h => by omega)⟩
  simp only [List.mem_cons, List.not_mem_nil, or_false] at hk
  rcases hk with rfl | rfl <;> simp
set_option maxRecDepth 100000 in
set_option maxHeartbeats 2000000 in
theorem rtake_c (x : Int) (w : World) (h : RI w z L m) :
    Calls Tryd.prog 28 #[.pointer (some ⟨z, 0, none⟩), .int .i64 x] w fun e w' => ∃ L', e = .returned (.tuple #[.int .i64 (takI m x : Int), .int .i64 (takE m x)]) ∧ RI w' z L' (tak m x) ∧ Mod L w w' ∧ Fr L' L w.heap.size := by
  have hf := rfind_c x w h
  have hok := h.ok
  have hn2 := h.ok.n2
  have hs2 := h.ok.s2
  have ha1 := h.ok.a1
  have hsame : takE m x ≠ 0 → takI m x = 0 ∧ tak m x = m := fun he => ⟨by unfold takI; rw [if_neg he], by unfold tak; rw [if_neg he]⟩
  cases hc : crd m.acc x with
  | none =>
    have e : takE m x = 15 := by unfold takE; rw [hc]
    obtain ⟨e1, e2⟩ := hsame (by omega)
    rw [fndI_none hc] at hf
    rw [e, e1, e2]
    have hI := fun W (hb : Below w.heap.size w W) => And.intro (h.below hb) (Mod.of_below hb L)
    have HF := Lib.hid hf
    have HI := Lib.hid hI
    clear h hf hok hsame hc e e1 e2 hI
    go_enter Tryd.func28, Tryd.ntmps28
    go_wp2_with (go_at_call 58; (with_reducible refine HF.out.mono ?_); rintro e w2 ⟨rfl, hb2⟩)
    go_ret2
    exact ⟨L, rfl, (HI.out w2 hb2).1, (HI.out w2 hb2).2, Fr.refl _ _⟩
  | some c =>
    obtain ⟨k, hk, hki⟩ := fndI_some hc
    rw [hki] at hf
    obtain ⟨hkl, hk1, hk2⟩ := fnd_some h.ok.nd hk
    rw [hc] at hk2
    simp only [Option.some.injEq] at hk2
    obtain ⟨ob, oc, bb, bc, aa, ak, G, hb, rfl⟩ := h.ex
    obtain ⟨n, hn⟩ : ∃ n, m.own.length = n := ⟨_, rfl⟩
    obtain ⟨na, hna⟩ : ∃ na, m.acc.length = na := ⟨_, rfl⟩
    obtain ⟨s, hs⟩ : ∃ s, m.size = s := ⟨_, rfl⟩
    obtain ⟨H, hH⟩ : ∃ H : Int, (held m.own x : Int) = H := ⟨_, rfl⟩
    have hmem : ∃ b off, aa = some ⟨b, off, none⟩ ∧ ∀ W, Below w.heap.size w W → W.cell? ⟨b, off + k * 2 + 1, none⟩ = some (.int .i64 c) := by
      obtain ⟨b, off, e, _⟩ := hb.ha.struct 2 (by intro z _; rfl) k hkl (by omega)
      refine ⟨b, off, e, fun W hB => ?_⟩
      obtain ⟨b', off', e', hcs⟩ := (hb.ha.keep hB).struct 2 (by intro z _; rfl) k hkl (by omega)
      rw [e] at e'
      cases e'
      have := hcs 1 _ rfl (by omega)
      rw [hk2]
      rw [← Nat.add_assoc] at this
      exact this
    obtain ⟨ab, off, rfl, hac⟩ := hmem
    have hh := fun W (hB : Below w.heap.size w W) => rheld_c x W (h.below hB)
    rw [hH] at hh
    have hcells : ∀ W, Below w.heap.size w W → W.cell? ⟨z, 0, none⟩ = some (.int .i64 (s : Int)) ∧ W.cell? ⟨z, 1, none⟩ = some (.slice (some ⟨ob, 0, none⟩) n oc) ∧ W.cell? ⟨z, 2, none⟩ = some (.slice (some ⟨bb, 0, none⟩) n bc) ∧ W.cell? ⟨z, 3, none⟩ = some (.slice (some ⟨ab, off, none⟩) na ak) := fun W hB => by
      have h1 := (hb.mod (Mod.of_below hB []) (by simp)).hp
      rw [hn, hna, hs] at h1
      exact ⟨cell_block h1 0, cell_block h1 1, cell_block h1 2, cell_block h1 3⟩
    have hkn : (k : Int) < (na : Int) := by omega
    have hk0 : (0 : Int) ≤ (k : Int) := by omega
    rw [hn] at hn2
    rw [hs] at hs2
    rw [hna] at ha1
    have HF := Lib.hid hf
    have HH := Lib.hid hh
    have HC := Lib.hid hcells
    have HA := Lib.hid hac
    have hI := fun W (hB : Below w.heap.size w W) => And.intro (h.below hB) (Mod.of_below hB (z :: ob :: bb :: (sb (some ⟨ab, off, none⟩) ++ G)))
    have HI := Lib.hid hI
    have HB0 := Lib.hid hb
    clear hI
    by_cases hch : c ≤ H
    · have e : takE m x = 14 := by unfold takE; rw [hc]; simp only; rw [if_pos (by omega)]
      obtain ⟨e1, e2⟩ := hsame (by omega)
      rw [e, e1, e2]
      have hd : decide (c ≤ H) = true := decide_eq_true hch
      clear h hb hf hok hsame hc hk hki hkl hk1 hk2 hn hna hs hH hh hcells hac hch e e1 e2 HB0
      go_enter Tryd.func28, Tryd.ntmps28
      go_wp2_with (go_at_call 58; (with_reducible refine HF.out.mono ?_); rintro e w2 ⟨rfl, hb2⟩)
      obtain ⟨q0, q1, q2, q3⟩ := HC.out w2 hb2
      have qa := HA.out w2 hb2
      have HQ := Lib.hid (fun nq => HH.out _ (below_drewN hb2 nq))
      go_quiet ((go_at_call 59; exact Calls.quiet_of_same ((HQ.out _).mono fun _ _ ⟨h1, h2⟩ => ⟨h1, h2.symm⟩)))
      go_wp2
      go_ret2
      exact ⟨_, rfl, (HI.out _ (below_drewN hb2 _)).1, (HI.out _ (below_drewN hb2 _)).2, Fr.refl _ _⟩
    · have hd : decide (c ≤ H) = false := decide_eq_false hch
      have hto : free1 m.own = none → takE m x = 13 ∧ takI m x = 0 ∧ tak m x = m := fun hfr => by
        have e : takE m x = 13 := by unfold takE; rw [hc]; simp only; rw [if_neg (by omega), if_pos hfr]
        obtain ⟨e1, e2⟩ := hsame (by omega)
        exact ⟨e, e1, e2⟩
      have hty : ∀ i, free1 m.own = some i → takE m x = 0 ∧ takI m x = i := fun i hfr => by
        have e : takE m x = 0 := by unfold takE; rw [hc]; simp only; rw [if_neg (by omega), if_neg (by rw [hfr]; simp)]
        exact ⟨e, by unfold takI; rw [if_pos e, hfr]; rfl⟩
      have hmk := fun w => run_make_row' (P := Tryd.prog) 54 5 (.int .u8 0) 1 Tryd.underlying54 (by kernel_rfl) rfl .i64 .i64 s (by omega) (by omega) w
      rw [made_zero] at hmk
      obtain ⟨M, hM⟩ : ∃ M, (u8s (List.replicate s 0)).toArray = M := ⟨_, rfl⟩
      rw [hM] at hmk
      have HTo := Lib.hid hto
      have HTy := Lib.hid hty
      have HN := Lib.hid (And.intro hn (And.intro hs (And.intro hM hok)))
      clear h hb hf hok hsame hc hk hki hkl hk1 hk2 hn hna hs hH hh hcells hac hch hto hty hM
      go_enter Tryd.func28, Tryd.ntmps28
      go_wp2_with (go_at_call 58; (with_reducible refine HF.out.mono ?_); rintro e w2 ⟨rfl, hb2⟩)
      obtain ⟨q0, q1, q2, q3⟩ := HC.out w2 hb2
      have qa := HA.out w2 hb2
      have HQ := Lib.hid (fun nq => HH.out _ (below_drewN hb2 nq))
      go_quiet ((go_at_call 59; exact Calls.quiet_of_same ((HQ.out _).mono fun _ _ ⟨h1, h2⟩ => ⟨h1, h2.symm⟩)))
      have hB3 := below_drewN hb2 nq
      clear q0 q1 q2 q3 qa
      obtain ⟨q0, q1, q2, q3⟩ := HC.out _ hB3
      have HB3 := Lib.hid hB3
      clear hB3
      go_wp2
      go_loopw [7, 8, 31] (fun _ _ i W => ∃ j : Nat, j ≤ n ∧ i = .int .i64 (j : Int) ∧ (∀ q ∈ m.own.take j, 0 ≤ q) ∧ Below w.heap.size w W) (fun _ _ i _ => n - (rj i).toNat)
      case atStart => exact ⟨0, Nat.zero_le _, rfl, by simp, HB3.out⟩
      case round =>
        obtain ⟨j, hj, rfl, hno, hB⟩ := hrel
        clear q0 q1 q2 q3
        by_cases hjn : j < n
        · have hjl : j < m.own.length := by rw [HN.out.1]; exact hjn
          have hbr := HB0.out.mod (Mod.of_below hB []) (by simp)
          have c0 := hbr.ho.cell j (by rw [ints_len]; exact hjl)
          have cf := hbr.ho.fr j
          obtain ⟨o, ho⟩ : ∃ o, m.own[j] = o := ⟨_, rfl⟩
          have e0 : (i64s m.own)[j]'(by rw [ints_len]; exact hjl) = .int .i64 o := by simp [i64s, ho]
          rw [e0] at c0
          have hB5 := Lib.hid hB
          by_cases h0 : o < 0
          · have hfr : free1 m.own = some j := by
              unfold free1
              rw [List.findIdx?_eq_some_iff_getElem]
              refine ⟨hjl, by simpa [ho] using h0, fun q hq => ?_⟩
              have := hno m.own[q] (by rw [List.mem_take_iff_getElem]; exact ⟨q, by omega, rfl⟩)
              simpa using this
            obtain ⟨he, hti⟩ := HTy.out j hfr
            have HE := Lib.hid (And.intro he hti)
            have hnd := hbr.nd
            have hnd1 := List.nodup_cons.1 hnd
            have hnd2 := List.nodup_cons.1 hnd1.2
            have hz1 : ob ≠ z := fun e => hnd1.1 (by rw [e]; simp)
            have hob : ob ≠ bb := fun e => hnd2.1 (by rw [e]; simp)
            have hp1 := (block_setOther (i := j) hz1.symm (.int .i64 x)).trans hbr.hp
            have hb1 := hbr.hb.other hob j (.int .i64 x)
            have hp2 := block_alloc (x := .cells M 5 (0, 0)) hp1
            have hb2' := hb1.alloc (.cells M 5 (0, 0))
            have hjG : j < G.length := by rw [hbr.hG]; exact hjl
            rw [HN.out.1, HN.out.2.1] at hp1 hp2
            have p1 := cell_block hbr.hp 1
            rw [HN.out.1] at p1
            have s0 := cell_block hp1 0
            have s2 := cell_block hp1 2
            have t0 := cell_block hp2 0
            have t2 := cell_block hp2 2
            have sb1 := hb1.cell j (by simpa using hjG)
            have sf1 := hb1.fr j
            have tb1 := hb2'.cell j (by simpa using hjG)
            have tf1 := hb2'.fr j
            obtain ⟨V, hV⟩ : ∃ V, (G.map fun g => Value.slice (some ⟨g, 0, none⟩) m.size m.size)[j]'(by simpa using hjG) = V := ⟨_, rfl⟩
            rw [hV] at sb1 tb1
            have hfin := RI.take hbr HN.out.2.2.2 he hti hB rfl hjl
            rw [HN.out.2.1, HN.out.2.2.1] at hfin
            have HFin := Lib.hid hfin
            have Hlt := Lib.hid hbr.ho.lt
            clear hbr e0 ho hB hnd hnd1 hnd2 hp1 hb1 hp2 hb2' hjG hV hfin hno he hti hfr hjl
            go_wp2
            go_region
            all_goals go_wp2
            all_goals go_ret2
            all_goals (obtain ⟨L', f1, f2, f3⟩ := HFin.out)
            all_goals (rw [← alloc_set _ _ _ _ _ Hlt.out] at f1 f2)
            all_goals exact ⟨L', by rw [HE.out.1, HE.out.2]; rfl, f1, f2, f3⟩
          · have hnx : ∀ q ∈ m.own.take (j + 1), 0 ≤ q := fun q hq => by
              rw [← List.take_append_getElem hjl] at hq
              rcases List.mem_append.1 hq with h1 | h1
              · exact hno q h1
              · simp only [List.mem_singleton] at h1; omega
            have p1 := cell_block hbr.hp 1
            rw [HN.out.1] at p1
            have Hnx := Lib.hid hnx
            clear hbr e0 ho hB hno hnx hjl
            go_wp2
            go_roundw
            case rel => exact ⟨j + 1, by omega, by go_num, Hnx.out, hB5.out⟩
            case measure => simp [rj]; omega
        · obtain rfl : j = n := by omega
          rw [List.take_of_length_le (by rw [HN.out.1]; exact Nat.le_refl _)] at hno
          have hfr : free1 m.own = none := by
            unfold free1
            rw [List.findIdx?_eq_none_iff]
            intro q hq
            have := hno q hq
            simpa using this
          have HE := Lib.hid (HTo.out hfr)
          have hii := HI.out _ hB
          have HX := Lib.hid hii
          clear hno hfr hB hii
          go_wp2
          go_ret2
          exact ⟨_, by rw [HE.out.1, HE.out.2.1]; rfl, by rw [HE.out.2.2]; exact HX.out.1, HX.out.2, Fr.refl _ _⟩
end Po
end Go.Proofs.YtpjimmdpcpcmoaaDoor
