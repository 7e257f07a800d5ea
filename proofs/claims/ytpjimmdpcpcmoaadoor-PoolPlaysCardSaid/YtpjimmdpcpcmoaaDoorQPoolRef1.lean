/- The model's pool (dofferref30): Holds, Place, Give. -/
import Derived.Test.YtpjimmdpcpcmoaaDoorQPoolRef0
import Derived.Test.YtpjimmdpcpcmoaaDoorQPoolHold
namespace Go.Proofs.YtpjimmdpcpcmoaaDoor
open Go Go.RowKit Kt
namespace Po
variable {w w' : World} {z ob oc bb bc ak : Nat} {aa : Option Addr} {G : List Nat} {m : Md} {L : List Nat}
theorem fndI_none {acc : List (Int × Int)} {x : Int} (h : crd acc x = none) : fndI acc x = -1 := by unfold fndI; rw [fnd_none.2 h]
theorem fndI_some {acc : List (Int × Int)} {x c : Int} (h : crd acc x = some c) : ∃ i : Nat, fnd acc x = some i ∧ fndI acc x = (i : Int) := by
  cases hf : fnd acc x with
  | none => rw [fnd_none.1 hf] at h; cases h
  | some i => exact ⟨i, rfl, by unfold fndI; rw [hf]⟩
set_option maxRecDepth 100000 in
set_option maxHeartbeats 1000000 in
theorem rholds_c (x b : Int) (w : World) (h : RI w z L m) :
    Calls Tryd.prog 60 #[.pointer (some ⟨z, 0, none⟩), .int .i64 x, .int .i64 b] w fun e w' => e = .returned (.int .i64 (hldE m x b)) ∧ Below w.heap.size w w' := by
  have hf := rfind_c x w h
  have hn2 := h.ok.n2
  have hcell : ∀ W, Below w.heap.size w W → ∃ ob oc, W.cell? ⟨z, 1, none⟩ = some (.slice (some ⟨ob, 0, none⟩) m.own.length oc) ∧ ∀ j (hj : j < m.own.length), W.cell? ⟨ob, j, none⟩ = some (.int .i64 m.own[j]) := fun W hb => by
    obtain ⟨ob, oc, bb, bc, aa, ak, G, h1, _⟩ := (h.below hb).ex
    refine ⟨ob, oc, cell_block h1.hp 1, fun j hj => ?_⟩
    have := h1.ho.cell j (by rw [ints_len]; exact hj)
    rw [this]
    simp [i64s]
  obtain ⟨R, hR⟩ : ∃ R, hldE m x b = R := ⟨_, rfl⟩
  rw [hR]
  have HR := Lib.hid hR
  have HC := Lib.hid hcell
  clear h hcell hR
  cases hc : crd m.acc x with
  | none =>
    rw [fndI_none hc] at hf
    have e : R = 15 := by rw [← HR.out]; unfold hldE; rw [if_pos hc]
    subst e
    have HF := Lib.hid hf
    clear hf hc
    go_enter Tryd.func60, Tryd.ntmps60
    go_wp2_with (go_at_call 58; (with_reducible refine HF.out.mono ?_); rintro e w2 ⟨rfl, hb2⟩)
    go_ret
    exact ⟨rfl, hb2⟩
  | some c =>
    obtain ⟨i, _, hi⟩ := fndI_some hc
    rw [hi] at hf
    have hcn : ¬ crd m.acc x = none := by rw [hc]; simp
    have HF := Lib.hid hf
    clear hf hi
    by_cases hb0 : b < 0
    · have e : R = 12 := by rw [← HR.out]; unfold hldE; rw [if_neg hcn, if_pos (.inl hb0)]
      subst e
      clear hc hcn
      go_enter Tryd.func60, Tryd.ntmps60
      go_wp2_with (go_at_call 58; (with_reducible refine HF.out.mono ?_); rintro e w2 ⟨rfl, hb2⟩)
      go_ret
      exact ⟨rfl, hb2⟩
    · obtain ⟨j, rfl⟩ : ∃ j : Nat, b = (j : Int) := ⟨b.toNat, by omega⟩
      by_cases hjn : j < m.own.length
      · obtain ⟨o, ho⟩ : ∃ o, m.own[j] = o := ⟨_, rfl⟩
        have hk : ∀ W, Below w.heap.size w W → ∃ ob oc, W.cell? ⟨z, 1, none⟩ = some (.slice (some ⟨ob, 0, none⟩) m.own.length oc) ∧ W.cell? ⟨ob, j, none⟩ = some (.int .i64 o) := fun W hb => by
          obtain ⟨ob, oc, h1, h2⟩ := HC.out W hb
          exact ⟨ob, oc, h1, by rw [h2 j hjn, ho]⟩
        by_cases hox : o = x
        · have e : R = 0 := by
            rw [← HR.out]
            unfold hldE
            rw [if_neg hcn, if_neg]
            rintro (h1 | h1 | h1)
            · omega
            · omega
            · rw [Int.toNat_natCast, List.getElem?_eq_getElem hjn, ho, hox] at h1
              exact h1 rfl
          subst e
          obtain ⟨n, hn⟩ : ∃ n, m.own.length = n := ⟨_, rfl⟩
          rw [hn] at hk hn2
          have hjn2 : j < n := by omega
          have HK := Lib.hid hk
          subst hox
          clear hc hcn hk hn hjn ho
          go_enter Tryd.func60, Tryd.ntmps60
          go_wp2_with fail
          with_reducible refine HF.out.mono ?_
          rintro e w2 ⟨rfl, hb2⟩
          obtain ⟨ob, oc, k1, kj⟩ := HK.out w2 hb2
          go_wp2
          go_ret
          exact ⟨rfl, hb2⟩
        · have e : R = 12 := by
            rw [← HR.out]
            unfold hldE
            rw [if_neg hcn, if_pos]
            refine .inr (.inr ?_)
            rw [Int.toNat_natCast, List.getElem?_eq_getElem hjn, ho]
            simpa using hox
          subst e
          obtain ⟨n, hn⟩ : ∃ n, m.own.length = n := ⟨_, rfl⟩
          rw [hn] at hk hn2
          have hjn2 : j < n := by omega
          have HK := Lib.hid hk
          have hob : (o != x) = true := by simpa using hox
          clear hc hcn hk hn hjn ho hox
          go_enter Tryd.func60, Tryd.ntmps60
          go_wp2_with fail
          with_reducible refine HF.out.mono ?_
          rintro e w2 ⟨rfl, hb2⟩
          obtain ⟨ob, oc, k1, kj⟩ := HK.out w2 hb2
          go_wp2
          go_ret
          exact ⟨rfl, hb2⟩
      · have e : R = 12 := by rw [← HR.out]; unfold hldE; rw [if_neg hcn, if_pos (.inr (.inl (by omega)))]
        subst e
        have hk : ∀ W, Below w.heap.size w W → ∃ ob oc, W.cell? ⟨z, 1, none⟩ = some (.slice (some ⟨ob, 0, none⟩) m.own.length oc) := fun W hb => by
          obtain ⟨ob, oc, h1, _⟩ := HC.out W hb
          exact ⟨ob, oc, h1⟩
        obtain ⟨n, hn⟩ : ∃ n, m.own.length = n := ⟨_, rfl⟩
        rw [hn] at hk hn2
        have hjn2 : ¬ j < n := by omega
        have HK := Lib.hid hk
        clear hc hcn hk hn hjn
        go_enter Tryd.func60, Tryd.ntmps60
        go_wp2_with fail
        with_reducible refine HF.out.mono ?_
        rintro e w2 ⟨rfl, hb2⟩
        obtain ⟨ob, oc, k1⟩ := HK.out w2 hb2
        go_wp2
        go_ret
        exact ⟨rfl, hb2⟩
set_option maxRecDepth 100000 in
set_option maxHeartbeats 1000000 in
theorem rplace_c (x b at' : Int) (w : World) (h : RI w z L m) :
    Calls Tryd.prog 30 #[.pointer (some ⟨z, 0, none⟩), .int .i64 x, .int .i64 b, .int .i64 at'] w fun e w' => e = .returned (.int .i64 (plcE m x b at')) ∧ Below w.heap.size w w' := by
  have hh := rholds_c x b w h
  have hs2 := h.ok.s2
  have hcell : ∀ W, Below w.heap.size w W → W.cell? ⟨z, 0, none⟩ = some (.int .i64 (m.size : Int)) := fun W hb => by
    obtain ⟨ob, oc, bb, bc, aa, ak, G, h1, _⟩ := (h.below hb).ex
    exact cell_block h1.hp 0
  obtain ⟨R, hR⟩ : ∃ R, plcE m x b at' = R := ⟨_, rfl⟩
  obtain ⟨S, hS⟩ : ∃ S, hldE m x b = S := ⟨_, rfl⟩
  obtain ⟨sz, hsz⟩ : ∃ sz, m.size = sz := ⟨_, rfl⟩
  have hRR : R = if S ≠ 0 then S else if at' < 0 ∨ (sz : Int) ≤ at' then 1 else 0 := by rw [← hR, ← hS, ← hsz]; rfl
  rw [hR]
  rw [hS] at hh
  rw [hsz] at hcell hs2
  have HH := Lib.hid hh
  have HC := Lib.hid hcell
  clear h hcell hR hS hh hsz
  by_cases hS0 : S = 0
  · subst hS0
    rw [if_neg (by simp)] at hRR
    by_cases ha : at' < 0
    · rw [if_pos (.inl ha)] at hRR
      subst hRR
      go_enter Tryd.func30, Tryd.ntmps30
      go_wp2_with fail
      with_reducible refine HH.out.mono ?_
      rintro e w2 ⟨rfl, hb2⟩
      have k0 := HC.out w2 hb2
      go_wp2
      go_ret
      exact ⟨rfl, hb2⟩
    · by_cases hb : (sz : Int) ≤ at'
      · rw [if_pos (.inr hb)] at hRR
        subst hRR
        go_enter Tryd.func30, Tryd.ntmps30
        go_wp2_with fail
        with_reducible refine HH.out.mono ?_
        rintro e w2 ⟨rfl, hb2⟩
        have k0 := HC.out w2 hb2
        go_wp2
        go_ret
        exact ⟨rfl, hb2⟩
      · rw [if_neg (by omega)] at hRR
        subst hRR
        go_enter Tryd.func30, Tryd.ntmps30
        go_wp2_with fail
        with_reducible refine HH.out.mono ?_
        rintro e w2 ⟨rfl, hb2⟩
        have k0 := HC.out w2 hb2
        go_wp2
        go_ret
        exact ⟨rfl, hb2⟩
  · rw [if_pos hS0] at hRR
    subst hRR
    have hsb : (R != 0) = true := by simpa using hS0
    clear hS0
    go_enter Tryd.func30, Tryd.ntmps30
    go_wp2_with fail
    with_reducible refine HH.out.mono ?_
    rintro e w2 ⟨rfl, hb2⟩
    go_wp2
    go_ret
    exact ⟨rfl, hb2⟩
/-- The model behind a buffer's new owner. -/
theorem RB.give (h : RB w z ob oc bb bc aa ak G m) {i : Nat} (v : Int) : RB (w.setCell ⟨ob, i, none⟩ (.int .i64 v)) z ob oc bb bc aa ak G { m with own := m.own.set i v } := by
  have hnd := h.nd
  have hM : Mod [ob] w (w.setCell ⟨ob, i, none⟩ (.int .i64 v)) := (Mod.refl [ob] w).setCell (.inl (by simp)) _
  have e1 : (i64s m.own).set i (.int .i64 v) = i64s (m.own.set i v) := by simp [i64s, List.map_set]
  have hno : ∀ k, k ≠ ob → k ∉ [ob] := fun k hk => by simpa using hk
  rw [List.nodup_cons, List.nodup_cons] at hnd
  have h1 : z ≠ ob := fun e => hnd.1 (by rw [e]; simp)
  have h2 : ∀ k ∈ bb :: (sb aa ++ G), k ≠ ob := fun k hk e => hnd.2.1 (e ▸ hk)
  have ho := h.ho.set i (.int .i64 v)
  rw [e1] at ho
  refine ⟨?_, ho, h.ock, h.hb.mod hM (hno _ (h2 bb (by simp))), h.bck, h.ha.mod hM (fun q hq => hno _ (h2 _ (by subst hq; simp [sb]))), h.al, h.akk, h.an, fun k hk => Nat.lt_of_lt_of_le (h.ab k hk) hM.size, by simpa using h.hG, fun j g x h3 h4 => (h.hg j g x h3 h4).mod hM (hno _ (h2 _ (by simp [List.mem_of_getElem? h3]))), fun g hg => Nat.lt_of_lt_of_le (h.hl g hg) hM.size, h.nd⟩
  simp only [List.length_set]
  exact (hM.block z (block_lt h.hp) (hno _ h1)).trans h.hp
set_option maxRecDepth 100000 in
set_option maxHeartbeats 1000000 in
theorem rgive_c (x b : Int) (w : World) (h : RI w z L m) :
    Calls Tryd.prog 29 #[.pointer (some ⟨z, 0, none⟩), .int .i64 x, .int .i64 b] w fun e w' => e = .returned (.int .i64 (hldE m x b)) ∧ RI w' z L (giv m x b) ∧ Mod L w w' := by
  have hh := rholds_c x b w h
  by_cases h0 : hldE m x b = 0
  · rw [h0] at hh ⊢
    obtain ⟨c, hc, hb0, hi, hoi⟩ := hldE_zero h0
    obtain ⟨i, rfl⟩ : ∃ i : Nat, b = (i : Int) := ⟨b.toNat, by omega⟩
    simp only [Int.toNat_natCast] at hi hoi
    have hmd : giv m x (i : Int) = { m with own := m.own.set i (-1) } := by unfold giv; rw [if_pos h0, Int.toNat_natCast]
    have hall : ∀ W, Below w.heap.size w W → ∃ ob oc v, W.cell? ⟨z, 1, none⟩ = some (.slice (some ⟨ob, 0, none⟩) m.own.length oc) ∧ W.cell? ⟨ob, i, none⟩ = some v ∧ W.frozen? ⟨ob, i, none⟩ = false ∧ RI (W.setCell ⟨ob, i, none⟩ (.int .i64 (-1))) z L (giv m x (i : Int)) ∧ Mod L w (W.setCell ⟨ob, i, none⟩ (.int .i64 (-1))) := fun W hb => by
      obtain ⟨ob, oc, bb, bc, aa, ak, G, h1, hL⟩ := (h.below hb).ex
      refine ⟨ob, oc, _, cell_block h1.hp 1, h1.ho.cell i (by rw [ints_len]; exact hi), h1.ho.fr i, ⟨⟨ob, oc, bb, bc, aa, ak, G, by rw [hmd]; exact h1.give (-1), hL⟩, giv_ok h.ok x i⟩, (Mod.of_below hb L).setCell (.inl (by rw [hL]; simp)) _⟩
    have hn2 := h.ok.n2
    obtain ⟨n, hn⟩ : ∃ n, m.own.length = n := ⟨_, rfl⟩
    rw [hn] at hall hn2
    have hin : i < n := by omega
    have HA := Lib.hid hall
    have HH := Lib.hid hh
    clear h hh h0 hc hb0 hoi hmd hall hn
    go_enter Tryd.func29, Tryd.ntmps29
    go_wp2_with fail
    with_reducible refine HH.out.mono ?_
    rintro e w2 ⟨rfl, hb2⟩
    obtain ⟨ob, oc, v, k1, k2, k3, hR, hM⟩ := HA.out w2 hb2
    have HF := Lib.hid (And.intro hR hM)
    clear hR hM HA
    go_wp2
    go_ret
    exact ⟨rfl, HF.out⟩
  · have hmd : giv m x b = m := by unfold giv; rw [if_neg h0]
    rw [hmd]
    have hI := fun W (hb : Below w.heap.size w W) => And.intro (h.below hb) (Mod.of_below hb L)
    have hsb : (hldE m x b != 0) = true := by simpa using h0
    generalize hldE m x b = S at *
    have HH := Lib.hid hh
    have HI := Lib.hid hI
    clear hh hI h h0 hmd
    go_enter Tryd.func29, Tryd.ntmps29
    go_wp2_with fail
    with_reducible refine HH.out.mono ?_
    rintro e w2 ⟨rfl, hb2⟩
    go_wp2
    go_ret
    exact ⟨rfl, HI.out w2 hb2⟩
end Po
end Go.Proofs.YtpjimmdpcpcmoaaDoor
