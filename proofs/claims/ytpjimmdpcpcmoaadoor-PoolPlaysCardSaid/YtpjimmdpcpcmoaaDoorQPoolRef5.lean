/- The model's pool (dofferref30): Open's walk. -/
import Derived.Test.YtpjimmdpcpcmoaaDoorQPoolRef4
namespace Go.Proofs.YtpjimmdpcpcmoaaDoor
open Go Go.RowKit Kt
namespace Po
variable {w w' : World} {z ob oc bb bc ak : Nat} {aa : Option Addr} {G : List Nat} {m : Md} {L : List Nat}
theorem fndI_ge {acc : List (Int × Int)} {x : Int} (h : (crd acc x).isSome = true) : 0 ≤ fndI acc x := by
  obtain ⟨c, hc⟩ := Option.isSome_iff_exists.1 h
  obtain ⟨i, _, hi⟩ := fndI_some hc
  omega
set_option maxRecDepth 100000 in
set_option maxHeartbeats 2000000 in
theorem ropen_c (x c : Int) (w : World) (h : RI w z L m) :
    Calls Tryd.prog 26 #[.pointer (some ⟨z, 0, none⟩), .int .i64 x, .int .i64 c] w fun e w' => ∃ L', e = .returned (.int .i64 (opnE m x c)) ∧ RI w' z L' (opn m x c) ∧ Mod L w w' ∧ Fr L' L w.heap.size := by
  have hf := rfind_c x w h
  have hok := h.ok
  have hn2 := h.ok.n2
  have ha1 := h.ok.a1
  have hsame : opnE m x c ≠ 0 → opn m x c = m := fun he => by unfold opn; rw [if_neg he]
  obtain ⟨ob, oc, bb, bc, aa, ak, G, hb, rfl⟩ := h.ex
  have k1 := cell_block hb.hp 1
  have hI := fun W (hB : Below w.heap.size w W) => And.intro (h.below hB) (Mod.of_below hB (z :: ob :: bb :: (sb aa ++ G)))
  have HI := Lib.hid hI
  obtain ⟨n, hn⟩ : ∃ n, m.own.length = n := ⟨_, rfl⟩
  obtain ⟨na, hna⟩ : ∃ na, m.acc.length = na := ⟨_, rfl⟩
  obtain ⟨F, hF⟩ : ∃ F, fndI m.acc x = F := ⟨_, rfl⟩
  obtain ⟨R, hR⟩ : ∃ R, opnE m x c = R := ⟨_, rfl⟩
  have hR2 : R = if x < 0 ∨ c < 1 ∨ (n : Int) < c then 1 else if (crd m.acc x).isSome then 6 else if 64 ≤ na then 13 else 0 := by rw [← hR, ← hn, ← hna]; rfl
  rw [hn] at k1 hn2
  rw [hna] at ha1
  rw [hF] at hf
  rw [hR]
  have HF := Lib.hid hf
  have hk3 : ∀ W, Below w.heap.size w W → W.cell? ⟨z, 3, none⟩ = some (.slice aa na ak) := fun W hB => by
    have h1 := (hb.mod (Mod.of_below hB []) (by simp)).hp
    rw [hna] at h1
    exact cell_block h1 3
  have HK3 := Lib.hid hk3
  have hnab : (decide (64 ≤ (na : Int))) = decide (64 ≤ na) := by simp; omega
  by_cases hg : x < 0 ∨ c < 1 ∨ (n : Int) < c
  · rw [if_pos hg] at hR2
    subst hR2
    rw [hsame (by omega)]
    have hfin := hI w (Below.refl _ _)
    have HFin := Lib.hid hfin
    clear h hf hok hsame hb hI hn hna hF hR hk3 hnab hfin
    by_cases h1 : x < 0
    · go_enter Tryd.func26, Tryd.ntmps26
      go_wp2
      go_ret
      first | exact ⟨_, rfl, HFin.out.1, HFin.out.2, Fr.refl _ _⟩ | exact ⟨rfl, _, HFin.out.1, HFin.out.2, Fr.refl _ _⟩
    · by_cases h2 : c < 1
      · go_enter Tryd.func26, Tryd.ntmps26
        go_wp2
        go_ret
        first | exact ⟨_, rfl, HFin.out.1, HFin.out.2, Fr.refl _ _⟩ | exact ⟨rfl, _, HFin.out.1, HFin.out.2, Fr.refl _ _⟩
      · have h3 : (n : Int) < c := by omega
        go_enter Tryd.func26, Tryd.ntmps26
        go_wp2
        go_ret
        first | exact ⟨_, rfl, HFin.out.1, HFin.out.2, Fr.refl _ _⟩ | exact ⟨rfl, _, HFin.out.1, HFin.out.2, Fr.refl _ _⟩
  · rw [if_neg hg] at hR2
    have g1 : ¬ x < 0 := fun h => hg (.inl h)
    have g2 : ¬ c < 1 := fun h => hg (.inr (.inl h))
    have g3 : ¬ (n : Int) < c := fun h => hg (.inr (.inr h))
    by_cases hd : (crd m.acc x).isSome = true
    · rw [if_pos hd] at hR2
      subst hR2
      rw [hsame (by omega)]
      have h0 : 0 ≤ F := by rw [← hF]; exact fndI_ge hd
      clear h hf hok hsame hb hI hn hna hF hR hk3 hnab hg hd
      go_enter Tryd.func26, Tryd.ntmps26
      go_wp2_with (go_at_call 58; (with_reducible refine HF.out.mono ?_); rintro e w2 ⟨rfl, hb2⟩)
      go_ret
      exact ⟨_, rfl, (HI.out w2 hb2).1, (HI.out w2 hb2).2, Fr.refl _ _⟩
    · rw [if_neg hd] at hR2
      have h0 : F = -1 := by rw [← hF]; exact fndI_none (by simpa using hd)
      subst h0
      by_cases h64 : 64 ≤ na
      · rw [if_pos h64] at hR2
        subst hR2
        rw [hsame (by omega)]
        clear h hf hok hsame hb hI hn hna hF hR hk3 hnab hg hd
        go_enter Tryd.func26, Tryd.ntmps26
        go_wp2_with (go_at_call 58; (with_reducible refine HF.out.mono ?_); rintro e w2 ⟨rfl, hb2⟩; have k3 := HK3.out w2 hb2)
        go_ret
        exact ⟨_, rfl, (HI.out w2 hb2).1, (HI.out w2 hb2).2, Fr.refl _ _⟩
      · rw [if_neg h64] at hR2
        subst hR2
        have HB := Lib.hid hb
        have HN := Lib.hid (And.intro hna (And.intro hok hR))
        clear h hf hok hsame hb hI hn hna hF hR hk3 hnab hg hd
        go_enter Tryd.func26, Tryd.ntmps26
        go_wp2_with fail
        with_reducible refine HF.out.mono ?_
        rintro e w2 ⟨rfl, hb2⟩
        have hb3 := HB.out.mod (Mod.of_below hb2 []) (by simp)
        obtain ⟨a1, c1, w3, av, c2, w4, r1, r2, o4, b3, b4⟩ := app2a w2 aa na ak m.acc (x, c) HN.out.1 hb3.ha hb3.an (by omega)
        have hzl := block_lt hb3.hp
        have e2 := hb3.hp
        rw [HN.out.1] at e2
        have e3 := (b3.block z hzl).trans e2
        have e4 := (b4.block z hzl).trans e2
        have k3 := cell_block e2 3
        have k3a := cell_block (block_alloc (x := .cells #[] 114) e2) 3
        have k4 := cell_block e4 3
        have f4 := frozen_block e4 3
        have hfin := hb3.accs (acc' := m.acc ++ [(x, c)]) (by simp [HN.out.1]) o4 b4
        have hmd : opn m x c = { m with acc := m.acc ++ [(x, c)] } := by unfold opn; rw [if_pos HN.out.2.2]
        have hsz := hb2.size
        have hall : ∃ L', RI (w4.setCell ⟨z, 3, none⟩ (.slice av (na + 1) c2)) z L' (opn m x c) ∧ Mod (z :: ob :: bb :: (sb aa ++ G)) w (w4.setCell ⟨z, 3, none⟩ (.slice av (na + 1) c2)) ∧ Fr L' (z :: ob :: bb :: (sb aa ++ G)) w.heap.size :=
          ⟨_, ⟨⟨ob, oc, bb, bc, av, c2, G, by rw [hmd]; exact hfin.1, rfl⟩, opn_ok HN.out.2.1 x c⟩, (Mod.of_below hb2 _).trans hfin.2.1 (fun k hk => .inl (by simp only [List.mem_singleton] at hk; subst hk; simp)), fun k hk => (hfin.2.2 k hk).imp id (fun h => by omega)⟩
        have HA := Lib.hid hall
        clear hall hfin hmd e2 e3 e4 hb3 HB HN HI HK3 HF b3 b4 o4 hb2 hzl k1
        go_wp2_with (first | (at_builtin; (with_reducible apply wpList_append_run r1); rfl; rfl; rfl; rfl; rfl) | (at_builtin; (with_reducible apply wpList_append_run r2); rfl; rfl; rfl; rfl; rfl))
        go_ret
        obtain ⟨L', f1, f2, f3⟩ := HA.out
        exact ⟨L', rfl, f1, f2, f3⟩
end Po
end Go.Proofs.YtpjimmdpcpcmoaaDoor
