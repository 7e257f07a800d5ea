import Derived.Test.YtpjimmdpcpcmoaaDoorQPoolHold
/- The walks of package pool: At, Set. Condition: the sentinels read as laid. -/
namespace Go.Proofs.YtpjimmdpcpcmoaaDoor
open Go Go.RowKit Kt
namespace Po
variable {w w' : World} {p ob oc bb mz mg mb : Nat} {A : List (Int × Int × Nat)} {G : List (Option Nat)} {m : Md} {L : List Nat}
/-! ### The blocks are apart -/
theorem gs_inj : ∀ {G : List (Option Nat)} {i j g : Nat}, (G.filterMap id).Nodup → G[i]? = some (some g) → G[j]? = some (some g) → i = j
  | [], i, _, _, _, h, _ => by simp at h
  | o :: G, 0, 0, _, _, _, _ => rfl
  | o :: G, 0, j + 1, g, hn, h1, h2 => by
    simp only [List.getElem?_cons_zero, Option.some.injEq] at h1
    subst h1
    have hn : (g :: G.filterMap id).Nodup := hn
    rw [List.nodup_cons] at hn
    exact absurd (mem_gs (by simpa using h2)) hn.1
  | o :: G, i + 1, 0, g, hn, h1, h2 => by
    simp only [List.getElem?_cons_zero, Option.some.injEq] at h2
    subst h2
    have hn : (g :: G.filterMap id).Nodup := hn
    rw [List.nodup_cons] at hn
    exact absurd (mem_gs (by simpa using h1)) hn.1
  | o :: G, i + 1, j + 1, g, hn, h1, h2 => by
    have hn' : (G.filterMap id).Nodup := by
      cases o with
      | none => exact hn
      | some y =>
        have hn : (y :: G.filterMap id).Nodup := hn
        rw [List.nodup_cons] at hn
        exact hn.2
    exact congrArg (· + 1) (gs_inj (i := i) (j := j) hn' (by simpa using h1) (by simpa using h2))
theorem ab_inj : ∀ {A : List (Int × Int × Nat)} {a a' : Int × Int × Nat}, (ab A).Nodup → a ∈ A → a' ∈ A → a.2.2 = a'.2.2 → a = a'
  | [], _, _, _, h, _, _ => by cases h
  | y :: A, a, a', hn, h, h', e => by
    rw [ab, List.map_cons, List.nodup_cons] at hn
    rcases List.mem_cons.1 h with h1 | h1
    · rcases List.mem_cons.1 h' with h2 | h2
      · rw [h1, h2]
      · exact absurd (show y.2.2 ∈ A.map (fun a => a.2.2) from List.mem_map.2 ⟨a', h2, by rw [← e, h1]⟩) hn.1
    · rcases List.mem_cons.1 h' with h2 | h2
      · exact absurd (show y.2.2 ∈ A.map (fun a => a.2.2) from List.mem_map.2 ⟨a, h1, by rw [e, h2]⟩) hn.1
      · exact ab_inj hn.2 h1 h2 e
structure Ap (p ob bb mz mg mb : Nat) (A : List (Int × Int × Nat)) (G : List (Option Nat)) : Prop where
  g : ∀ k ∈ G.filterMap id, k ≠ p ∧ k ≠ ob ∧ k ≠ bb ∧ k ≠ mz ∧ k ≠ mg ∧ k ≠ mb ∧ k ∉ ab A
  a : ∀ k ∈ ab A, k ≠ p ∧ k ≠ ob ∧ k ≠ bb ∧ k ≠ mz ∧ k ≠ mg ∧ k ≠ mb ∧ k ∉ G.filterMap id
  x : [p, ob, bb, mz, mg, mb].Nodup
  na : (ab A).Nodup
  ng : (G.filterMap id).Nodup
theorem PB.ap (h : PB w p ob oc bb mz mg mb A G m) : Ap p ob bb mz mg mb A G := by
  have hn : ([p, ob, bb, mz, mg, mb] ++ (ab A ++ G.filterMap id)).Nodup := h.nd
  rw [List.nodup_append] at hn
  obtain ⟨h1, h2, h3⟩ := hn
  rw [List.nodup_append] at h2
  obtain ⟨h4, h5, h6⟩ := h2
  refine ⟨fun k hk => ?_, fun k hk => ?_, h1, h4, h5⟩
  · have h7 := fun y hy => h3 y hy k (List.mem_append_right _ hk)
    exact ⟨fun e => h7 p (by simp) e.symm, fun e => h7 ob (by simp) e.symm, fun e => h7 bb (by simp) e.symm, fun e => h7 mz (by simp) e.symm, fun e => h7 mg (by simp) e.symm, fun e => h7 mb (by simp) e.symm, fun e => h6 k e k hk rfl⟩
  · have h7 := fun y hy => h3 y hy k (List.mem_append_left _ hk)
    exact ⟨fun e => h7 p (by simp) e.symm, fun e => h7 ob (by simp) e.symm, fun e => h7 bb (by simp) e.symm, fun e => h7 mz (by simp) e.symm, fun e => h7 mg (by simp) e.symm, fun e => h7 mb (by simp) e.symm, fun e => h6 k hk k e rfl⟩
/-! ### At -/
set_option maxRecDepth 100000 in
set_option maxHeartbeats 1000000 in
theorem at_yes (E : Nat → Addr) (x b at' : Int) (hx : (Lit.int .i64 x).wf = true) (w : World) (h : PI w p L m) (hs : Sent 169 w E Er.egs) (he : plcE m x b at' = 0) :
    Calls Tryd.prog 32 #[.pointer (some ⟨p, 0, none⟩), .int .i64 x, .int .i64 b, .int .i64 at'] w fun e w' => e = .returned (.tuple #[.int .u8 ((get m x b at').toNat : Int), .nilIface]) ∧ Below w.heap.size w w' := by
  obtain ⟨ob, oc, bb, mz, mg, mb, A, G, hb, hL⟩ := h.ex
  obtain ⟨j, i, g, hj, ys, hi, rfl, rfl, him, _, hys, hyl, kb, _, kc⟩ := hb.byte_at h.ok he
  have hget : get m x j i = ys[i] := by
    unfold get
    rw [if_pos he, Int.toNat_natCast, Int.toNat_natCast, show m.cont.getD j [] = ys by rw [List.getD_eq_getElem?_getD, hys]; rfl, List.getD_eq_getElem?_getD, List.getElem?_eq_getElem hi]
    rfl
  rw [hget]
  have hh := byte_yes (bb := bb) E x j i g m.size m.own.length hx w h hs he (cell_block hb.hp 0) rfl hj rfl him kb (cell_block hb.hp 4)
  generalize ys[i].toNat = c at *
  have HH := Lib.hid hh
  clear hh h hs he hb hL hget hys kb hi hyl
  go_enter Tryd.func32, Tryd.ntmps32
  go_wp2_with (go_at_call 61; (with_reducible refine HH.out.mono ?_); rintro e w2 ⟨rfl, rfl⟩)
  try go_quiet (fail)
  try go_wp2
  go_ret2
  first | exact ⟨rfl, Below.refl _ _⟩ | exact ⟨rfl, below_drewN (Below.refl _ _) _⟩
/-! ### Set -/
/-- The state behind a store into a buffer. -/
theorem PB.putd (h : PB w p ob oc bb mz mg mb A G m) (hk : Ok m) {x : Int} {j i g : Nat} {ys : List UInt8} (hj : j < m.own.length) (_hi : i < ys.length) (he : plcE m x j i = 0) (hG : G[j]? = some (some g)) (hy : m.cont[j]? = some ys) (hr : Rx w g 5 m.size (u8s ys)) (c : UInt8) :
    PB (w.setCell ⟨g, i, none⟩ (.int .u8 (c.toNat : Int))) p ob oc bb mz mg mb A G (put m x j i c) := by
  have ha := h.ap
  obtain ⟨n1, n2, n3, n4, n5, n6, n7⟩ := ha.g g (mem_gs hG)
  have hM : Mod [g] w (w.setCell ⟨g, i, none⟩ (.int .u8 (c.toNat : Int))) := (Mod.refl [g] w).setCell (.inl (by simp)) _
  have hm : put m x j i c = { m with cont := m.cont.set j (ys.set i c) } := by
    unfold put
    rw [if_pos he, Int.toNat_natCast, Int.toNat_natCast, show m.cont.getD j [] = ys by rw [List.getD_eq_getElem?_getD, hy]; rfl]
  rw [hm]
  have hns : ∀ k, k ≠ g → k ∉ [g] := fun k hk => by simpa using hk
  refine ⟨(hM.block p (block_lt h.hp) (hns p n1.symm)).trans h.hp, h.ho.mod hM (hns _ n2.symm), h.oc, h.hb.mod hM (hns _ n3.symm), h.hm.mod hM (hns _ n4.symm) (hns _ n5.symm), h.hM.mod hM (hns _ n6.symm), h.hA, fun a haA => ?_, h.hG, fun q hq => ?_, h.nd⟩
  · have hab : a.2.2 ∈ ab A := List.mem_map.2 ⟨a, haA, rfl⟩
    exact (hM.block _ (block_lt (h.ha a haA)) (hns _ (fun e => n7 (e ▸ hab)))).trans (h.ha a haA)
  · by_cases hqj : q = j
    · subst hqj
      rcases h.hg q hq with ⟨h1, _⟩ | ⟨g', o, y, h1, h2, h3, h4, h5⟩
      · rw [hG] at h1; cases h1
      · rw [hG] at h1
        simp only [Option.some.injEq] at h1
        subst h1
        refine .inr ⟨g, o, ys.set i c, hG, h2, h3, by rw [List.getElem?_set_self (by have := hk.cl; omega)], ?_⟩
        have := hr.set i (.int .u8 (c.toNat : Int))
        rw [show (u8s ys).set i (.int .u8 (c.toNat : Int)) = u8s (ys.set i c) by simp [u8s, List.map_set]] at this
        exact this
    · rcases h.hg q hq with h1 | ⟨g', o, y, h1, h2, h3, h4, h5⟩
      · exact .inl h1
      · refine .inr ⟨g', o, y, h1, h2, h3, by rw [List.getElem?_set_ne (fun e => hqj e.symm)]; exact h4, h5.mod hM (hns _ ?_)⟩
        rintro rfl
        exact hqj (gs_inj ha.ng h1 hG)
set_option maxRecDepth 100000 in
set_option maxHeartbeats 1000000 in
theorem set_yes (E : Nat → Addr) (x b at' : Int) (c : UInt8) (hx : (Lit.int .i64 x).wf = true) (w : World) (h : PI w p L m) (hs : Sent 169 w E Er.egs) (he : plcE m x b at' = 0) :
    Calls Tryd.prog 31 #[.pointer (some ⟨p, 0, none⟩), .int .i64 x, .int .i64 b, .int .i64 at', .int .u8 (c.toNat : Int)] w fun e w' => e = .returned .nilIface ∧ PI w' p L (put m x b at' c) ∧ Mod L w w' := by
  obtain ⟨ob, oc, bb, mz, mg, mb, A, G, hb, hL⟩ := h.ex
  obtain ⟨j, i, g, hj, ys, hi, rfl, rfl, him, hG, hys, hyl, kb, hr, kc⟩ := hb.byte_at h.ok he
  have hh := byte_yes (bb := bb) E x j i g m.size m.own.length hx w h hs he (cell_block hb.hp 0) rfl hj rfl him kb (cell_block hb.hp 4)
  have hfin : PI (w.setCell ⟨g, i, none⟩ (.int .u8 (c.toNat : Int))) p L (put m x j i c) := ⟨⟨ob, oc, bb, mz, mg, mb, A, G, hb.putd h.ok hj hi he hG hys hr c, hL⟩, put_ok h.ok _ _ _ _⟩
  have hMod : Mod L w (w.setCell ⟨g, i, none⟩ (.int .u8 (c.toNat : Int))) := (Mod.refl L w).setCell (.inl (by rw [hL]; have := mem_gs hG; simp [this])) _
  have kf := hr.fr i
  have HH := Lib.hid hh
  have HF := Lib.hid (And.intro hfin hMod)
  generalize c.toNat = cn at *
  generalize ys[i].toNat = yc at *
  clear hh h hs he hb hL hys kb hi hyl hfin hMod hr
  go_enter Tryd.func31, Tryd.ntmps31
  go_wp2_with (go_at_call 61; (with_reducible refine HH.out.mono ?_); rintro e w2 ⟨rfl, rfl⟩)
  go_ret
  exact ⟨rfl, HF.out⟩
end Po
end Go.Proofs.YtpjimmdpcpcmoaaDoor
