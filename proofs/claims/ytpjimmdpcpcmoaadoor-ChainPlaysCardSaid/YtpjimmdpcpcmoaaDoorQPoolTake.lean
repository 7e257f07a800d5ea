import Derived.Test.YtpjimmdpcpcmoaaDoorQPoolAct
import Derived.Deep.OwnRows
import Derived.BigRegion
/- The walks of package pool: Take. Conditions: the sentinels, and the table of TrailingZeros64, read as laid. -/
namespace Go.Proofs.YtpjimmdpcpcmoaaDoor
open Go Go.RowKit Kt
namespace Po
variable {w w' : World} {p ob oc bb mz mg mb : Nat} {A : List (Int × Int × Nat)} {G : List (Option Nat)} {m : Md} {L : List Nat}
theorem fr_getD (own : List Int) (i : Nat) : (fr own).getD i false = true ↔ ∃ h : i < own.length, own[i] < 0 := by
  unfold fr
  rw [List.getD_eq_getElem?_getD, List.getElem?_map]
  by_cases h : i < own.length
  · rw [List.getElem?_eq_getElem h]
    simp [h]
  · rw [List.getElem?_eq_none (by omega)]
    simp [h]
def freeI (own : List Int) : Int := match free1 own with
  | none => -1
  | some i => (i : Int)
theorem aft_free (own : List Int) : Mk.aft (fr own) (-1) = freeI own := by
  unfold freeI
  cases hf : free1 own with
  | none =>
    refine Mk.aft_none fun q _ => ?_
    rw [Bool.eq_false_iff]
    intro h
    obtain ⟨h1, h2⟩ := (fr_getD own q).1 h
    have := free1_none hf _ (List.getElem_mem h1)
    omega
  | some i =>
    obtain ⟨hi, h1, h2⟩ := free1_some hf
    refine Mk.aft_some ((fr_getD own i).2 ⟨hi, h1⟩) (by omega) fun q hq _ => ?_
    rw [Bool.eq_false_iff]
    intro h
    obtain ⟨h3, h4⟩ := (fr_getD own q).1 h
    have := h2 q hq
    omega
theorem fr_held (own : List Int) (i : Nat) (x : Int) (hx : 0 ≤ x) : (fr own).set i false = fr (own.set i x) := by
  unfold fr
  rw [List.map_set]
  congr 1
  simpa using hx
theorem fr_free (own : List Int) (i : Nat) : (fr own).set i true = fr (own.set i (-1)) := by
  unfold fr
  rw [List.map_set]
  rfl
set_option maxRecDepth 100000 in
set_option maxHeartbeats 1000000 in
theorem take_no (E : Nat → Addr) (x : Int) (hx : (Lit.int .i64 x).wf = true) (w : World) (h : PI w p L m) (hT : Bt.Tab w) (hs : Sent 169 w E Er.egs) (he : takE m x ≠ 0) :
    Calls Tryd.prog 13 #[.pointer (some ⟨p, 0, none⟩), .int .i64 x] w fun e w' => e = .returned (.tuple #[.int .i64 0, ee E (takE m x)]) ∧ Below w.heap.size w w' := by
  obtain ⟨ob, oc, bb, mz, mg, mb, A, G, hb, rfl⟩ := h.ex
  have k3 := cell_block hb.hp 3
  have k2 := cell_block hb.hp 2
  have hl := hb.look x hx
  have haf := Mk.after_m (-1) w hb.hm hT
  rw [aft_free] at haf
  have g15 : w.cell? ⟨3, 0, none⟩ = some (ee E 15) := sentc hs 15 (by decide) (by decide)
  have g14 : w.cell? ⟨5, 0, none⟩ = some (ee E 14) := sentc hs 14 (by decide) (by decide)
  have g13 : w.cell? ⟨2, 0, none⟩ = some (ee E 13) := sentc hs 13 (by decide) (by decide)
  obtain ⟨e15, h15⟩ : ∃ v, ee E 15 = v := ⟨_, rfl⟩
  obtain ⟨e14, h14⟩ : ∃ v, ee E 14 = v := ⟨_, rfl⟩
  obtain ⟨e13, h13⟩ : ∃ v, ee E 13 = v := ⟨_, rfl⟩
  rw [h15] at g15
  rw [h14] at g14
  rw [h13] at g13
  have H15 := Lib.hid h15
  have H14 := Lib.hid h14
  have H13 := Lib.hid h13
  have HAf := Lib.hid haf
  clear h15 h14 h13 hs haf hT
  cases hc : crd m.acc x with
  | none =>
    have hv : takE m x = 15 := by unfold takE; rw [hc]
    rw [hv, H15.out]
    rw [(hb.lk_iff x).2 hc] at hl
    simp only [pv, Option.isSome_none] at hl
    clear hb h hc hx hv he
    generalize freeI m.own = fi at *
    go_enter Tryd.func13, Tryd.ntmps13
    go_wp2_with (go_at_call 49; (with_reducible refine HAf.out.mono ?_); rintro e w2 ⟨rfl, rfl⟩)
    go_quiet (fail)
    go_wp2
    go_ret2
    exact ⟨rfl, below_drewN (Below.refl _ _) _⟩
  | some c =>
    obtain ⟨bk, e1, e2⟩ := hb.acct hc
    rw [e1] at hl
    simp only [pv, Option.isSome_some] at hl
    have k1 := cell_block (hb.ha _ e2) 1
    have kc := cell_block (hb.ha _ e2) 0
    simp only at k1 kc
    obtain ⟨H, hH⟩ : ∃ H : Int, (held m.own x : Int) = H := ⟨_, rfl⟩
    rw [hH] at k1
    have HA := Lib.hid (fun nq => At.load_c bk 1 H (w.drewN nq) k1)
    by_cases hch : c ≤ H
    · have hv : takE m x = 14 := by unfold takE; rw [hc]; simp only; rw [hH, if_pos hch]
      rw [hv, H14.out]
      have hd : decide (c ≤ H) = true := by simpa using hch
      clear hb h hc hx hv he e1 e2 hH
      generalize freeI m.own = fi at *
      go_enter Tryd.func13, Tryd.ntmps13
      go_wp2_with (go_at_call 49; (with_reducible refine HAf.out.mono ?_); rintro e w2 ⟨rfl, rfl⟩)
      go_quiet ((go_at_call 48; exact Calls.quiet_of_same ((HA.out _).mono fun _ _ ⟨h1, h2⟩ => ⟨h1, h2.symm⟩)))
      go_wp2
      go_quiet (fail)
      go_wp2
      go_ret2
      exact ⟨rfl, below_drewN (below_drewN (Below.refl _ _) _) _⟩
    · have hf : free1 m.own = none := by
        cases hf : free1 m.own with
        | none => rfl
        | some i => exfalso; apply he; unfold takE; rw [hc]; simp only; rw [hH, if_neg hch, hf]; rfl
      have hv : takE m x = 13 := by unfold takE; rw [hc]; simp only; rw [hH, if_neg hch, hf]; rfl
      rw [hv, H13.out]
      have hfi : freeI m.own = -1 := by unfold freeI; rw [hf]
      rw [hfi] at HAf
      have hd : decide (c ≤ H) = false := by simpa using hch
      clear hb h hc hx hv he e1 e2 hH hfi hf
      go_enter Tryd.func13, Tryd.ntmps13
      go_wp2_with (go_at_call 49; (with_reducible refine HAf.out.mono ?_); rintro e w2 ⟨rfl, rfl⟩)
      go_quiet ((go_at_call 48; exact Calls.quiet_of_same ((HA.out _).mono fun _ _ ⟨h1, h2⟩ => ⟨h1, h2.symm⟩)))
      go_wp2
      go_quiet (fail)
      go_wp2
      go_ret2
      exact ⟨rfl, below_drewN (below_drewN (Below.refl _ _) _) _⟩
theorem inj_map {α β : Type} {f : α → β} : ∀ {l : List α} {a b : α}, (l.map f).Nodup → a ∈ l → b ∈ l → f a = f b → a = b
  | [], _, _, _, h, _, _ => by cases h
  | y :: l, a, b, hn, h, h', e => by
    rw [List.map_cons, List.nodup_cons] at hn
    rcases List.mem_cons.1 h with h1 | h1
    · rcases List.mem_cons.1 h' with h2 | h2
      · rw [h1, h2]
      · exact absurd (List.mem_map.2 ⟨b, h2, by rw [← e, h1]⟩) hn.1
    · rcases List.mem_cons.1 h' with h2 | h2
      · exact absurd (List.mem_map.2 ⟨a, h1, by rw [e, h2]⟩) hn.1
      · exact inj_map hn.2 h1 h2 e
/-- The state behind a buffer's new owner. -/
theorem PB.turn (h : PB w p ob oc bb mz mg mb A G m) {W : World} {i : Nat} (hi : i < m.own.length) {v : Int} {o' : Option Nat} {cont' : List (List UInt8)} {x c : Int} {bk : Nat} (e2 : (x, c, bk) ∈ A)
    (hh : ∀ y, y ≠ x → held (m.own.set i v) y = held m.own y)
    (hp4 : W.heap[p]? = some (.cells #[.slice (some ⟨bb, 0, none⟩) m.own.length m.own.length, .slice (some ⟨ob, 0, none⟩) m.own.length oc, .pointer (some ⟨mz, 0, none⟩), .map (some mb), .int .i64 (m.size : Int), .int .i64 (used (m.own.set i v) : Int)] 96 (0, 0)))
    (ho4 : Rx W ob 3 oc (i64s (m.own.set i v))) (hb4 : Rx W bb 54 m.own.length ((G.set i o').map (gv m.size))) (hm4 : Mk.MI W mz mg (fr (m.own.set i v)))
    (hk4 : W.heap[bk]? = some (.cells #[.int .i64 c, .int .i64 (held (m.own.set i v) x : Int)] 101 (0, 0)))
    (hg4 : Bu W (m.own.set i v) cont' m.size (G.set i o') i) (hc' : ∀ j, j ≠ i → cont'[j]? = m.cont[j]?) (hM : Mod [p, ob, bb, mg, bk] w W)
    (hnd : (p :: ob :: bb :: mz :: mg :: mb :: (ab A ++ (G.set i o').filterMap id)).Nodup) :
    PB W p ob oc bb mz mg mb A (G.set i o') { m with own := m.own.set i v, cont := cont' } := by
  have ap := h.ap
  have hxx := ap.x
  simp only [List.nodup_cons, List.mem_cons, List.not_mem_nil, or_false, not_or] at hxx
  have hbk := ap.a bk (List.mem_map.2 ⟨_, e2, rfl⟩)
  have hns : ∀ k, k ≠ p → k ≠ ob → k ≠ bb → k ≠ mg → k ≠ bk → k ∉ [p, ob, bb, mg, bk] := fun k h1 h2 h3 h4 h5 => by simp [h1, h2, h3, h4, h5]
  refine ⟨by simpa using hp4, ho4, h.oc, by simpa using hb4, hm4, h.hM.mod hM (hns mb (by omega) (by omega) (by omega) (by omega) (by omega)), h.hA, fun a ha => ?_, by simpa using h.hG, fun j hj => ?_, hnd⟩
  · by_cases hab : a.2.2 = bk
    · have := ab_inj ap.na ha e2 hab
      subst this
      exact hk4
    · have hka := ap.a a.2.2 (List.mem_map.2 ⟨a, ha, rfl⟩)
      have hax : a.1 ≠ x := by
        intro e
        have hn := h.hM.nd
        rw [List.map_map] at hn
        have := inj_map hn ha e2 (by simpa using e)
        rw [this] at hab
        exact hab rfl
      simp only
      rw [hh _ hax]
      exact (hM.block _ (block_lt (h.ha a ha)) (hns _ (by omega) (by omega) (by omega) (by omega) hab)).trans (h.ha a ha)
  · simp only [List.length_set] at hj
    by_cases hji : j = i
    · subst hji; exact hg4
    · rcases h.hg j hj with ⟨h1, o, h2, h3⟩ | ⟨g, o, y, h1, h2, h3, h4, h5⟩
      · exact .inl ⟨by rw [List.getElem?_set_ne (fun e => hji e.symm)]; exact h1, o, by rw [List.getElem?_set_ne (fun e => hji e.symm)]; exact h2, h3⟩
      · have hkg := ap.g g (mem_gs h1)
        exact .inr ⟨g, o, y, by rw [List.getElem?_set_ne (fun e => hji e.symm)]; exact h1, by rw [List.getElem?_set_ne (fun e => hji e.symm)]; exact h2, h3, by rw [hc' j hji]; exact h4,
          h5.mod hM (hns g (by omega) (by omega) (by omega) (by omega) (fun e => hbk.2.2.2.2.2.2 (e ▸ mem_gs h1)))⟩
theorem made_zero (z : Nat) : madeCells #[Value.int .u8 0] z = (u8s (List.replicate z 0)).toArray := by
  apply Array.toList_inj.1
  rw [toList_madeCells_one]
  simp [u8s]
end Po
end Go.Proofs.YtpjimmdpcpcmoaaDoor
