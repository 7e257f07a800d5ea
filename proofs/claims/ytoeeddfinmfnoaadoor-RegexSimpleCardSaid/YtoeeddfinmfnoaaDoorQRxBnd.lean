import Derived.Test.YtoeeddfinmfnoaaDoorQRxNum
import Derived.Deep.RegionHeld3
/- The walks of package regex's reader: bounds. -/
namespace Go.Proofs.YtoeeddfinmfnoaaDoor
namespace Kt
end Kt
namespace Sp
end Sp
namespace St
end St
namespace Bk
end Bk
namespace Bo
end Bo
open Go Go.RowKit Kt Sp St Bk Bo
open Tr (Nd)
namespace Rx
variable {w0 W W' : World} {p : Nat} {s : ByteArray} {A : Nat → Addr} {st : S}
theorem take_l (c : UInt8) (L : ByteArray) (hL : Str [c] = L) (hsz : s.size ≤ 1000000) (V : World) (h : Rr w0 V p s A st) : Calls Tryd.prog 74 #[.pointer (some ⟨p, 0, none⟩), .string L] V fun r w' => r = .returned (.bool (on s.data.toList st [c])) ∧ Rr w0 w' p s A (takeS s.data.toList st c) ∧ Mod [p] V w' := by
  rw [← hL]
  exact take_c c hsz h
theorem on_l (l : List UInt8) (L : ByteArray) (hL : Str l = L) (hsz : s.size ≤ 1000000) (V : World) (h : Rr w0 V p s A st) : Calls Tryd.prog 104 #[.pointer (some ⟨p, 0, none⟩), .string L] V fun r w' => r = .returned (.bool (on s.data.toList st l)) ∧ ∃ n, w' = V.drewN n := by
  rw [← hL]
  exact on_c l hsz h
theorem fail_pos (st : S) (e : Nat) : (fail st st.pos e).pos = st.pos := by unfold fail; split <;> rfl
theorem bounds_no {t : List UInt8} {st s2 : S} {a : Nat} (hn : number t (nx st) = (a, s2)) (h : on t s2 [44] = false) : bounds t st = (a, (a : Int), bEnd t (nx st).pos a (a : Int) s2) := by
  unfold bounds
  simp only
  rw [hn]
  simp only
  rw [h]
  rfl
theorem bounds_open {t : List UInt8} {st s2 : S} {a : Nat} (hn : number t (nx st) = (a, s2)) (h : on t s2 [44] = true) (h2 : on t (nx s2) figs = false) : bounds t st = (a, -1, bEnd t (nx st).pos a (-1) (nx s2)) := by
  unfold bounds
  simp only
  rw [hn]
  simp only
  rw [h, if_pos rfl, h2]
  rfl
theorem bounds_two {t : List UInt8} {st s2 s5 : S} {a b : Nat} (hn : number t (nx st) = (a, s2)) (h : on t s2 [44] = true) (h2 : on t (nx s2) figs = true) (h3 : number t (nx s2) = (b, s5)) : bounds t st = (a, (b : Int), bEnd t (nx s2).pos a (b : Int) s5) := by
  unfold bounds
  simp only
  rw [hn]
  simp only
  rw [h, if_pos rfl, h2, if_pos rfl, h3]
set_option maxRecDepth 100000 in
set_option maxHeartbeats 8000000 in
theorem bounds_c (hsz : s.size ≤ 1000000) (h : Rr w0 W p s A st) (hlt : st.pos < s.size) : Calls Tryd.prog 136 #[.pointer (some ⟨p, 0, none⟩)] W fun r w' => r = .returned (.tuple #[.int .i64 ((bounds s.data.toList st).1 : Int), .int .i64 (bounds s.data.toList st).2.1]) ∧ Rr w0 w' p s A (bounds s.data.toList st).2.2 ∧ Mod [p] W w' := by
  have hnum : ∀ V st', Rr w0 V p s A st' → Calls Tryd.prog 153 #[.pointer (some ⟨p, 0, none⟩)] V fun r w' => r = .returned (.int .i64 ((number s.data.toList st').1 : Int)) ∧ Rr w0 w' p s A (number s.data.toList st').2 ∧ Mod [p] V w' := fun V st' h' => number_c hsz h'
  have htk : ∀ V st', Rr w0 V p s A st' → Calls Tryd.prog 74 #[.pointer (some ⟨p, 0, none⟩), .string ⟨#[44]⟩] V fun r w' => r = .returned (.bool (on s.data.toList st' [44])) ∧ Rr w0 w' p s A (takeS s.data.toList st' 44) ∧ Mod [p] V w' := fun V st' h' => take_l 44 _ rfl hsz V h'
  have htb : ∀ V st', Rr w0 V p s A st' → Calls Tryd.prog 74 #[.pointer (some ⟨p, 0, none⟩), .string ⟨#[125]⟩] V fun r w' => r = .returned (.bool (on s.data.toList st' [125])) ∧ Rr w0 w' p s A (takeS s.data.toList st' 125) ∧ Mod [p] V w' := fun V st' h' => take_l 125 _ rfl hsz V h'
  have hof : ∀ V st', Rr w0 V p s A st' → Calls Tryd.prog 104 #[.pointer (some ⟨p, 0, none⟩), .string ⟨#[48, 49, 50, 51, 52, 53, 54, 55, 56, 57]⟩] V fun r w' => r = .returned (.bool (on s.data.toList st' figs)) ∧ ∃ n, w' = V.drewN n := fun V st' h' => on_l figs _ rfl hsz V h'
  have hmo : ∀ V st', Rr w0 V p s A st' → Calls Tryd.prog 48 #[.pointer (some ⟨p, 0, none⟩)] V fun r w' => r = .returned (.bool (more s.data.toList st')) ∧ ∃ n, w' = V.drewN n := fun V st' h' => more_c h'
  have hfR : ∀ V st' (q : Nat), Rr w0 V p s A st' → Calls Tryd.prog 49 #[.pointer (some ⟨p, 0, none⟩), .int .i64 (q : Int), Er.ev A 3] V fun r w' => r = .returned (.tuple #[]) ∧ Rr w0 w' p s A (fail st' q 1) ∧ Mod [p] V w' := fun V st' q h' => by rw [ee_range]; exact fail_c q 1 (by decide) h'
  have hfS : ∀ V st' (q : Nat), Rr w0 V p s A st' → Calls Tryd.prog 49 #[.pointer (some ⟨p, 0, none⟩), .int .i64 (q : Int), Er.ev A 4] V fun r w' => r = .returned (.tuple #[]) ∧ Rr w0 w' p s A (fail st' q 2) ∧ Mod [p] V w' := fun V st' q h' => by rw [ee_short]; exact fail_c q 2 (by decide) h'
  have hfF : ∀ V st' (q : Nat), Rr w0 V p s A st' → Calls Tryd.prog 49 #[.pointer (some ⟨p, 0, none⟩), .int .i64 (q : Int), Er.ev A 0] V fun r w' => r = .returned (.tuple #[]) ∧ Rr w0 w' p s A (fail st' q 4) ∧ Mod [p] V w' := fun V st' q h' => by rw [ee_form]; exact fail_c q 4 (by decide) h'
  have hgR : ∀ V st', Rr w0 V p s A st' → V.cell? ⟨3, 0, none⟩ = some (Er.ev A 3) := fun V st' h' => h'.sent _ (by simp [rgs])
  have hgS : ∀ V st', Rr w0 V p s A st' → V.cell? ⟨4, 0, none⟩ = some (Er.ev A 4) := fun V st' h' => h'.sent _ (by simp [rgs])
  have hgF : ∀ V st', Rr w0 V p s A st' → V.cell? ⟨0, 0, none⟩ = some (Er.ev A 0) := fun V st' h' => h'.sent _ (by simp [rgs])
  have hes : ∀ st' : S, (st'.err = 0 ∧ ee A (st'.err : Int) = .nilIface) ∨ (st'.err ≠ 0 ∧ ∃ a, ee A (st'.err : Int) = .iface 204 (.pointer (some a))) := fun st' => by
    by_cases he : st'.err = 0
    · exact .inl ⟨he, by rw [he]; rfl⟩
    · exact .inr ⟨he, ee_some A he⟩
  have hsl := size_list s
  have h0 := h.setPos (st.pos + 1)
  have u1 : IntKind.i64.wrap ((st.pos : Int) + 1) = ((st.pos + 1 : Nat) : Int) := by rw [IntKind.wrap_i64]; omega
  have u2 : (st.pos : Int) + 1 = ((st.pos + 1 : Nat) : Int) := by omega
  obtain ⟨t, ht⟩ : ∃ t, s.data.toList = t := ⟨_, rfl⟩
  rw [ht] at hnum htk htb hof hmo hsl ⊢
  obtain ⟨k0, k1, k2, f1, f2⟩ := h.cells
  obtain ⟨ER, hER⟩ : ∃ E, Er.ev A 3 = E := ⟨_, rfl⟩
  obtain ⟨ES, hES⟩ : ∃ E, Er.ev A 4 = E := ⟨_, rfl⟩
  obtain ⟨EF, hEF⟩ : ∃ E, Er.ev A 0 = E := ⟨_, rfl⟩
  rw [hER] at hfR hgR
  rw [hES] at hfS hgS
  rw [hEF] at hfF hgF
  obtain ⟨W1, hW1⟩ : ∃ W1, W.setCell ⟨p, 1, none⟩ (.int .i64 ((st.pos + 1 : Nat) : Int)) = W1 := ⟨_, rfl⟩
  rw [hW1] at h0
  obtain ⟨P1, hP1⟩ : ∃ P1, st.pos + 1 = P1 := ⟨_, rfl⟩
  rw [hP1] at hW1 u1 u2 h0
  have hst1 : nx st = ⟨P1, st.err⟩ := by unfold nx; rw [hP1]
  have HNum := Lib.hid hnum
  have HTk := Lib.hid htk
  have HTb := Lib.hid htb
  have HOf := Lib.hid hof
  have HMo := Lib.hid hmo
  have HfR := Lib.hid hfR
  have HfS := Lib.hid hfS
  have HfF := Lib.hid hfF
  have HgR := Lib.hid hgR
  have HgS := Lib.hid hgS
  have HgF := Lib.hid hgF
  have HEs := Lib.hid hes
  have H0 := Lib.hid h0
  have HW1 := Lib.hid hW1
  have HSt1 := Lib.hid hst1
  clear hnum htk htb hof hmo hfR hfS hfF hgR hgS hgF hes h0 h hER hES hEF ht hP1 hst1
  go_enter Tryd.func136, Tryd.ntmps136
  go_upto_region 2 with (fail)
  try rw [HW1.out]
  clear k0 k1 k2 f1 f2 hW1
  obtain ⟨k0, k1, k2, f1, f2⟩ := H0.out.1.cells
  go_wp2_with fail
  refine (HNum.out _ _ H0.out.1).mono ?_
  rintro _ w2 ⟨rfl, hr2, hm2⟩
  have H2 := Lib.hid (And.intro hr2 (H0.out.2.trans hm2 (fun x hx => .inl hx)))
  obtain ⟨a, s2, hns⟩ : ∃ a s2, number t (nx st) = (a, s2) := ⟨_, _, rfl⟩
  have hns' := hns
  rw [HSt1.out] at hns'
  rw [hns'] at H2 ⊢
  have HNs := Lib.hid hns
  clear hr2 hm2 hns hns' k0 k1 k2 f1 f2
  go_wp2_with fail
  refine (HTk.out _ _ H2.out.1).mono ?_
  rintro _ w3 ⟨rfl, hr3, hm3⟩
  have H3 := Lib.hid (And.intro hr3 (H2.out.2.trans hm3 (fun x hx => .inl hx)))
  clear hr3 hm3
  go_upto_if 22 with (fail)
  go_cut [4, 6] (fun v4 v6 V => ∃ (last : Nat) (most : Int) (s4 : S), v4 = .int .i64 (last : Int) ∧ v6 = .int .i64 most ∧ Rr w0 V p s A s4 ∧ Mod [p] W V ∧ bounds t st = (a, most, bEnd t last a most s4))
  case first =>
    have hns := HNs.out
    unfold takeS at H3
    obtain ⟨O, hO⟩ : ∃ O, on t s2 [44] = O := ⟨_, rfl⟩
    rw [hO] at H3 ⊢
    cases O with
    | false =>
      have hb := bounds_no hns hO
      have hp1 : (nx st).pos = P1 := by rw [HSt1.out]
      rw [hp1] at hb
      have HB := Lib.hid hb
      have H3' : Hid (Rr w0 w3 p s A s2 ∧ Mod [p] W w3) := Lib.hid H3.out
      clear hb hO hns
      go_wp2
      go_meet
      exact ⟨P1, (a : Int), s2, rfl, rfl, H3'.out.1, H3'.out.2, HB.out⟩
    | true =>
      have H3' : Hid (Rr w0 w3 p s A (nx s2) ∧ Mod [p] W w3) := Lib.hid H3.out
      clear H3
      have hof := HOf.out w3 _ H3'.out.1
      obtain ⟨G, hG⟩ : ∃ G, on t (nx s2) figs = G := ⟨_, rfl⟩
      rw [hG] at hof
      have HOf2 := Lib.hid hof
      cases G with
      | false =>
        have hb := bounds_open hns hO hG
        have hp1 : (nx st).pos = P1 := by rw [HSt1.out]
        rw [hp1] at hb
        have HB := Lib.hid hb
        clear hb hO hns hG hof hp1
        go_wp2_with fail
        refine HOf2.out.mono ?_
        rintro _ w4 ⟨rfl, m4, rfl⟩
        go_wp2
        go_meet
        exact ⟨P1, -1, nx s2, rfl, rfl, H3'.out.1.drewN m4, H3'.out.2.drewN m4, HB.out⟩
      | true =>
        obtain ⟨b, s5, hn5⟩ : ∃ b s5, number t (nx s2) = (b, s5) := ⟨_, _, rfl⟩
        have hb := bounds_two hns hO hG hn5
        have HB := Lib.hid hb
        have HN5 := Lib.hid hn5
        clear hb hO hns hG hof hn5
        go_wp2_with fail
        refine HOf2.out.mono ?_
        rintro _ w4 ⟨rfl, m4, rfl⟩
        obtain ⟨k0, k1, k2, f1, f2⟩ := H3'.out.1.cells
        have HNx := Lib.hid (HNum.out _ _ (H3'.out.1.drewN m4))
        rw [HN5.out] at HNx
        obtain ⟨P2, hP2⟩ : ∃ P2, (nx s2).pos = P2 := ⟨_, rfl⟩
        rw [hP2] at k1 HB
        clear hP2
        go_wp2_with fail
        refine HNx.out.mono ?_
        rintro _ w5 ⟨rfl, hr5, hm5⟩
        have H5 := Lib.hid (And.intro hr5 ((H3'.out.2.drewN m4).trans hm5 (fun x hx => .inl hx)))
        clear hr5 hm5
        go_wp2
        go_meet
        exact ⟨P2, (b : Int), s5, rfl, rfl, H5.out.1, H5.out.2, HB.out⟩
  case rest =>
    clear H3 H2 H0 HNs
    obtain ⟨last, most, s4, rfl, rfl, hR, hM, hb⟩ := hcut
    have HR := Lib.hid hR
    have HM := Lib.hid hM
    have HB := Lib.hid hb
    clear hR hM hb
    obtain ⟨BB, hBB⟩ : ∃ B, (decide (s4.err = 0) && !more t s4) = B := ⟨_, rfl⟩
    have HBB := Lib.hid hBB
    obtain ⟨wd, hwd⟩ : ∃ x, x = wc := ⟨_, rfl⟩
    subst hwd
    go_upto_region 10 with (fail)
    go_cut [31] (fun v V => v = .bool BB ∧ ∃ n, V = wd.drewN n)
    case first =>
      obtain ⟨k0, k1, k2, f1, f2⟩ := HR.out.cells
      have HMr := Lib.hid (HMo.out _ _ HR.out)
      rcases HEs.out s4 with ⟨he, hn⟩ | ⟨he, ae, hn⟩
      · rw [hn] at k2
        rw [decide_eq_true he, Bool.true_and] at hBB
        obtain ⟨M, hM⟩ : ∃ M, more t s4 = M := ⟨_, rfl⟩
        rw [hM] at hBB HMr
        subst hBB
        clear hM hn he
        go_wp2_with fail
        refine HMr.out.mono ?_
        rintro _ w5 ⟨rfl, m5, rfl⟩
        go_wp2
        go_meet
        exact ⟨rfl, m5, rfl⟩
      · rw [hn] at k2
        rw [decide_eq_false he, Bool.false_and] at hBB
        subst hBB
        clear hn he
        go_wp2
        go_meet
        exact ⟨rfl, 0, rfl⟩
    case rest =>
      obtain ⟨rfl, m5, rfl⟩ := hcut
      have hr5 := HR.out.drewN m5
      have hm5 := HM.out.drewN m5
      obtain ⟨w5, hw5⟩ : ∃ x, wd.drewN m5 = x := ⟨_, rfl⟩
      rw [hw5] at hr5 hm5 ⊢
      have HR5 := Lib.hid hr5
      have HM5 := Lib.hid hm5
      clear hr5 hm5 hw5 HR HM
      cases BB with
      | true =>
        have h1 : s4.err = 0 ∧ more t s4 = false := by
          have := HBB.out
          simpa using this
        have hbe : bEnd t last a most s4 = fail s4 t.length 2 := by unfold bEnd; rw [if_pos h1]
        have hb := HB.out
        rw [hbe, ← hsl] at hb
        have HB2 := Lib.hid hb
        clear hb hbe h1 HB hBB hsl
        obtain ⟨k0, k1, k2, f1, f2⟩ := HR5.out.cells
        have g4 := HgS.out _ _ HR5.out
        have SK : Hid (∀ V st', Rr w0 V p s A st' → V.cell? ⟨p, 0, none⟩ = some (.string s) ∧ V.cell? ⟨4, 0, none⟩ = some ES) := Lib.hid (fun V st' h' => ⟨h'.cells.1, HgS.out V st' h'⟩)
        go_wp2_with fail
        refine wp_region_noPanic ?_
        refine wp_region_held_drew (S := fun V => V.cell? ⟨p, 0, none⟩ = some (.string s) ∧ V.cell? ⟨4, 0, none⟩ = some ES) (by kernel_rfl) (SK.out _ _ HR5.out.drew) (fun hHeld => ?_)
        (refine wpAnyH_take (i := 0) (v := ?v0n1) (by simp only [List.getElem?_toArray, List.getElem?_cons_succ, List.getElem?_cons_zero]; rfl) (by kernel_rfl) (by kernel_rfl) (by kernel_rfl) (fun _ _ _ h => False.elim h) (Or.inl ⟨by rfl, ?hy0n1⟩) (by assumption) ?rest0n1; (case hy0n1 => (intro w hSw; (try dsimp only at hSw); go_simp; (try with_reducible rfl))); (try simp only [Act.put, List.setIfInBounds_toArray, List.set_cons_zero, List.set_cons_succ]))
        (refine wpAnyH_take (i := 1) (v := ?v1n2) (by simp only [List.getElem?_toArray, List.getElem?_cons_succ, List.getElem?_cons_zero]; rfl) (by kernel_rfl) (by kernel_rfl) (by kernel_rfl) (fun _ _ _ h => False.elim h) (Or.inl ⟨by rfl, ?hy1n2⟩) (by assumption) ?rest1n2; (case hy1n2 => (intro w hSw; (try dsimp only at hSw); go_simp; (try with_reducible rfl))); (try simp only [Act.put, List.setIfInBounds_toArray, List.set_cons_zero, List.set_cons_succ]))
        (refine wpAnyH_take (i := 2) (v := ?v2n3) (by simp only [List.getElem?_toArray, List.getElem?_cons_succ, List.getElem?_cons_zero]; rfl) (by kernel_rfl) (by kernel_rfl) (by kernel_rfl) (fun _ _ _ h => False.elim h) (Or.inl ⟨by rfl, ?hy2n3⟩) (by assumption) ?rest2n3; (case hy2n3 => (intro w hSw; (try dsimp only at hSw); go_simp; (try with_reducible rfl))); (try simp only [Act.put, List.setIfInBounds_toArray, List.set_cons_zero, List.set_cons_succ]))
        (refine wpAnyH_take (i := 3) (v := ?v3n4) (by simp only [List.getElem?_toArray, List.getElem?_cons_succ, List.getElem?_cons_zero]; rfl) (by kernel_rfl) (by kernel_rfl) (by kernel_rfl) (fun _ _ _ h => False.elim h) (Or.inl ⟨by rfl, ?hy3n4⟩) (by assumption) ?rest3n4; (case hy3n4 => (intro w hSw; (try dsimp only at hSw); go_simp; (try with_reducible rfl))); (try simp only [Act.put, List.setIfInBounds_toArray, List.set_cons_zero, List.set_cons_succ]))
        (refine wpAnyH_take (i := 4) (v := ?v4n5) (by simp only [List.getElem?_toArray, List.getElem?_cons_succ, List.getElem?_cons_zero]; rfl) (by kernel_rfl) (by kernel_rfl) (by kernel_rfl) (fun _ _ _ h => False.elim h) (Or.inl ⟨by rfl, ?hy4n5⟩) (by assumption) ?rest4n5; (case hy4n5 => (intro w hSw; (try dsimp only at hSw); go_simp; (try with_reducible rfl))); (try simp only [Act.put, List.setIfInBounds_toArray, List.set_cons_zero, List.set_cons_succ]))
        (refine wpAnyH_take (i := 5) (v := ?v5n6) (by simp only [List.getElem?_toArray, List.getElem?_cons_succ, List.getElem?_cons_zero]; rfl) (by kernel_rfl) (by kernel_rfl) (by kernel_rfl) (fun _ _ _ h => False.elim h) (Or.inl ⟨by rfl, ?hy5n6⟩) (by assumption) ?rest5n6; (case hy5n6 => (intro w hSw; (try dsimp only at hSw); go_simp; (try with_reducible rfl))); (try simp only [Act.put, List.setIfInBounds_toArray, List.set_cons_zero, List.set_cons_succ]))
        (refine wpAnyH_take (i := 6) (v := ?v6n7) (by simp only [List.getElem?_toArray, List.getElem?_cons_succ, List.getElem?_cons_zero]; rfl) (by kernel_rfl) (by kernel_rfl) (by kernel_rfl) (fun _ _ _ h => False.elim h) (Or.inl ⟨by rfl, ?hy6n7⟩) (by assumption) ?rest6n7; (case hy6n7 => (intro w hSw; (try dsimp only at hSw); go_simp; (try with_reducible rfl))); (try simp only [Act.put, List.setIfInBounds_toArray, List.set_cons_zero, List.set_cons_succ]))
        (refine wpAnyH_ready (rs := [7]) (by kernel_rfl) (by simp) ?_; refine AllReadyH.cons (o := _) (by simp only [List.getElem?_toArray, List.getElem?_cons_succ, List.getElem?_cons_zero]; rfl) (fun K hK => ?_) AllReadyH.nil; go_simp; ((with_reducible refine (HfS.out _ _ s.size HR5.out.drew).mono ?_); rintro _ w6 ⟨rfl, hr6, hm6⟩); refine hK.out _ _ (by exact SK.out _ _ hr6) (fun hHeld => ?_); clear hK K; (try simp only [Act.put, List.setIfInBounds_toArray, List.set_cons_zero, List.set_cons_succ]))
        refine wpAnyH_done (by kernel_rfl) ?_ _
        refine NoPanic.normal ?_
        have H6 := Lib.hid (And.intro hr6 (HM5.out.drew.trans hm6 (fun x hx => .inl hx)))
        clear hr6 hm6 hHeld k0 k1 k2 f1 f2 g4
        go_wp2
        go_ret2
        rw [HB2.out]
        exact ⟨rfl, H6.out⟩
      | false =>
        have h1 : ¬ (s4.err = 0 ∧ more t s4 = false) := by
          have := HBB.out
          rintro ⟨h2, h3⟩
          rw [h2, h3] at this
          simp at this
        clear hBB
        have htb := HTb.out _ _ HR5.out
        obtain ⟨O, hO⟩ : ∃ O, on t s4 [125] = O := ⟨_, rfl⟩
        unfold takeS at htb
        rw [hO] at htb
        cases O with
        | false =>
          have hbe : bEnd t last a most s4 = fail s4 s4.pos 4 := by unfold bEnd; rw [if_neg h1, if_pos hO]
          have hb := HB.out
          rw [hbe] at hb
          have HB2 := Lib.hid hb
          have HTb2 : Hid (Calls Tryd.prog 74 #[.pointer (some ⟨p, 0, none⟩), .string ⟨#[125]⟩] w5 fun r w' => r = .returned (.bool false) ∧ Rr w0 w' p s A s4 ∧ Mod [p] w5 w') := Lib.hid htb
          clear hb hbe h1 HB htb hO
          go_wp2_with fail
          refine HTb2.out.mono ?_
          rintro _ w6 ⟨rfl, hr6, hm6⟩
          have H6 := Lib.hid (And.intro hr6 (HM5.out.trans hm6 (fun x hx => .inl hx)))
          clear hr6 hm6
          have SK : Hid (∀ V, Rr w0 V p s A s4 → V.cell? ⟨p, 1, none⟩ = some (.int .i64 (s4.pos : Int)) ∧ V.cell? ⟨0, 0, none⟩ = some EF) := Lib.hid (fun V h' => ⟨h'.cells.2.1, HgF.out V _ h'⟩)
          have SK2 : Hid (∀ V, Rr w0 V p s A (fail s4 s4.pos 4) → V.cell? ⟨p, 1, none⟩ = some (.int .i64 (s4.pos : Int)) ∧ V.cell? ⟨0, 0, none⟩ = some EF) := Lib.hid (fun V h' => ⟨by rw [h'.cells.2.1, fail_pos], HgF.out V _ h'⟩)
          go_wp2_with fail
          refine wp_region_noPanic ?_
          refine wp_region_held_drew (S := fun V => V.cell? ⟨p, 1, none⟩ = some (.int .i64 (s4.pos : Int)) ∧ V.cell? ⟨0, 0, none⟩ = some EF) (by kernel_rfl) (SK.out _ H6.out.1.drew) (fun hHeld => ?_)
          (refine wpAnyH_take (i := 0) (v := ?v0n8) (by simp only [List.getElem?_toArray, List.getElem?_cons_succ, List.getElem?_cons_zero]; rfl) (by kernel_rfl) (by kernel_rfl) (by kernel_rfl) (fun _ _ _ h => False.elim h) (Or.inl ⟨by rfl, ?hy0n8⟩) (by assumption) ?rest0n8; (case hy0n8 => (intro w hSw; (try dsimp only at hSw); go_simp; (try with_reducible rfl))); (try simp only [Act.put, List.setIfInBounds_toArray, List.set_cons_zero, List.set_cons_succ]))
          (refine wpAnyH_take (i := 1) (v := ?v1n9) (by simp only [List.getElem?_toArray, List.getElem?_cons_succ, List.getElem?_cons_zero]; rfl) (by kernel_rfl) (by kernel_rfl) (by kernel_rfl) (fun _ _ _ h => False.elim h) (Or.inl ⟨by rfl, ?hy1n9⟩) (by assumption) ?rest1n9; (case hy1n9 => (intro w hSw; (try dsimp only at hSw); go_simp; (try with_reducible rfl))); (try simp only [Act.put, List.setIfInBounds_toArray, List.set_cons_zero, List.set_cons_succ]))
          (refine wpAnyH_take (i := 2) (v := ?v2n10) (by simp only [List.getElem?_toArray, List.getElem?_cons_succ, List.getElem?_cons_zero]; rfl) (by kernel_rfl) (by kernel_rfl) (by kernel_rfl) (fun _ _ _ h => False.elim h) (Or.inl ⟨by rfl, ?hy2n10⟩) (by assumption) ?rest2n10; (case hy2n10 => (intro w hSw; (try dsimp only at hSw); go_simp; (try with_reducible rfl))); (try simp only [Act.put, List.setIfInBounds_toArray, List.set_cons_zero, List.set_cons_succ]))
          (refine wpAnyH_take (i := 3) (v := ?v3n11) (by simp only [List.getElem?_toArray, List.getElem?_cons_succ, List.getElem?_cons_zero]; rfl) (by kernel_rfl) (by kernel_rfl) (by kernel_rfl) (fun _ _ _ h => False.elim h) (Or.inl ⟨by rfl, ?hy3n11⟩) (by assumption) ?rest3n11; (case hy3n11 => (intro w hSw; (try dsimp only at hSw); go_simp; (try with_reducible rfl))); (try simp only [Act.put, List.setIfInBounds_toArray, List.set_cons_zero, List.set_cons_succ]))
          (refine wpAnyH_take (i := 4) (v := ?v4n12) (by simp only [List.getElem?_toArray, List.getElem?_cons_succ, List.getElem?_cons_zero]; rfl) (by kernel_rfl) (by kernel_rfl) (by kernel_rfl) (fun _ _ _ h => False.elim h) (Or.inl ⟨by rfl, ?hy4n12⟩) (by assumption) ?rest4n12; (case hy4n12 => (intro w hSw; (try dsimp only at hSw); go_simp; (try with_reducible rfl))); (try simp only [Act.put, List.setIfInBounds_toArray, List.set_cons_zero, List.set_cons_succ]))
          (refine wpAnyH_take (i := 5) (v := ?v5n13) (by simp only [List.getElem?_toArray, List.getElem?_cons_succ, List.getElem?_cons_zero]; rfl) (by kernel_rfl) (by kernel_rfl) (by kernel_rfl) (fun _ _ _ h => False.elim h) (Or.inl ⟨by rfl, ?hy5n13⟩) (by assumption) ?rest5n13; (case hy5n13 => (intro w hSw; (try dsimp only at hSw); go_simp; (try with_reducible rfl))); (try simp only [Act.put, List.setIfInBounds_toArray, List.set_cons_zero, List.set_cons_succ]))
          (refine wpAnyH_ready (rs := [6]) (by kernel_rfl) (by simp) ?_; refine AllReadyH.cons (o := _) (by simp only [List.getElem?_toArray, List.getElem?_cons_succ, List.getElem?_cons_zero]; rfl) (fun K hK => ?_) AllReadyH.nil; go_simp; ((with_reducible refine (HfF.out _ _ s4.pos H6.out.1.drew).mono ?_); rintro _ w7 ⟨rfl, hr7, hm7⟩); refine hK.out _ _ (by exact SK2.out _ hr7) (fun hHeld => ?_); clear hK K; (try simp only [Act.put, List.setIfInBounds_toArray, List.set_cons_zero, List.set_cons_succ]))
          refine wpAnyH_done (by kernel_rfl) ?_ _
          refine NoPanic.normal ?_
          have H7 := Lib.hid (And.intro hr7 (H6.out.2.drew.trans hm7 (fun x hx => .inl hx)))
          clear hr7 hm7 hHeld
          go_wp2
          go_ret2
          rw [HB2.out]
          exact ⟨rfl, H7.out⟩
        | true =>
          have HTb2 : Hid (Calls Tryd.prog 74 #[.pointer (some ⟨p, 0, none⟩), .string ⟨#[125]⟩] w5 fun r w' => r = .returned (.bool true) ∧ Rr w0 w' p s A (nx s4) ∧ Mod [p] w5 w') := Lib.hid htb
          obtain ⟨XB, hXB⟩ : ∃ x, decide (most ≠ -1 ∧ (most < (a : Int) ∨ most < 1)) = x := ⟨_, rfl⟩
          have hbe : bEnd t last a most s4 = if XB then fail (nx s4) last 1 else nx s4 := by
            unfold bEnd
            rw [if_neg h1, if_neg (by rw [hO]; simp), ← hXB]
            by_cases hc : most ≠ -1 ∧ (most < (a : Int) ∨ most < 1)
            · rw [if_pos hc, decide_eq_true hc]; rfl
            · rw [if_neg hc, decide_eq_false hc]; rfl
          have hb := HB.out
          rw [hbe] at hb
          have HB2 := Lib.hid hb
          have HXB := Lib.hid hXB
          clear hb hbe h1 HB htb hO
          go_wp2_with fail
          refine HTb2.out.mono ?_
          rintro _ w6 ⟨rfl, hr6, hm6⟩
          have H6 := Lib.hid (And.intro hr6 (HM5.out.trans hm6 (fun x hx => .inl hx)))
          clear hr6 hm6
          have g3 := HgR.out _ _ H6.out.1
          have HF := Lib.hid (HfR.out _ _ last H6.out.1)
          go_upto_region 14 with (fail)
          go_cut [61] (fun v V => v = .bool XB ∧ V = w6)
          case first =>
            clear HXB
            by_cases c1 : most = -1
            · obtain rfl : XB = false := by rw [← hXB, decide_eq_false]; rintro ⟨h, _⟩; exact h c1
              clear hXB
              subst c1
              go_wp2
              go_meet
              exact ⟨rfl, rfl⟩
            · have c1b : (most == -1) = false := by simpa using c1
              have c1d : decide (most = -1) = false := by simpa using c1
              by_cases c2 : most < (a : Int)
              · obtain rfl : XB = true := by rw [← hXB, decide_eq_true]; exact ⟨c1, .inl c2⟩
                clear hXB
                have c2d : decide (most < (a : Int)) = true := by simpa using c2
                go_wp2
                go_meet
                exact ⟨by first | rfl | (simp [bne, c1b]; done), rfl⟩
              · have c2d : decide (most < (a : Int)) = false := by simpa using c2
                by_cases c3 : most < 1
                · obtain rfl : XB = true := by rw [← hXB, decide_eq_true]; exact ⟨c1, .inr c3⟩
                  clear hXB
                  have c3d : decide (most < 1) = true := by simpa using c3
                  go_wp2
                  go_meet
                  exact ⟨by first | rfl | (simp [bne, c1b]; done), rfl⟩
                · obtain rfl : XB = false := by rw [← hXB, decide_eq_false]; rintro ⟨_, h | h⟩; exact c2 h; exact c3 h
                  clear hXB
                  have c3d : decide (most < 1) = false := by simpa using c3
                  go_wp2
                  go_meet
                  exact ⟨by first | rfl | (simp [bne, c1b]; done), rfl⟩
          case rest =>
            obtain ⟨rfl, rfl⟩ := hcut
            clear hXB
            cases XB with
            | true =>
              go_wp2_with fail
              refine HF.out.mono ?_
              rintro _ w7 ⟨rfl, hr7, hm7⟩
              have H7 := Lib.hid (And.intro hr7 (H6.out.2.trans hm7 (fun x hx => .inl hx)))
              clear hr7 hm7
              go_wp2
              go_ret2
              rw [HB2.out]
              exact ⟨rfl, H7.out⟩
            | false =>
              go_wp2
              go_ret2
              rw [HB2.out]
              exact ⟨rfl, H6.out⟩
end Rx
end Go.Proofs.YtoeeddfinmfnoaaDoor
