/- The law CombAt: its walk. Printed by gen_cblawat.py. -/
import Derived.Test.YteekonojmpihlaaDoorQCbRRight
import Derived.Test.YteekonojmpihlaaDoorQCbRows
import Derived.Test.YteekonojmpihlaaDoorQCbAlive
import Derived.Test.YteekonojmpihlaaDoorQErr
import Derived.Deep.RegionHeld3
namespace Go.Proofs.YteekonojmpihlaaDoor
namespace Kt
end Kt
open Go Go.RowKit Kt
namespace Cb
set_option maxHeartbeats 8000000 in
set_option maxRecDepth 100000 in
theorem at_law (c : Cs) (row place : Int) (A : Nat → Addr) (w : World) (hI : Is w c) (hS : Sent 204 w A Er.egs) :
    Calls Tryd.prog 9 #[cv c, .int .i64 row, .int .i64 place] w fun e w' => e = .returned (.bool true) ∧ Below w.heap.size w w' := by
  obtain ⟨RC, hRC⟩ : ∃ R, rightC c = R := ⟨_, rfl⟩
  have hRi : ∀ W, Below w.heap.size w W → Calls Tryd.prog 39 #[cv c] W fun e w' => e = .returned (.bool RC) ∧ Below W.heap.size W w' := fun W hb => by rw [← hRC]; exact Right_c c W (hI.below hb)
  have hRr : ∀ W, Below w.heap.size w W → Calls Tryd.prog 45 #[cv c] W fun e w' => e = .returned (.bool RC) ∧ Below W.heap.size W w' := fun W hb => by rw [← hRC]; exact rright_c c W (hI.below hb)
  have hself : sameC c c = true := by simp [sameC]
  have hSm : (c.base.length ≤ 200 ∧ c.dflt.length ≤ 200 ∧ c.next.length ≤ 200 ∧ c.check.length ≤ 200) → ∀ W, Below w.heap.size w W → Calls Tryd.prog 46 #[cv c, cv c] W fun e w' => e = .returned (.bool true) ∧ Below W.heap.size W w' := fun hl W hb => by
    have := Same_c c c W (hI.below hb) (hI.below hb) ⟨by omega, by omega, by omega, by omega⟩ ⟨by omega, by omega, by omega, by omega⟩
    rw [hself] at this
    exact this
  have hAt : ∀ (r p : Int) W, Below w.heap.size w W → Calls Tryd.prog 47 #[cv c, .int .i64 r, .int .i64 p] W fun e w' => e = .returned (.int .i64 (atF c r p)) ∧ Below W.heap.size W w' := fun r p W hb => At_c c r p W (hI.below hb)
  have hRAt : RC = true → ∀ (r p : Int) W, Below w.heap.size w W → Calls Tryd.prog 48 #[cv c, .int .i64 r, .int .i64 p] W fun e w' => e = .returned (.int .i64 (atF c r p)) ∧ Below W.heap.size W w' := fun hr r p W hb => rat_c c r p (hRC.trans hr) W (hI.below hb)
  have hRows : RC = true → ∀ W, Below w.heap.size w W → Calls Tryd.prog 38 #[cv c] W fun e w' => ∃ (a : Option Addr) (cap : Nat) (L : List IRow), e = .returned (.tuple #[.slice a c.base.length cap, .nilIface]) ∧ L.length = c.base.length ∧ Rd w' a (L.map IRow.v) ∧ (∀ r ∈ L, r.ok w') ∧ L.map (·.l) = rowsC c ∧ Below W.heap.size W w' := fun hr W hb => rows_c c (hRC.trans hr) W (hI.below hb)
  have hRno : RC = false → ∀ W, Below w.heap.size w W → Calls Tryd.prog 38 #[cv c] W fun e w' => e = .returned (.tuple #[.slice none 0 0, Er.ev A 1]) ∧ Below W.heap.size W w' := fun hr W hb => rows_no c (hRC.trans hr) W (hI.below hb) _ ((hS.keep hb).cell 1 (by simp [Er.egs]))
  have hSn : ∀ W, Below w.heap.size w W → Calls Tryd.prog 27 #[Er.ev A 1] W fun e w' => e = .returned (.int .i64 4) ∧ Below W.heap.size W w' := fun W hb => Er.num_at A 1 4 3 (by omega) rfl (by omega) W (hS.keep hb)
  have hAl : ∀ W, Calls Tryd.prog 34 #[] W fun e w' => e = .returned (.bool true) ∧ Below W.heap.size W w' := alive_c
  have hZ : RC = false → atF c row place = 0 := fun hr => by unfold atF; rw [hRC, hr]; simp
  have hg : RC = true → Good c := fun hr => good_of (hRC.trans hr)
  have hin : RC = true → ∀ r p : Nat, r < c.base.length → p < c.wide.toNat → atF c r p = atC c r p := fun hr r p h1 h2 => by
    unfold atF
    rw [hRC, hr]
    have e1 : outb (r : Int) c.base.length = false := by simp [outb]; omega
    have e2 : outb (p : Int) c.wide = false := by simp [outb]; omega
    rw [e1, e2]
    simp
  have hcv : cv c = .agg #[.int .i64 c.wide, .slice c.a1 c.base.length c.c1, .slice c.a2 c.dflt.length c.c2, .slice c.a3 c.next.length c.c3, .slice c.a4 c.check.length c.c4] := rfl
  obtain ⟨n1, hn1⟩ : ∃ n1, c.base.length = n1 := ⟨_, rfl⟩
  obtain ⟨n2, hn2⟩ : ∃ n2, c.dflt.length = n2 := ⟨_, rfl⟩
  obtain ⟨n3, hn3⟩ : ∃ n3, c.next.length = n3 := ⟨_, rfl⟩
  obtain ⟨n4, hn4⟩ : ∃ n4, c.check.length = n4 := ⟨_, rfl⟩
  obtain ⟨wd, hwd⟩ : ∃ wd, c.wide = wd := ⟨_, rfl⟩
  obtain ⟨A1, hA1⟩ : ∃ A, c.a1 = A := ⟨_, rfl⟩
  obtain ⟨A2, hA2⟩ : ∃ A, c.a2 = A := ⟨_, rfl⟩
  obtain ⟨A3, hA3⟩ : ∃ A, c.a3 = A := ⟨_, rfl⟩
  obtain ⟨A4, hA4⟩ : ∃ A, c.a4 = A := ⟨_, rfl⟩
  obtain ⟨k1, hk1⟩ : ∃ k, c.c1 = k := ⟨_, rfl⟩
  obtain ⟨k2, hk2⟩ : ∃ k, c.c2 = k := ⟨_, rfl⟩
  obtain ⟨k3, hk3⟩ : ∃ k, c.c3 = k := ⟨_, rfl⟩
  obtain ⟨k4, hk4⟩ : ∃ k, c.c4 = k := ⟨_, rfl⟩
  rw [hn1, hn2, hn3, hn4, hwd, hA1, hA2, hA3, hA4, hk1, hk2, hk3, hk4] at hcv
  rw [hcv] at hRi hRr hSm hAt hRAt hRows hRno
  rw [hn1, hn2, hn3, hn4] at hSm
  rw [hn1] at hRows
  rw [hn1, hwd] at hin
  rw [hcv]
  have hgw : RC = true → 1 ≤ wd ∧ wd ≤ 256 ∧ n1 ≤ 200 := fun hr => by have := (hg hr).wide; have := (hg hr).many; omega
  have hrl : ∀ L : List IRow, L.map (·.l) = rowsC c → ∀ k (hk : k < L.length), k < n1 → L[k].l = rowC c wd.toNat k := fun L hL k hk hk2 => by
    have h1 : (L.map (·.l))[k]? = some L[k].l := by rw [List.getElem?_map, List.getElem?_eq_getElem hk]; rfl
    rw [hL] at h1
    unfold rowsC at h1
    rw [hn1, hwd, List.getElem?_map, List.getElem?_range hk2] at h1
    exact (Option.some.inj h1).symm
  obtain ⟨W1, hW1⟩ : ∃ W1, w.alloc (.cells #[.int .i64 wd, .slice A1 n1 k1, .slice A2 n2 k2, .slice A3 n3 k3, .slice A4 n4 k4] 71 (0, 0)) = W1 := ⟨_, rfl⟩
  have b1 : Below w.heap.size w W1 := by rw [← hW1]; exact (Below.refl _ _).alloc (Nat.le_refl _) _
  have s1 : W1.heap[w.heap.size]? = some (.cells #[.int .i64 wd, .slice A1 n1 k1, .slice A2 n2 k2, .slice A3 n3 k3, .slice A4 n4 k4] 71 (0, 0)) := by rw [← hW1]; exact heap_alloc_new _ _
  have HRi := Lib.hid hRi
  have HRr := Lib.hid hRr
  have HSm := Lib.hid hSm
  have HAt := Lib.hid hAt
  have HRAt := Lib.hid hRAt
  have HRows := Lib.hid hRows
  have HRno := Lib.hid hRno
  have HNum := Lib.hid hSn
  have HAl := Lib.hid (hAl W1)
  have HZ := Lib.hid hZ
  have HGW := Lib.hid hgw
  have HRL := Lib.hid hrl
  have HIN := Lib.hid hin
  have HB1 := Lib.hid b1
  have HW1 := Lib.hid hW1
  have HS1 := Lib.hid s1
  clear hself hRi hRr hSm hAt hRAt hRows hRno hSn hAl hZ hg hin hcv hgw hrl b1 hW1 s1 hRC hI hS hn1 hn2 hn3 hn4 hwd hA1 hA2 hA3 hA4 hk1 hk2 hk3 hk4
  go_enter Tryd.func9, Tryd.ntmps9
  go_upto_region 1 with (fail)
  rw [HW1.out]
  go_wp2_with fail
  refine HAl.out.mono ?_
  rintro _ w2 ⟨rfl, hb2⟩
  have hB2 := HB1.out.trans (hb2.mono HB1.out.size)
  have s2 := (hb2.block _ (block_lt HS1.out)).trans HS1.out
  obtain ⟨z0, z1, z2, z3, z4⟩ := box5 s2
  have HB2 := Lib.hid hB2
  have HS2 := Lib.hid s2
  clear hb2 hB2 s2 HAl HB1 HW1 HS1
  by_cases gn1 : (50 : Int) < (n1 : Int)
  · go_wp2
    go_ret
    exact ⟨rfl, HB2.out⟩
  have dn1 : decide ((50 : Int) < (n1 : Int)) = false := by simp; omega
  by_cases gn2 : (50 : Int) < (n2 : Int)
  · go_wp2
    go_ret
    exact ⟨rfl, HB2.out⟩
  have dn2 : decide ((50 : Int) < (n2 : Int)) = false := by simp; omega
  by_cases gn3 : (200 : Int) < (n3 : Int)
  · go_wp2
    go_ret
    exact ⟨rfl, HB2.out⟩
  have dn3 : decide ((200 : Int) < (n3 : Int)) = false := by simp; omega
  by_cases gn4 : (200 : Int) < (n4 : Int)
  · go_wp2
    go_ret
    exact ⟨rfl, HB2.out⟩
  have dn4 : decide ((200 : Int) < (n4 : Int)) = false := by simp; omega
  obtain ⟨WX, hW5⟩ : ∃ WX, w2.alloc (.cells #[.int .i64 wd, .slice A1 n1 k1, .slice A2 n2 k2, .slice A3 n3 k3, .slice A4 n4 k4] 82 (0, 0)) = WX := ⟨_, rfl⟩
  have b5 : Below w2.heap.size w2 WX := by rw [← hW5]; exact (Below.refl _ _).alloc (Nat.le_refl _) _
  have s5 : WX.heap[w2.heap.size]? = some (.cells #[.int .i64 wd, .slice A1 n1 k1, .slice A2 n2 k2, .slice A3 n3 k3, .slice A4 n4 k4] 82 (0, 0)) := by rw [← hW5]; exact heap_alloc_new _ _
  have hB5 := HB2.out.trans (b5.mono HB2.out.size)
  have s5' := (b5.block _ (block_lt HS2.out)).trans HS2.out
  have HSk0 : Hid (∀ W, Below WX.heap.size WX W → ((W.cell? ⟨w.heap.size, 0, none⟩ = some (.int .i64 wd) ∧ W.cell? ⟨w.heap.size, 1, none⟩ = some (.slice A1 n1 k1) ∧ W.cell? ⟨w.heap.size, 2, none⟩ = some (.slice A2 n2 k2) ∧ W.cell? ⟨w.heap.size, 3, none⟩ = some (.slice A3 n3 k3) ∧ W.cell? ⟨w.heap.size, 4, none⟩ = some (.slice A4 n4 k4)) ∧ (W.cell? ⟨w2.heap.size, 0, none⟩ = some (.int .i64 wd) ∧ W.cell? ⟨w2.heap.size, 1, none⟩ = some (.slice A1 n1 k1) ∧ W.cell? ⟨w2.heap.size, 2, none⟩ = some (.slice A2 n2 k2) ∧ W.cell? ⟨w2.heap.size, 3, none⟩ = some (.slice A3 n3 k3) ∧ W.cell? ⟨w2.heap.size, 4, none⟩ = some (.slice A4 n4 k4)))) := Lib.hid (fun W hb => ⟨box5 ((hb.block _ (block_lt s5')).trans s5'), box5 ((hb.block _ (block_lt s5)).trans s5)⟩)
  have HW5 := Lib.hid hW5
  have BW := Lib.hid hB5
  clear b5 s5 hB5 s5' hW5
  have HSn2 := Lib.hid (HSm.out ⟨by omega, by omega, by omega, by omega⟩)
  go_upto_region 6 with (fail)
  rw [HW5.out]
  obtain ⟨⟨z0, z1, z2, z3, z4⟩, y0, y1, y2, y3, y4⟩ := HSk0.out _ (Below.refl _ _)
  clear HW5 HS2 HB2
  obtain ⟨W5, hW5e⟩ : ∃ W5, WX = W5 := ⟨_, rfl⟩
  subst hW5e
  cases RC with
  | false =>
    go_wp2_with fail
    refine (HRno.out (by first | rfl | trivial) _ BW.out).mono ?_
    rintro _ w6 ⟨rfl, hb6⟩
    have HK6 : Hid (∀ W, Below w6.heap.size w6 W → ((W.cell? ⟨w.heap.size, 0, none⟩ = some (.int .i64 wd) ∧ W.cell? ⟨w.heap.size, 1, none⟩ = some (.slice A1 n1 k1) ∧ W.cell? ⟨w.heap.size, 2, none⟩ = some (.slice A2 n2 k2) ∧ W.cell? ⟨w.heap.size, 3, none⟩ = some (.slice A3 n3 k3) ∧ W.cell? ⟨w.heap.size, 4, none⟩ = some (.slice A4 n4 k4)) ∧ (W.cell? ⟨w2.heap.size, 0, none⟩ = some (.int .i64 wd) ∧ W.cell? ⟨w2.heap.size, 1, none⟩ = some (.slice A1 n1 k1) ∧ W.cell? ⟨w2.heap.size, 2, none⟩ = some (.slice A2 n2 k2) ∧ W.cell? ⟨w2.heap.size, 3, none⟩ = some (.slice A3 n3 k3) ∧ W.cell? ⟨w2.heap.size, 4, none⟩ = some (.slice A4 n4 k4)))) := Lib.hid (fun W hb => HSk0.out _ (hb6.trans (hb.mono hb6.size)))
    have B6 := Lib.hid (BW.out.trans (hb6.mono BW.out.size))
    clear z0 z1 z2 z3 z4 y0 y1 y2 y3 y4 hb6
    go_wp2_with fail
    have n0 : Below w6.heap.size w6 w6.drew := (Below.refl _ _).drew
    refine wp_region_noPanic ?_
    refine wp_region_held_drew (S := fun W => (W.cell? ⟨w.heap.size, 0, none⟩ = some (.int .i64 wd) ∧ W.cell? ⟨w.heap.size, 1, none⟩ = some (.slice A1 n1 k1) ∧ W.cell? ⟨w.heap.size, 2, none⟩ = some (.slice A2 n2 k2) ∧ W.cell? ⟨w.heap.size, 3, none⟩ = some (.slice A3 n3 k3) ∧ W.cell? ⟨w.heap.size, 4, none⟩ = some (.slice A4 n4 k4)) ∧ (W.cell? ⟨w2.heap.size, 0, none⟩ = some (.int .i64 wd) ∧ W.cell? ⟨w2.heap.size, 1, none⟩ = some (.slice A1 n1 k1) ∧ W.cell? ⟨w2.heap.size, 2, none⟩ = some (.slice A2 n2 k2) ∧ W.cell? ⟨w2.heap.size, 3, none⟩ = some (.slice A3 n3 k3) ∧ W.cell? ⟨w2.heap.size, 4, none⟩ = some (.slice A4 n4 k4))) (by kernel_rfl) (HK6.out _ n0) (fun hHeld => ?_)
    (refine wpAnyH_take (i := 0) (v := ?v0n1) (by simp only [List.getElem?_toArray, List.getElem?_cons_succ, List.getElem?_cons_zero]; rfl) (by kernel_rfl) (by kernel_rfl) (by kernel_rfl) (fun _ _ _ h => False.elim h) (Or.inl ⟨by rfl, ?hy0n1⟩) (by assumption) ?rest0n1; (case hy0n1 => (intro w hSw; (try dsimp only at hSw); go_simp; (try with_reducible rfl))); (try simp only [Act.put, List.setIfInBounds_toArray, List.set_cons_zero, List.set_cons_succ]))
    (refine wpAnyH_take (i := 2) (v := ?v2n2) (by simp only [List.getElem?_toArray, List.getElem?_cons_succ, List.getElem?_cons_zero]; rfl) (by kernel_rfl) (by kernel_rfl) (by kernel_rfl) (fun _ _ _ h => False.elim h) (Or.inl ⟨by rfl, ?hy2n2⟩) (by assumption) ?rest2n2; (case hy2n2 => (intro w hSw; (try dsimp only at hSw); go_simp; (try with_reducible rfl))); (try simp only [Act.put, List.setIfInBounds_toArray, List.set_cons_zero, List.set_cons_succ]))
    (refine wpAnyH_ready (rs := [1]) (by kernel_rfl) (by simp) ?_; refine AllReadyH.cons (o := _) (by simp only [List.getElem?_toArray, List.getElem?_cons_succ, List.getElem?_cons_zero]; rfl) (fun K hK => ?_) AllReadyH.nil; go_simp; ((with_reducible refine (HRi.out _ (B6.out.trans (n0.mono B6.out.size))).mono ?_); rintro e x1 ⟨rfl, hbx1⟩; have m1 := n0.trans (hbx1.mono n0.size)); refine hK.out _ _ (by exact HK6.out _ m1) (fun hHeld => ?_); clear hK K; (try simp only [Act.put, List.setIfInBounds_toArray, List.set_cons_zero, List.set_cons_succ]))
    (refine wpAnyH_ready (rs := [3]) (by kernel_rfl) (by simp) ?_; refine AllReadyH.cons (o := _) (by simp only [List.getElem?_toArray, List.getElem?_cons_succ, List.getElem?_cons_zero]; rfl) (fun K hK => ?_) AllReadyH.nil; go_simp; ((with_reducible refine (HRr.out _ (B6.out.trans (m1.mono B6.out.size))).mono ?_); rintro e x2 ⟨rfl, hbx2⟩; have m2 := m1.trans (hbx2.mono m1.size)); refine hK.out _ _ (by exact HK6.out _ m2) (fun hHeld => ?_); clear hK K; (try simp only [Act.put, List.setIfInBounds_toArray, List.set_cons_zero, List.set_cons_succ]))
    (refine wpAnyH_take (i := 4) (v := ?v4n3) (by simp only [List.getElem?_toArray, List.getElem?_cons_succ, List.getElem?_cons_zero]; rfl) (by kernel_rfl) (by kernel_rfl) (by kernel_rfl) (fun _ _ _ h => False.elim h) (Or.inl ⟨by rfl, ?hy4n3⟩) (by assumption) ?rest4n3; (case hy4n3 => (intro w hSw; (try dsimp only at hSw); go_simp; (try with_reducible rfl))); (try simp only [Act.put, List.setIfInBounds_toArray, List.set_cons_zero, List.set_cons_succ]))
    (refine wpAnyH_take (i := 5) (v := ?v5n4) (by simp only [List.getElem?_toArray, List.getElem?_cons_succ, List.getElem?_cons_zero]; rfl) (by kernel_rfl) (by kernel_rfl) (by kernel_rfl) (fun _ _ _ h => False.elim h) (Or.inl ⟨by rfl, ?hy5n4⟩) (by assumption) ?rest5n4; (case hy5n4 => (intro w hSw; (try dsimp only at hSw); go_simp; (try with_reducible rfl))); (try simp only [Act.put, List.setIfInBounds_toArray, List.set_cons_zero, List.set_cons_succ]))
    (refine wpAnyH_take (i := 6) (v := ?v6n5) (by simp only [List.getElem?_toArray, List.getElem?_cons_succ, List.getElem?_cons_zero]; rfl) (by kernel_rfl) (by kernel_rfl) (by kernel_rfl) (fun _ _ _ h => False.elim h) (Or.inl ⟨by rfl, ?hy6n5⟩) (by assumption) ?rest6n5; (case hy6n5 => (intro w hSw; (try dsimp only at hSw); go_simp; (try with_reducible rfl))); (try simp only [Act.put, List.setIfInBounds_toArray, List.set_cons_zero, List.set_cons_succ]))
    (refine wpAnyH_take (i := 7) (v := ?v7n6) (by simp only [List.getElem?_toArray, List.getElem?_cons_succ, List.getElem?_cons_zero]; rfl) (by kernel_rfl) (by kernel_rfl) (by kernel_rfl) (fun _ _ _ h => False.elim h) (Or.inl ⟨by rfl, ?hy7n6⟩) (by assumption) ?rest7n6; (case hy7n6 => (intro w hSw; (try dsimp only at hSw); go_simp; (try with_reducible rfl))); (try simp only [Act.put, List.setIfInBounds_toArray, List.set_cons_zero, List.set_cons_succ]))
    (refine wpAnyH_ready (rs := [8]) (by kernel_rfl) (by simp) ?_; refine AllReadyH.cons (o := _) (by simp only [List.getElem?_toArray, List.getElem?_cons_succ, List.getElem?_cons_zero]; rfl) (fun K hK => ?_) AllReadyH.nil; go_simp; ((with_reducible refine (HSn2.out _ (B6.out.trans (m2.mono B6.out.size))).mono ?_); rintro e w7 ⟨rfl, hbw7⟩; have m3 := m2.trans (hbw7.mono m2.size)); refine hK.out _ _ (by exact HK6.out _ m3) (fun hHeld => ?_); clear hK K; (try simp only [Act.put, List.setIfInBounds_toArray, List.set_cons_zero, List.set_cons_succ]))
    (refine wpAnyH_take (i := 9) (v := ?v9n7) (by simp only [List.getElem?_toArray, List.getElem?_cons_succ, List.getElem?_cons_zero]; rfl) (by kernel_rfl) (by kernel_rfl) (by kernel_rfl) (fun _ _ _ h => False.elim h) (Or.inl ⟨by rfl, ?hy9n7⟩) (by assumption) ?rest9n7; (case hy9n7 => (intro w hSw; (try dsimp only at hSw); go_simp; (try with_reducible rfl))); (try simp only [Act.put, List.setIfInBounds_toArray, List.set_cons_zero, List.set_cons_succ]))
    (refine wpAnyH_take (i := 10) (v := ?v10n8) (by simp only [List.getElem?_toArray, List.getElem?_cons_succ, List.getElem?_cons_zero]; rfl) (by kernel_rfl) (by kernel_rfl) (by kernel_rfl) (fun _ _ _ h => False.elim h) (Or.inl ⟨by rfl, ?hy10n8⟩) (by assumption) ?rest10n8; (case hy10n8 => (intro w hSw; (try dsimp only at hSw); go_simp; (try with_reducible rfl))); (try simp only [Act.put, List.setIfInBounds_toArray, List.set_cons_zero, List.set_cons_succ]))
    refine wpAnyH_done (by kernel_rfl) ?_ _
    refine NoPanic.normal ?_
    have B7 := Lib.hid (B6.out.trans (m3.mono B6.out.size))
    have HK7 : Hid (∀ W, Below w7.heap.size w7 W → ((W.cell? ⟨w.heap.size, 0, none⟩ = some (.int .i64 wd) ∧ W.cell? ⟨w.heap.size, 1, none⟩ = some (.slice A1 n1 k1) ∧ W.cell? ⟨w.heap.size, 2, none⟩ = some (.slice A2 n2 k2) ∧ W.cell? ⟨w.heap.size, 3, none⟩ = some (.slice A3 n3 k3) ∧ W.cell? ⟨w.heap.size, 4, none⟩ = some (.slice A4 n4 k4)) ∧ (W.cell? ⟨w2.heap.size, 0, none⟩ = some (.int .i64 wd) ∧ W.cell? ⟨w2.heap.size, 1, none⟩ = some (.slice A1 n1 k1) ∧ W.cell? ⟨w2.heap.size, 2, none⟩ = some (.slice A2 n2 k2) ∧ W.cell? ⟨w2.heap.size, 3, none⟩ = some (.slice A3 n3 k3) ∧ W.cell? ⟨w2.heap.size, 4, none⟩ = some (.slice A4 n4 k4)))) := Lib.hid (fun W hb => HK6.out _ (m3.trans (hb.mono m3.size)))
    clear n0 m1 m2 m3 hbx1 hbx2 hbw7 hHeld HK6 B6 HSk0 BW
    obtain ⟨⟨z0, z1, z2, z3, z4⟩, y0, y1, y2, y3, y4⟩ := HK7.out _ (Below.refl _ _)
    go_wp2_with fail
    refine (HRr.out _ B7.out).mono ?_
    rintro _ w9 ⟨rfl, hb9⟩
    have B9 := Lib.hid (B7.out.trans (hb9.mono B7.out.size))
    have HK9 : Hid (∀ W, Below w9.heap.size w9 W → ((W.cell? ⟨w.heap.size, 0, none⟩ = some (.int .i64 wd) ∧ W.cell? ⟨w.heap.size, 1, none⟩ = some (.slice A1 n1 k1) ∧ W.cell? ⟨w.heap.size, 2, none⟩ = some (.slice A2 n2 k2) ∧ W.cell? ⟨w.heap.size, 3, none⟩ = some (.slice A3 n3 k3) ∧ W.cell? ⟨w.heap.size, 4, none⟩ = some (.slice A4 n4 k4)) ∧ (W.cell? ⟨w2.heap.size, 0, none⟩ = some (.int .i64 wd) ∧ W.cell? ⟨w2.heap.size, 1, none⟩ = some (.slice A1 n1 k1) ∧ W.cell? ⟨w2.heap.size, 2, none⟩ = some (.slice A2 n2 k2) ∧ W.cell? ⟨w2.heap.size, 3, none⟩ = some (.slice A3 n3 k3) ∧ W.cell? ⟨w2.heap.size, 4, none⟩ = some (.slice A4 n4 k4)))) := Lib.hid (fun W hb => HK7.out _ (hb9.trans (hb.mono hb9.size)))
    clear z0 z1 z2 z3 z4 y0 y1 y2 y3 y4 hb9 HK7 B7
    obtain ⟨⟨z0, z1, z2, z3, z4⟩, y0, y1, y2, y3, y4⟩ := HK9.out _ (Below.refl _ _)
    have hz := HZ.out (by first | rfl | trivial)
    have HA1 := Lib.hid (HAt.out row place w9 B9.out)
    rw [hz] at HA1
    clear hz
    go_wp2_with fail
    refine HA1.out.mono ?_
    rintro _ wa ⟨rfl, hba⟩
    have Ba := Lib.hid (B9.out.trans (hba.mono B9.out.size))
    clear hba
    go_wp2_with fail
    refine (HNum.out _ Ba.out).mono ?_
    rintro _ wb ⟨rfl, hbb⟩
    have Bb := Lib.hid (Ba.out.trans (hbb.mono Ba.out.size))
    go_wp2
    go_ret
    exact ⟨rfl, Bb.out⟩
  | true =>
    have HRA := Lib.hid (HRAt.out (by first | rfl | trivial))
    obtain ⟨g1, g2, g3⟩ := HGW.out (by first | rfl | trivial)
    go_wp2_with fail
    refine (HRows.out (by first | rfl | trivial) _ BW.out).mono ?_
    rintro _ w6 ⟨ra, rcap, L, rfl, hLl, hLr, hLo, hLm, hb6⟩
    have HLr := Lib.hid hLr
    have HLo := Lib.hid hLo
    have HLl := Lib.hid hLl
    have HLm := Lib.hid hLm
    clear hLl hLr hLo hLm
    have HK6 : Hid (∀ W, Below w6.heap.size w6 W → ((W.cell? ⟨w.heap.size, 0, none⟩ = some (.int .i64 wd) ∧ W.cell? ⟨w.heap.size, 1, none⟩ = some (.slice A1 n1 k1) ∧ W.cell? ⟨w.heap.size, 2, none⟩ = some (.slice A2 n2 k2) ∧ W.cell? ⟨w.heap.size, 3, none⟩ = some (.slice A3 n3 k3) ∧ W.cell? ⟨w.heap.size, 4, none⟩ = some (.slice A4 n4 k4)) ∧ (W.cell? ⟨w2.heap.size, 0, none⟩ = some (.int .i64 wd) ∧ W.cell? ⟨w2.heap.size, 1, none⟩ = some (.slice A1 n1 k1) ∧ W.cell? ⟨w2.heap.size, 2, none⟩ = some (.slice A2 n2 k2) ∧ W.cell? ⟨w2.heap.size, 3, none⟩ = some (.slice A3 n3 k3) ∧ W.cell? ⟨w2.heap.size, 4, none⟩ = some (.slice A4 n4 k4)))) := Lib.hid (fun W hb => HSk0.out _ (hb6.trans (hb.mono hb6.size)))
    have B6 := Lib.hid (BW.out.trans (hb6.mono BW.out.size))
    clear z0 z1 z2 z3 z4 y0 y1 y2 y3 y4 hb6
    go_wp2_with fail
    have n0 : Below w6.heap.size w6 w6.drew := (Below.refl _ _).drew
    refine wp_region_noPanic ?_
    refine wp_region_held_drew (S := fun W => (W.cell? ⟨w.heap.size, 0, none⟩ = some (.int .i64 wd) ∧ W.cell? ⟨w.heap.size, 1, none⟩ = some (.slice A1 n1 k1) ∧ W.cell? ⟨w.heap.size, 2, none⟩ = some (.slice A2 n2 k2) ∧ W.cell? ⟨w.heap.size, 3, none⟩ = some (.slice A3 n3 k3) ∧ W.cell? ⟨w.heap.size, 4, none⟩ = some (.slice A4 n4 k4)) ∧ (W.cell? ⟨w2.heap.size, 0, none⟩ = some (.int .i64 wd) ∧ W.cell? ⟨w2.heap.size, 1, none⟩ = some (.slice A1 n1 k1) ∧ W.cell? ⟨w2.heap.size, 2, none⟩ = some (.slice A2 n2 k2) ∧ W.cell? ⟨w2.heap.size, 3, none⟩ = some (.slice A3 n3 k3) ∧ W.cell? ⟨w2.heap.size, 4, none⟩ = some (.slice A4 n4 k4))) (by kernel_rfl) (HK6.out _ n0) (fun hHeld => ?_)
    (refine wpAnyH_take (i := 0) (v := ?v0n9) (by simp only [List.getElem?_toArray, List.getElem?_cons_succ, List.getElem?_cons_zero]; rfl) (by kernel_rfl) (by kernel_rfl) (by kernel_rfl) (fun _ _ _ h => False.elim h) (Or.inl ⟨by rfl, ?hy0n9⟩) (by assumption) ?rest0n9; (case hy0n9 => (intro w hSw; (try dsimp only at hSw); go_simp; (try with_reducible rfl))); (try simp only [Act.put, List.setIfInBounds_toArray, List.set_cons_zero, List.set_cons_succ]))
    (refine wpAnyH_take (i := 2) (v := ?v2n10) (by simp only [List.getElem?_toArray, List.getElem?_cons_succ, List.getElem?_cons_zero]; rfl) (by kernel_rfl) (by kernel_rfl) (by kernel_rfl) (fun _ _ _ h => False.elim h) (Or.inl ⟨by rfl, ?hy2n10⟩) (by assumption) ?rest2n10; (case hy2n10 => (intro w hSw; (try dsimp only at hSw); go_simp; (try with_reducible rfl))); (try simp only [Act.put, List.setIfInBounds_toArray, List.set_cons_zero, List.set_cons_succ]))
    (refine wpAnyH_ready (rs := [1]) (by kernel_rfl) (by simp) ?_; refine AllReadyH.cons (o := _) (by simp only [List.getElem?_toArray, List.getElem?_cons_succ, List.getElem?_cons_zero]; rfl) (fun K hK => ?_) AllReadyH.nil; go_simp; ((with_reducible refine (HRi.out _ (B6.out.trans (n0.mono B6.out.size))).mono ?_); rintro e x1 ⟨rfl, hbx1⟩; have m1 := n0.trans (hbx1.mono n0.size)); refine hK.out _ _ (by exact HK6.out _ m1) (fun hHeld => ?_); clear hK K; (try simp only [Act.put, List.setIfInBounds_toArray, List.set_cons_zero, List.set_cons_succ]))
    (refine wpAnyH_ready (rs := [3]) (by kernel_rfl) (by simp) ?_; refine AllReadyH.cons (o := _) (by simp only [List.getElem?_toArray, List.getElem?_cons_succ, List.getElem?_cons_zero]; rfl) (fun K hK => ?_) AllReadyH.nil; go_simp; ((with_reducible refine (HRr.out _ (B6.out.trans (m1.mono B6.out.size))).mono ?_); rintro e x2 ⟨rfl, hbx2⟩; have m2 := m1.trans (hbx2.mono m1.size)); refine hK.out _ _ (by exact HK6.out _ m2) (fun hHeld => ?_); clear hK K; (try simp only [Act.put, List.setIfInBounds_toArray, List.set_cons_zero, List.set_cons_succ]))
    (refine wpAnyH_take (i := 4) (v := ?v4n11) (by simp only [List.getElem?_toArray, List.getElem?_cons_succ, List.getElem?_cons_zero]; rfl) (by kernel_rfl) (by kernel_rfl) (by kernel_rfl) (fun _ _ _ h => False.elim h) (Or.inl ⟨by rfl, ?hy4n11⟩) (by assumption) ?rest4n11; (case hy4n11 => (intro w hSw; (try dsimp only at hSw); go_simp; (try with_reducible rfl))); (try simp only [Act.put, List.setIfInBounds_toArray, List.set_cons_zero, List.set_cons_succ]))
    (refine wpAnyH_take (i := 5) (v := ?v5n12) (by simp only [List.getElem?_toArray, List.getElem?_cons_succ, List.getElem?_cons_zero]; rfl) (by kernel_rfl) (by kernel_rfl) (by kernel_rfl) (fun _ _ _ h => False.elim h) (Or.inl ⟨by rfl, ?hy5n12⟩) (by assumption) ?rest5n12; (case hy5n12 => (intro w hSw; (try dsimp only at hSw); go_simp; (try with_reducible rfl))); (try simp only [Act.put, List.setIfInBounds_toArray, List.set_cons_zero, List.set_cons_succ]))
    (refine wpAnyH_take (i := 6) (v := ?v6n13) (by simp only [List.getElem?_toArray, List.getElem?_cons_succ, List.getElem?_cons_zero]; rfl) (by kernel_rfl) (by kernel_rfl) (by kernel_rfl) (fun _ _ _ h => False.elim h) (Or.inl ⟨by rfl, ?hy6n13⟩) (by assumption) ?rest6n13; (case hy6n13 => (intro w hSw; (try dsimp only at hSw); go_simp; (try with_reducible rfl))); (try simp only [Act.put, List.setIfInBounds_toArray, List.set_cons_zero, List.set_cons_succ]))
    (refine wpAnyH_take (i := 7) (v := ?v7n14) (by simp only [List.getElem?_toArray, List.getElem?_cons_succ, List.getElem?_cons_zero]; rfl) (by kernel_rfl) (by kernel_rfl) (by kernel_rfl) (fun _ _ _ h => False.elim h) (Or.inl ⟨by rfl, ?hy7n14⟩) (by assumption) ?rest7n14; (case hy7n14 => (intro w hSw; (try dsimp only at hSw); go_simp; (try with_reducible rfl))); (try simp only [Act.put, List.setIfInBounds_toArray, List.set_cons_zero, List.set_cons_succ]))
    (refine wpAnyH_ready (rs := [8]) (by kernel_rfl) (by simp) ?_; refine AllReadyH.cons (o := _) (by simp only [List.getElem?_toArray, List.getElem?_cons_succ, List.getElem?_cons_zero]; rfl) (fun K hK => ?_) AllReadyH.nil; go_simp; ((with_reducible refine (HSn2.out _ (B6.out.trans (m2.mono B6.out.size))).mono ?_); rintro e w7 ⟨rfl, hbw7⟩; have m3 := m2.trans (hbw7.mono m2.size)); refine hK.out _ _ (by exact HK6.out _ m3) (fun hHeld => ?_); clear hK K; (try simp only [Act.put, List.setIfInBounds_toArray, List.set_cons_zero, List.set_cons_succ]))
    (refine wpAnyH_take (i := 9) (v := ?v9n15) (by simp only [List.getElem?_toArray, List.getElem?_cons_succ, List.getElem?_cons_zero]; rfl) (by kernel_rfl) (by kernel_rfl) (by kernel_rfl) (fun _ _ _ h => False.elim h) (Or.inl ⟨by rfl, ?hy9n15⟩) (by assumption) ?rest9n15; (case hy9n15 => (intro w hSw; (try dsimp only at hSw); go_simp; (try with_reducible rfl))); (try simp only [Act.put, List.setIfInBounds_toArray, List.set_cons_zero, List.set_cons_succ]))
    (refine wpAnyH_take (i := 10) (v := ?v10n16) (by simp only [List.getElem?_toArray, List.getElem?_cons_succ, List.getElem?_cons_zero]; rfl) (by kernel_rfl) (by kernel_rfl) (by kernel_rfl) (fun _ _ _ h => False.elim h) (Or.inl ⟨by rfl, ?hy10n16⟩) (by assumption) ?rest10n16; (case hy10n16 => (intro w hSw; (try dsimp only at hSw); go_simp; (try with_reducible rfl))); (try simp only [Act.put, List.setIfInBounds_toArray, List.set_cons_zero, List.set_cons_succ]))
    refine wpAnyH_done (by kernel_rfl) ?_ _
    refine NoPanic.normal ?_
    have B7 := Lib.hid (B6.out.trans (m3.mono B6.out.size))
    have HK7 : Hid (∀ W, Below w7.heap.size w7 W → ((W.cell? ⟨w.heap.size, 0, none⟩ = some (.int .i64 wd) ∧ W.cell? ⟨w.heap.size, 1, none⟩ = some (.slice A1 n1 k1) ∧ W.cell? ⟨w.heap.size, 2, none⟩ = some (.slice A2 n2 k2) ∧ W.cell? ⟨w.heap.size, 3, none⟩ = some (.slice A3 n3 k3) ∧ W.cell? ⟨w.heap.size, 4, none⟩ = some (.slice A4 n4 k4)) ∧ (W.cell? ⟨w2.heap.size, 0, none⟩ = some (.int .i64 wd) ∧ W.cell? ⟨w2.heap.size, 1, none⟩ = some (.slice A1 n1 k1) ∧ W.cell? ⟨w2.heap.size, 2, none⟩ = some (.slice A2 n2 k2) ∧ W.cell? ⟨w2.heap.size, 3, none⟩ = some (.slice A3 n3 k3) ∧ W.cell? ⟨w2.heap.size, 4, none⟩ = some (.slice A4 n4 k4)))) := Lib.hid (fun W hb => HK6.out _ (m3.trans (hb.mono m3.size)))
    have Br7 := Lib.hid m3
    clear n0 m1 m2 m3 hbx1 hbx2 hbw7 hHeld HK6 B6 HSk0 BW
    obtain ⟨⟨z0, z1, z2, z3, z4⟩, y0, y1, y2, y3, y4⟩ := HK7.out _ (Below.refl _ _)
    go_wp2_with fail
    refine (HRr.out _ B7.out).mono ?_
    rintro _ w9 ⟨rfl, hb9⟩
    have B9 := Lib.hid (B7.out.trans (hb9.mono B7.out.size))
    have HK9 : Hid (∀ W, Below w9.heap.size w9 W → ((W.cell? ⟨w.heap.size, 0, none⟩ = some (.int .i64 wd) ∧ W.cell? ⟨w.heap.size, 1, none⟩ = some (.slice A1 n1 k1) ∧ W.cell? ⟨w.heap.size, 2, none⟩ = some (.slice A2 n2 k2) ∧ W.cell? ⟨w.heap.size, 3, none⟩ = some (.slice A3 n3 k3) ∧ W.cell? ⟨w.heap.size, 4, none⟩ = some (.slice A4 n4 k4)) ∧ (W.cell? ⟨w2.heap.size, 0, none⟩ = some (.int .i64 wd) ∧ W.cell? ⟨w2.heap.size, 1, none⟩ = some (.slice A1 n1 k1) ∧ W.cell? ⟨w2.heap.size, 2, none⟩ = some (.slice A2 n2 k2) ∧ W.cell? ⟨w2.heap.size, 3, none⟩ = some (.slice A3 n3 k3) ∧ W.cell? ⟨w2.heap.size, 4, none⟩ = some (.slice A4 n4 k4)))) := Lib.hid (fun W hb => HK7.out _ (hb9.trans (hb.mono hb9.size)))
    have Br9 := Lib.hid (Br7.out.trans (hb9.mono Br7.out.size))
    clear z0 z1 z2 z3 z4 y0 y1 y2 y3 y4 hb9 HK7 B7 Br7
    obtain ⟨⟨z0, z1, z2, z3, z4⟩, y0, y1, y2, y3, y4⟩ := HK9.out _ (Below.refl _ _)
    clear z0 z1 z2 z3 z4 y0 y1 y2 y3 y4
    go_wp2_with fail
    have n0 : Below w9.heap.size w9 w9.drew := (Below.refl _ _).drew
    refine wp_region_noPanic ?_
    refine wp_region_held_drew (S := fun W => (W.cell? ⟨w.heap.size, 0, none⟩ = some (.int .i64 wd) ∧ W.cell? ⟨w.heap.size, 1, none⟩ = some (.slice A1 n1 k1) ∧ W.cell? ⟨w.heap.size, 2, none⟩ = some (.slice A2 n2 k2) ∧ W.cell? ⟨w.heap.size, 3, none⟩ = some (.slice A3 n3 k3) ∧ W.cell? ⟨w.heap.size, 4, none⟩ = some (.slice A4 n4 k4)) ∧ (W.cell? ⟨w2.heap.size, 0, none⟩ = some (.int .i64 wd) ∧ W.cell? ⟨w2.heap.size, 1, none⟩ = some (.slice A1 n1 k1) ∧ W.cell? ⟨w2.heap.size, 2, none⟩ = some (.slice A2 n2 k2) ∧ W.cell? ⟨w2.heap.size, 3, none⟩ = some (.slice A3 n3 k3) ∧ W.cell? ⟨w2.heap.size, 4, none⟩ = some (.slice A4 n4 k4))) (by kernel_rfl) (HK9.out _ n0) (fun hHeld => ?_)
    (refine wpAnyH_take (i := 0) (v := ?v0n17) (by simp only [List.getElem?_toArray, List.getElem?_cons_succ, List.getElem?_cons_zero]; rfl) (by kernel_rfl) (by kernel_rfl) (by kernel_rfl) (fun _ _ _ h => False.elim h) (Or.inl ⟨by rfl, ?hy0n17⟩) (by assumption) ?rest0n17; (case hy0n17 => (intro w hSw; (try dsimp only at hSw); go_simp; (try with_reducible rfl))); (try simp only [Act.put, List.setIfInBounds_toArray, List.set_cons_zero, List.set_cons_succ]))
    (refine wpAnyH_take (i := 1) (v := ?v1n18) (by simp only [List.getElem?_toArray, List.getElem?_cons_succ, List.getElem?_cons_zero]; rfl) (by kernel_rfl) (by kernel_rfl) (by kernel_rfl) (fun _ _ _ h => False.elim h) (Or.inl ⟨by rfl, ?hy1n18⟩) (by assumption) ?rest1n18; (case hy1n18 => (intro w hSw; (try dsimp only at hSw); go_simp; (try with_reducible rfl))); (try simp only [Act.put, List.setIfInBounds_toArray, List.set_cons_zero, List.set_cons_succ]))
    (refine wpAnyH_take (i := 2) (v := ?v2n19) (by simp only [List.getElem?_toArray, List.getElem?_cons_succ, List.getElem?_cons_zero]; rfl) (by kernel_rfl) (by kernel_rfl) (by kernel_rfl) (fun _ _ _ h => False.elim h) (Or.inl ⟨by rfl, ?hy2n19⟩) (by assumption) ?rest2n19; (case hy2n19 => (intro w hSw; (try dsimp only at hSw); go_simp; (try with_reducible rfl))); (try simp only [Act.put, List.setIfInBounds_toArray, List.set_cons_zero, List.set_cons_succ]))
    (refine wpAnyH_take (i := 3) (v := ?v3n20) (by simp only [List.getElem?_toArray, List.getElem?_cons_succ, List.getElem?_cons_zero]; rfl) (by kernel_rfl) (by kernel_rfl) (by kernel_rfl) (fun _ _ _ h => False.elim h) (Or.inl ⟨by rfl, ?hy3n20⟩) (by assumption) ?rest3n20; (case hy3n20 => (intro w hSw; (try dsimp only at hSw); go_simp; (try with_reducible rfl))); (try simp only [Act.put, List.setIfInBounds_toArray, List.set_cons_zero, List.set_cons_succ]))
    (refine wpAnyH_take (i := 4) (v := ?v4n21) (by simp only [List.getElem?_toArray, List.getElem?_cons_succ, List.getElem?_cons_zero]; rfl) (by kernel_rfl) (by kernel_rfl) (by kernel_rfl) (fun _ _ _ h => False.elim h) (Or.inl ⟨by rfl, ?hy4n21⟩) (by assumption) ?rest4n21; (case hy4n21 => (intro w hSw; (try dsimp only at hSw); go_simp; (try with_reducible rfl))); (try simp only [Act.put, List.setIfInBounds_toArray, List.set_cons_zero, List.set_cons_succ]))
    (refine wpAnyH_take (i := 5) (v := ?v5n22) (by simp only [List.getElem?_toArray, List.getElem?_cons_succ, List.getElem?_cons_zero]; rfl) (by kernel_rfl) (by kernel_rfl) (by kernel_rfl) (fun _ _ _ h => False.elim h) (Or.inl ⟨by rfl, ?hy5n22⟩) (by assumption) ?rest5n22; (case hy5n22 => (intro w hSw; (try dsimp only at hSw); go_simp; (try with_reducible rfl))); (try simp only [Act.put, List.setIfInBounds_toArray, List.set_cons_zero, List.set_cons_succ]))
    (refine wpAnyH_take (i := 6) (v := ?v6n23) (by simp only [List.getElem?_toArray, List.getElem?_cons_succ, List.getElem?_cons_zero]; rfl) (by kernel_rfl) (by kernel_rfl) (by kernel_rfl) (fun _ _ _ h => False.elim h) (Or.inl ⟨by rfl, ?hy6n23⟩) (by assumption) ?rest6n23; (case hy6n23 => (intro w hSw; (try dsimp only at hSw); go_simp; (try with_reducible rfl))); (try simp only [Act.put, List.setIfInBounds_toArray, List.set_cons_zero, List.set_cons_succ]))
    (refine wpAnyH_take (i := 7) (v := ?v7n24) (by simp only [List.getElem?_toArray, List.getElem?_cons_succ, List.getElem?_cons_zero]; rfl) (by kernel_rfl) (by kernel_rfl) (by kernel_rfl) (fun _ _ _ h => False.elim h) (Or.inl ⟨by rfl, ?hy7n24⟩) (by assumption) ?rest7n24; (case hy7n24 => (intro w hSw; (try dsimp only at hSw); go_simp; (try with_reducible rfl))); (try simp only [Act.put, List.setIfInBounds_toArray, List.set_cons_zero, List.set_cons_succ]))
    (refine wpAnyH_take (i := 8) (v := ?v8n25) (by simp only [List.getElem?_toArray, List.getElem?_cons_succ, List.getElem?_cons_zero]; rfl) (by kernel_rfl) (by kernel_rfl) (by kernel_rfl) (fun _ _ _ h => False.elim h) (Or.inl ⟨by rfl, ?hy8n25⟩) (by assumption) ?rest8n25; (case hy8n25 => (intro w hSw; (try dsimp only at hSw); go_simp; (try with_reducible rfl))); (try simp only [Act.put, List.setIfInBounds_toArray, List.set_cons_zero, List.set_cons_succ]))
    (refine wpAnyH_take (i := 9) (v := ?v9n26) (by simp only [List.getElem?_toArray, List.getElem?_cons_succ, List.getElem?_cons_zero]; rfl) (by kernel_rfl) (by kernel_rfl) (by kernel_rfl) (fun _ _ _ h => False.elim h) (Or.inl ⟨by rfl, ?hy9n26⟩) (by assumption) ?rest9n26; (case hy9n26 => (intro w hSw; (try dsimp only at hSw); go_simp; (try with_reducible rfl))); (try simp only [Act.put, List.setIfInBounds_toArray, List.set_cons_zero, List.set_cons_succ]))
    (refine wpAnyH_take (i := 10) (v := ?v10n27) (by simp only [List.getElem?_toArray, List.getElem?_cons_succ, List.getElem?_cons_zero]; rfl) (by kernel_rfl) (by kernel_rfl) (by kernel_rfl) (fun _ _ _ h => False.elim h) (Or.inl ⟨by rfl, ?hy10n27⟩) (by assumption) ?rest10n27; (case hy10n27 => (intro w hSw; (try dsimp only at hSw); go_simp; (try with_reducible rfl))); (try simp only [Act.put, List.setIfInBounds_toArray, List.set_cons_zero, List.set_cons_succ]))
    (refine wpAnyH_take (i := 11) (v := ?v11n28) (by simp only [List.getElem?_toArray, List.getElem?_cons_succ, List.getElem?_cons_zero]; rfl) (by kernel_rfl) (by kernel_rfl) (by kernel_rfl) (fun _ _ _ h => False.elim h) (Or.inl ⟨by rfl, ?hy11n28⟩) (by assumption) ?rest11n28; (case hy11n28 => (intro w hSw; (try dsimp only at hSw); go_simp; (try with_reducible rfl))); (try simp only [Act.put, List.setIfInBounds_toArray, List.set_cons_zero, List.set_cons_succ]))
    (refine wpAnyH_take (i := 12) (v := ?v12n29) (by simp only [List.getElem?_toArray, List.getElem?_cons_succ, List.getElem?_cons_zero]; rfl) (by kernel_rfl) (by kernel_rfl) (by kernel_rfl) (fun _ _ _ h => False.elim h) (Or.inl ⟨by rfl, ?hy12n29⟩) (by assumption) ?rest12n29; (case hy12n29 => (intro w hSw; (try dsimp only at hSw); go_simp; (try with_reducible rfl))); (try simp only [Act.put, List.setIfInBounds_toArray, List.set_cons_zero, List.set_cons_succ]))
    (refine wpAnyH_take (i := 13) (v := ?v13n30) (by simp only [List.getElem?_toArray, List.getElem?_cons_succ, List.getElem?_cons_zero]; rfl) (by kernel_rfl) (by kernel_rfl) (by kernel_rfl) (fun _ _ _ h => False.elim h) (Or.inl ⟨by rfl, ?hy13n30⟩) (by assumption) ?rest13n30; (case hy13n30 => (intro w hSw; (try dsimp only at hSw); go_simp; (try with_reducible rfl))); (try simp only [Act.put, List.setIfInBounds_toArray, List.set_cons_zero, List.set_cons_succ]))
    (refine wpAnyH_take (i := 15) (v := ?v15n31) (by simp only [List.getElem?_toArray, List.getElem?_cons_succ, List.getElem?_cons_zero]; rfl) (by kernel_rfl) (by kernel_rfl) (by kernel_rfl) (fun _ _ _ h => False.elim h) (Or.inl ⟨by rfl, ?hy15n31⟩) (by assumption) ?rest15n31; (case hy15n31 => (intro w hSw; (try dsimp only at hSw); go_simp; (try with_reducible rfl))); (try simp only [Act.put, List.setIfInBounds_toArray, List.set_cons_zero, List.set_cons_succ]))
    (refine wpAnyH_take (i := 16) (v := ?v16n32) (by simp only [List.getElem?_toArray, List.getElem?_cons_succ, List.getElem?_cons_zero]; rfl) (by kernel_rfl) (by kernel_rfl) (by kernel_rfl) (fun _ _ _ h => False.elim h) (Or.inl ⟨by rfl, ?hy16n32⟩) (by assumption) ?rest16n32; (case hy16n32 => (intro w hSw; (try dsimp only at hSw); go_simp; (try with_reducible rfl))); (try simp only [Act.put, List.setIfInBounds_toArray, List.set_cons_zero, List.set_cons_succ]))
    (refine wpAnyH_take (i := 17) (v := ?v17n33) (by simp only [List.getElem?_toArray, List.getElem?_cons_succ, List.getElem?_cons_zero]; rfl) (by kernel_rfl) (by kernel_rfl) (by kernel_rfl) (fun _ _ _ h => False.elim h) (Or.inl ⟨by rfl, ?hy17n33⟩) (by assumption) ?rest17n33; (case hy17n33 => (intro w hSw; (try dsimp only at hSw); go_simp; (try with_reducible rfl))); (try simp only [Act.put, List.setIfInBounds_toArray, List.set_cons_zero, List.set_cons_succ]))
    (refine wpAnyH_ready (rs := [14]) (by kernel_rfl) (by simp) ?_; refine AllReadyH.cons (o := _) (by simp only [List.getElem?_toArray, List.getElem?_cons_succ, List.getElem?_cons_zero]; rfl) (fun K hK => ?_) AllReadyH.nil; go_simp; ((with_reducible refine (HAt.out row place _ (B9.out.trans (n0.mono B9.out.size))).mono ?_); rintro e x1 ⟨rfl, hbx1⟩; have m1 := n0.trans (hbx1.mono n0.size)); refine hK.out _ _ (by exact HK9.out _ m1) (fun hHeld => ?_); clear hK K; (try simp only [Act.put, List.setIfInBounds_toArray, List.set_cons_zero, List.set_cons_succ]))
    (refine wpAnyH_ready (rs := [18]) (by kernel_rfl) (by simp) ?_; refine AllReadyH.cons (o := _) (by simp only [List.getElem?_toArray, List.getElem?_cons_succ, List.getElem?_cons_zero]; rfl) (fun K hK => ?_) AllReadyH.nil; go_simp; ((with_reducible refine (HRA.out row place _ (B9.out.trans (m1.mono B9.out.size))).mono ?_); rintro e wb ⟨rfl, hbwb⟩; have m2 := m1.trans (hbwb.mono m1.size)); refine hK.out _ _ (by exact HK9.out _ m2) (fun hHeld => ?_); clear hK K; (try simp only [Act.put, List.setIfInBounds_toArray, List.set_cons_zero, List.set_cons_succ]))
    (refine wpAnyH_take (i := 19) (v := ?v19n34) (by simp only [List.getElem?_toArray, List.getElem?_cons_succ, List.getElem?_cons_zero]; rfl) (by kernel_rfl) (by kernel_rfl) (by kernel_rfl) (fun _ _ _ h => False.elim h) (Or.inl ⟨by rfl, ?hy19n34⟩) (by assumption) ?rest19n34; (case hy19n34 => (intro w hSw; (try dsimp only at hSw); go_simp; (try with_reducible rfl))); (try simp only [Act.put, List.setIfInBounds_toArray, List.set_cons_zero, List.set_cons_succ]))
    (refine wpAnyH_take (i := 20) (v := ?v20n35) (by simp only [List.getElem?_toArray, List.getElem?_cons_succ, List.getElem?_cons_zero]; rfl) (by kernel_rfl) (by kernel_rfl) (by kernel_rfl) (fun _ _ _ h => False.elim h) (Or.inl ⟨by rfl, ?hy20n35⟩) (by assumption) ?rest20n35; (case hy20n35 => (intro w hSw; (try dsimp only at hSw); go_simp; (try with_reducible rfl))); (try simp only [Act.put, List.setIfInBounds_toArray, List.set_cons_zero, List.set_cons_succ]))
    refine wpAnyH_done (by kernel_rfl) ?_ _
    refine NoPanic.normal ?_
    have Bb := Lib.hid (B9.out.trans (m2.mono B9.out.size))
    have HKb : Hid (∀ W, Below wb.heap.size wb W → ((W.cell? ⟨w.heap.size, 0, none⟩ = some (.int .i64 wd) ∧ W.cell? ⟨w.heap.size, 1, none⟩ = some (.slice A1 n1 k1) ∧ W.cell? ⟨w.heap.size, 2, none⟩ = some (.slice A2 n2 k2) ∧ W.cell? ⟨w.heap.size, 3, none⟩ = some (.slice A3 n3 k3) ∧ W.cell? ⟨w.heap.size, 4, none⟩ = some (.slice A4 n4 k4)) ∧ (W.cell? ⟨w2.heap.size, 0, none⟩ = some (.int .i64 wd) ∧ W.cell? ⟨w2.heap.size, 1, none⟩ = some (.slice A1 n1 k1) ∧ W.cell? ⟨w2.heap.size, 2, none⟩ = some (.slice A2 n2 k2) ∧ W.cell? ⟨w2.heap.size, 3, none⟩ = some (.slice A3 n3 k3) ∧ W.cell? ⟨w2.heap.size, 4, none⟩ = some (.slice A4 n4 k4)))) := Lib.hid (fun W hb => HK9.out _ (m2.trans (hb.mono m2.size)))
    have Brb := Lib.hid (Br9.out.trans (m2.mono Br9.out.size))
    clear n0 m1 m2 hbx1 hbwb hHeld HK9 B9 Br9
    obtain ⟨⟨z0, z1, z2, z3, z4⟩, y0, y1, y2, y3, y4⟩ := HKb.out _ (Below.refl _ _)
    obtain ⟨m, rfl⟩ : ∃ m : Nat, wd = (m : Int) := ⟨wd.toNat, by omega⟩
    rw [Int.toNat_natCast] at HRL HIN
    go_wp2
    go_loopw [6, 10, 11, 12, 13, 96, 108] (fun _ _ _ _ _ i _ W => ∃ k : Nat, k ≤ n1 ∧ i = .int .i64 k ∧ Below wb.heap.size wb W) (fun _ _ _ _ _ i _ _ => n1 - (intOf i).toNat)
    case atStart => exact ⟨0, Nat.zero_le _, rfl, Below.refl _ _⟩
    case round =>
      clear z0 z1 z2 z3 z4 y0 y1 y2 y3 y4
      obtain ⟨k, hk, rfl, hbl⟩ := hrel
      obtain ⟨wo, hwo⟩ : ∃ wo, wo = wr := ⟨_, rfl⟩
      subst hwo
      by_cases hlt : k < n1
      · have hd : decide ((k : Int) < (n1 : Int)) = true := by simp; omega
        have hkL : k < L.length := by rw [HLl.out]; exact hlt
        have hb6 := Brb.out.trans (hbl.mono Brb.out.size)
        obtain ⟨b, o, ha, hc⟩ := (HLr.out.keep hb6).map_at k hkL
        have hok := (HLo.out _ (List.getElem_mem hkL)).keep hb6
        have hl := HRL.out L HLm.out k hkL hlt
        generalize L[k] = q at *
        obtain ⟨qa, qc, ql⟩ := q
        simp only at hl
        subst hl
        have hrd := hok.rd
        unfold IRow.v at hc
        simp only at hc hrd
        rw [rowC_len] at hc
        subst ha
        obtain ⟨⟨z0, z1, z2, z3, z4⟩, y0, y1, y2, y3, y4⟩ := HKb.out _ hbl
        have HRD := Lib.hid hrd
        have HBL := Lib.hid hbl
        have HC := Lib.hid hc
        clear hok hrd hb6 hbl hkL
        go_wp2
        go_loopw [6, 12, 13, 108] (fun _ _ _ i W => ∃ j : Nat, j ≤ m ∧ i = .int .i64 j ∧ Below wo.heap.size wo W) (fun _ _ _ i _ => m - (intOf i).toNat)
        case atStart => exact ⟨0, Nat.zero_le _, rfl, Below.refl _ _⟩
        case round =>
          clear z0 z1 z2 z3 z4 y0 y1 y2 y3 y4 hc
          obtain ⟨j, hj, rfl, hB⟩ := hrel
          by_cases hlj : j < m
          · have hd2 : decide ((j : Int) < (m : Int)) = true := by simp; omega
            obtain ⟨b2, o2, hqa, hc2⟩ := (HRD.out.keep hB).i64 j (by rw [rowC_len]; exact hlj)
            have hx : (rowC c m k)[j]'(by rw [rowC_len]; exact hlj) = atC c k j := by simp [rowC]
            rw [hx] at hc2
            have hbb := HBL.out.trans (hB.mono HBL.out.size)
            have hbw := Bb.out.trans (hbb.mono Bb.out.size)
            have hC1 := HRA.out (k : Int) (j : Int) wr hbw
            have hC2 := HAt.out (k : Int) (j : Int)
            have hin := HIN.out (by first | rfl | trivial) k j hlt hlj
            rw [hin] at hC1
            rw [hin] at hC2
            obtain ⟨⟨z0, z1, z2, z3, z4⟩, y0, y1, y2, y3, y4⟩ := HKb.out _ hbb
            have HC1 := Lib.hid hC1
            have HC2 := Lib.hid hC2
            have HBB := Lib.hid hbb
            have HBW := Lib.hid hbw
            have HBr := Lib.hid hB
            subst hqa
            generalize atC c k j = x at *
            clear hx hC1 hC2 hin hbb hbw hB
            go_wp2_with (first
              | (go_at_call 48; (with_reducible refine HC1.out.mono ?_); rintro _ wx ⟨rfl, hbx⟩
                 have hbb2 := HBB.out.trans (hbx.mono HBB.out.size)
                 obtain ⟨⟨z0, z1, z2, z3, z4⟩, y0, y1, y2, y3, y4⟩ := HKb.out _ hbb2)
              | (go_at_call 47; (with_reducible refine (HC2.out wx (HBW.out.trans (hbx.mono HBW.out.size))).mono ?_); rintro _ wy ⟨rfl, hby⟩))
            go_roundw
            case rel => first | exact ⟨j + 1, by omega, by go_num, HBr.out.trans ((hbx.trans (hby.mono hbx.size)).mono HBr.out.size)⟩ | ((repeat apply Exists.intro); (refine ⟨?_, ?_⟩); rotate_left 1; (focus (and_intros <;> rfl)); exact ⟨j + 1, by omega, by go_num, HBr.out.trans ((hbx.trans (hby.mono hbx.size)).mono HBr.out.size)⟩)
            case measure => simp [intOf]; omega
          · obtain rfl : j = m := by omega
            have hd2 : decide ((j : Int) < (j : Int)) = false := by simp
            have HBr := Lib.hid hB
            clear hB
            go_wp2
            go_roundw
            case rel => first | exact ⟨k + 1, hlt, by go_num, HBL.out.trans (HBr.out.mono HBL.out.size)⟩ | ((repeat apply Exists.intro); (refine ⟨?_, ?_⟩); rotate_left 1; (focus (and_intros <;> rfl)); exact ⟨k + 1, hlt, by go_num, HBL.out.trans (HBr.out.mono HBL.out.size)⟩)
            case measure => simp [intOf]; omega
      · obtain rfl : k = n1 := by omega
        have hd : decide ((k : Int) < (k : Int)) = false := by simp
        have HBL := Lib.hid hbl
        clear hbl
        go_wp2
        go_ret
        exact ⟨rfl, Bb.out.trans (HBL.out.mono Bb.out.size)⟩
end Cb
end Go.Proofs.YteekonojmpihlaaDoor
