/- Package comb: Rows. -/
import Derived.Test.YteekonojmpihlaaDoorQCbSame
import Derived.Test.YteekonojmpihlaaDoorQIOut
namespace Go.Proofs.YteekonojmpihlaaDoor
namespace Kt
end Kt
open Go Go.RowKit Kt
namespace Cb
/-- A row of a right comb. -/
def rowC (c : Cs) (m r : Nat) : List Int := (List.range m).map fun p => atC c r p
theorem rowC_len (c : Cs) (m r : Nat) : (rowC c m r).length = m := by simp [rowC]
theorem rowC_succ (c : Cs) (m r : Nat) : rowC c (m + 1) r = rowC c m r ++ [atC c r m] := by
  unfold rowC
  rw [List.range_succ, List.map_append]
  rfl
def rowsC (c : Cs) : List (List Int) := (List.range c.base.length).map (rowC c c.wide.toNat)
structure Rs (w : World) (base : Nat) (c : Cs) (m : Nat) (v : Value) (k : Nat) (L : List IRow) (W : World) : Prop where
  out : IOut base v L W
  many : L.length = k
  ls : L.map (·.l) = (List.range k).map (rowC c m)
  below : Below w.heap.size w W
def RxR (w : World) (base : Nat) (c : Cs) (m n : Nat) (W0 : World) (o i : Value) (W : World) : Prop := ∃ (k : Nat) (a : Option Addr) (cap : Nat) (L : List IRow), k ≤ n ∧ i = .int .i64 (k : Int) ∧ o = .slice a k cap ∧ Rs w base c m (.slice a k cap) k L W ∧ Below base W0 W
def RyR (W0 : World) (c : Cs) (r m : Nat) (s i : Value) (W : World) : Prop := ∃ (j : Nat) (a : Option Addr) (cap : Nat), j ≤ m ∧ i = .int .i64 (j : Int) ∧ s = .slice a j cap ∧ W.ownsRow W0.heap.size 3 1 (.slice a j cap) j (i64s (rowC c j r)) ∧ Below W0.heap.size W0 W
set_option maxHeartbeats 8000000 in
set_option maxRecDepth 100000 in
theorem rows_c (c : Cs) (hG : rightC c = true) (w : World) (hI : Is w c) :
    Calls Tryd.prog 38 #[cv c] w fun e w' => ∃ (a : Option Addr) (cap : Nat) (L : List IRow), e = .returned (.tuple #[.slice a c.base.length cap, .nilIface]) ∧ L.length = c.base.length ∧ Rd w' a (L.map IRow.v) ∧ (∀ r ∈ L, r.ok w') ∧ L.map (·.l) = rowsC c ∧ Below w.heap.size w w' := by
  have hg := good_of hG
  have hRi := Right_c c
  have hAt := at_c c
  unfold rowsC
  have hcv : cv c = .agg #[.int .i64 c.wide, .slice c.a1 c.base.length c.c1, .slice c.a2 c.dflt.length c.c2, .slice c.a3 c.next.length c.c3, .slice c.a4 c.check.length c.c4] := rfl
  rw [hcv] at hAt
  rw [hcv, hG] at hRi
  rw [hcv]
  obtain ⟨n1, hn1⟩ : ∃ n1, c.base.length = n1 := ⟨_, rfl⟩
  obtain ⟨n2, hn2⟩ : ∃ n2, c.dflt.length = n2 := ⟨_, rfl⟩
  obtain ⟨n3, hn3⟩ : ∃ n3, c.next.length = n3 := ⟨_, rfl⟩
  obtain ⟨n4, hn4⟩ : ∃ n4, c.check.length = n4 := ⟨_, rfl⟩
  obtain ⟨m, hm⟩ : ∃ m : Nat, c.wide = (m : Int) := ⟨c.wide.toNat, by have := hg.wide; omega⟩
  have hAt2 : ∀ (r p : Nat), r < n1 → p ≤ 256 → ∀ W, Is W c → Calls Tryd.prog 79 #[.agg #[.int .i64 (m : Int), .slice c.a1 n1 c.c1, .slice c.a2 n2 c.c2, .slice c.a3 n3 c.c3, .slice c.a4 n4 c.c4], .int .i64 (r : Int), .int .i64 (p : Int)] W fun e w' => e = .returned (.int .i64 (atC c r p)) ∧ Below W.heap.size W w' := fun r p hr hp W hW => by
    have := hAt r p (by omega) (hg.bases r (by omega)).1 (by have := (hg.bases r (by omega)).2; omega) hp hg.next hg.dflt hg.slots hg.many.2 W hW
    rw [hn1, hn2, hn3, hn4, hm] at this
    exact this
  rw [hn1, hn2, hn3, hn4, hm] at hRi
  rw [hn1, hn2, hn3, hn4, hm]
  have hm2 : m ≤ 256 := by have := hg.wide; omega
  have hn2b : n1 ≤ 200 := by have := hg.many; omega
  have htn : ((m : Int)).toNat = m := by omega
  rw [htn]
  obtain ⟨W1, hW1⟩ : ∃ W1, w.alloc (.cells #[.int .i64 (m : Int), .slice c.a1 n1 c.c1, .slice c.a2 n2 c.c2, .slice c.a3 n3 c.c3, .slice c.a4 n4 c.c4] 71 (0, 0)) = W1 := ⟨_, rfl⟩
  have b1 : Below w.heap.size w W1 := by rw [← hW1]; exact (Below.refl _ _).alloc (Nat.le_refl _) _
  have s1 : W1.heap[w.heap.size]? = some (.cells #[.int .i64 (m : Int), .slice c.a1 n1 c.c1, .slice c.a2 n2 c.c2, .slice c.a3 n3 c.c3, .slice c.a4 n4 c.c4] 71 (0, 0)) := by rw [← hW1]; exact heap_alloc_new _ _
  obtain ⟨z0, z1, z2, z3, z4⟩ := box5 s1
  have HRi := Lib.hid (hRi W1 (hI.below b1))
  have HAt := Lib.hid hAt2
  have HB1 := Lib.hid b1
  have HW1 := Lib.hid hW1
  have HS1 := Lib.hid s1
  have HI := Lib.hid hI
  obtain ⟨A1, hA1⟩ : ∃ A, c.a1 = A := ⟨_, rfl⟩
  obtain ⟨A2, hA2⟩ : ∃ A, c.a2 = A := ⟨_, rfl⟩
  obtain ⟨A3, hA3⟩ : ∃ A, c.a3 = A := ⟨_, rfl⟩
  obtain ⟨A4, hA4⟩ : ∃ A, c.a4 = A := ⟨_, rfl⟩
  rw [hA1, hA2, hA3, hA4] at HRi HAt HW1 HS1
  rw [hA1] at z1
  rw [hA2] at z2
  rw [hA3] at z3
  rw [hA4] at z4
  rw [hA1, hA2, hA3, hA4]
  obtain ⟨k1, hk1⟩ : ∃ k, c.c1 = k := ⟨_, rfl⟩
  obtain ⟨k2, hk2⟩ : ∃ k, c.c2 = k := ⟨_, rfl⟩
  obtain ⟨k3, hk3⟩ : ∃ k, c.c3 = k := ⟨_, rfl⟩
  obtain ⟨k4, hk4⟩ : ∃ k, c.c4 = k := ⟨_, rfl⟩
  rw [hk1, hk2, hk3, hk4] at HRi HAt HW1 HS1
  rw [hk1] at z1
  rw [hk2] at z2
  rw [hk3] at z3
  rw [hk4] at z4
  rw [hk1, hk2, hk3, hk4]
  clear hRi hAt hAt2 b1 hW1 hcv s1 hI hG hg hn1 hn2 hn3 hn4 hm htn hA1 hA2 hA3 hA4 hk1 hk2 hk3 hk4
  go_enter Tryd.func38, Tryd.ntmps38
  go_upto_region 1 with (fail)
  rw [HW1.out]
  go_wp2_with fail
  refine HRi.out.mono ?_
  rintro _ W4 ⟨rfl, hb2⟩
  have hB4 := HB1.out.trans (hb2.mono HB1.out.size)
  have s4 := (hb2.block _ (block_lt HS1.out)).trans HS1.out
  clear z0 z1 z2 z3 z4
  obtain ⟨z0, z1, z2, z3, z4⟩ := box5 s4
  have HM0 := Lib.hid (show Rs w W4.heap.size c m (.slice none 0 0) 0 [] W4 from ⟨IOut.nil _ _, rfl, by simp, hB4⟩)
  have HS4 := Lib.hid s4
  have HB4 := Lib.hid hB4
  clear hb2 hB4 s4 HRi HB1 HW1 HS1
  go_wp2
  go_loopw [4, 5, 6, 7, 15, 20] (fun o _ _ _ i _ W => RxR w W4.heap.size c m n1 W4 o i W) (fun _ _ _ _ i _ _ => n1 - (intOf i).toNat)
  case atStart => exact ⟨0, none, 0, [], by omega, rfl, rfl, HM0.out, Below.refl _ _⟩
  case round =>
    clear HM0 z0 z1 z2 z3 z4
    obtain ⟨k, a, cap, L, hk, rfl, rfl, hM, hbW⟩ := hrel
    obtain ⟨wo, hwo⟩ : ∃ wo, wo = wr := ⟨_, rfl⟩
    subst hwo
    by_cases hlt : k < n1
    · have hd : decide ((k : Int) < (n1 : Int)) = true := by simp; omega
      have so := (hbW.block _ (block_lt HS4.out)).trans HS4.out
      obtain ⟨z0, z1, z2, z3, z4⟩ := box5 so
      have HSo := Lib.hid so
      have HM := Lib.hid hM
      have HbW := Lib.hid hbW
      clear hM hbW so
      go_wp2
      go_loopw [6, 7, 20] (fun s _ i W => RyR wo c k m s i W) (fun _ _ i _ => m - (intOf i).toNat)
      case atStart => exact ⟨0, none, 0, by omega, rfl, rfl, ⟨rfl, .inl ⟨rfl, rfl⟩⟩, Below.refl _ _⟩
      case round =>
        clear z0 z1 z2 z3 z4
        obtain ⟨j, sa, sc, hj, rfl, rfl, hown, hB⟩ := hrel
        by_cases hlj : j < m
        · have hd2 : decide ((j : Int) < (m : Int)) = true := by simp; omega
          have sr := (hB.block _ (block_lt HSo.out)).trans HSo.out
          obtain ⟨z0, z1, z2, z3, z4⟩ := box5 sr
          have hcall := HAt.out k j hlt (by omega) wr (HI.out.below (HM.out.below.trans (hB.mono HM.out.below.size)))
          have HC := Lib.hid hcall
          have HO := Lib.hid hown
          have HBr := Lib.hid hB
          have hrs := rowC_succ c j k
          have hszr := hB.size
          clear hcall hown hB sr
          go_wp2_with fail
          refine HC.out.mono ?_
          rintro _ w5 ⟨rfl, hb5⟩
          generalize atC c k j = x at *
          have b2 := (Below.refl w5.heap.size w5).alloc (Nat.le_refl _) (.cells #[.int .i64 x] 3)
          have hsz5 := hb5.size
          obtain ⟨v', w6, hrun, own2, gr2, _⟩ := Mk.elI.append wo.heap.size (ty := 69) (own_keep (own_keep HO.out hb5) b2) 1 1 rfl (Rd.new w5 #[.int .i64 x] 3 (0, 0) (i64s [x]) rfl) (fun h => by cases h) (oneCell_i64s _) (by unfold maxLen; omega) (by omega) (by simp; omega)
          obtain ⟨a2, c2, rfl, _, _, _, _⟩ := rd_own own2
          have hg := below_grown (B := wo.heap.size) (own_keep (own_keep HO.out hb5) b2) gr2 (Nat.le_refl _) (by simp; omega)
          have hB6 := ((HBr.out.trans (hb5.mono hszr)).alloc (Nat.le_trans hszr hsz5) (.cells #[.int .i64 x] 3)).trans hg
          rw [← i64s_append, ← hrs] at own2
          have HO2 := Lib.hid own2
          have HB6 := Lib.hid hB6
          clear own2 gr2 hg hB6 b2 hrs hb5 HO HC z0 z1 z2 z3 z4
          go_wp2_with (at_builtin; (with_reducible apply wpList_append_run hrun); rfl; rfl; rfl; rfl; rfl)
          go_roundw
          case rel => first | exact ⟨j + 1, a2, c2, by omega, by go_num, rfl, HO2.out, HB6.out⟩ | ((repeat apply Exists.intro); refine ⟨?r, ?f⟩; (case f => (and_intros <;> rfl)); exact ⟨j + 1, a2, c2, by omega, by go_num, rfl, HO2.out, HB6.out⟩)
          case measure => simp [intOf]; omega
        · have hjm : j = m := by omega
          subst hjm
          have hd2 : decide ((j : Int) < (j : Int)) = false := by simp
          obtain ⟨hok, hrv, hpl⟩ := IRow.of_own hown (rowC_len c j k)
          have hb4o := HbW.out.size
          have hout := HM.out.out.step hB
          have howb : ∀ p : Addr, sa = some p → p.block < wr.heap.size ∧ (Value.slice a k cap).ownBlock ≠ some p.block := fun p hp => by
            obtain ⟨h1, h2⟩ := hpl p hp
            refine ⟨h2, fun he => ?_⟩
            have := (HM.out.out.own.lt _ he).2
            omega
          obtain ⟨a2, c2, w6, hrun, hO2, hB2⟩ := hout.push HM.out.many (by omega) (by have := hB.size; omega) (IRow.mk sa sc (rowC c j k)) hok howb
          rw [hrv] at hrun
          have hRs : Rs w W4.heap.size c j (.slice a2 (k + 1) c2) (k + 1) (L ++ [IRow.mk sa sc (rowC c j k)]) w6 := ⟨hO2, by rw [List.length_append, HM.out.many]; rfl, by rw [List.map_append, HM.out.ls, List.range_succ, List.map_append]; rfl, (HM.out.below.trans (hB.mono HM.out.below.size)).trans (hB2.mono HB4.out.size)⟩
          have HRs := Lib.hid hRs
          have HbW6 := Lib.hid ((HbW.out.trans (hB.mono HbW.out.size)).trans hB2)
          clear hown hok hrv hpl hout howb hO2 hB2 hRs hB
          go_wp2_with (at_builtin; (with_reducible apply wpList_append_run hrun); rfl; rfl; rfl; rfl; rfl)
          go_roundw
          case rel => first | exact ⟨k + 1, a2, c2, _, hlt, by go_num, rfl, HRs.out, HbW6.out⟩ | ((repeat apply Exists.intro); refine ⟨?r, ?f⟩; (case f => (and_intros <;> rfl)); exact ⟨k + 1, a2, c2, _, hlt, by go_num, rfl, HRs.out, HbW6.out⟩)
          case measure => simp [intOf]; omega
    · have hkn : k = n1 := by omega
      subst hkn
      have hd : decide ((k : Int) < (k : Int)) = false := by simp
      have HRd := Lib.hid (Rd.own (show wo.ownsRow W4.heap.size 69 1 (.slice a k cap) k (L.map IRow.v) from by have := hM.out.own; rw [hM.many] at this; exact this))
      have HM := Lib.hid hM
      clear hM hbW
      go_wp2
      go_ret2
      exact ⟨a, cap, L, rfl, HM.out.many, HRd.out, HM.out.out.ok, HM.out.ls, HM.out.below⟩
end Cb
end Go.Proofs.YteekonojmpihlaaDoor
