/- Package comb: own. -/
import Derived.Test.YteekonojmpihlaaDoorQCbCommon
import Derived.Test.YteekonojmpihlaaDoorQIOut
namespace Go.Proofs.YteekonojmpihlaaDoor
namespace Kt
end Kt
open Go Go.RowKit Kt
namespace Cb
def ownP (row : List Int) (k : Nat) : List Nat := (List.range k).filter fun i => decide (row.getD i 0 ≠ cmn row)
theorem ownP_succ (row : List Int) (k : Nat) : ownP row (k + 1) = if row.getD k 0 ≠ cmn row then ownP row k ++ [k] else ownP row k := by
  unfold ownP
  rw [List.range_succ, List.filter_append]
  split
  · rename_i h
    rw [List.filter_cons_of_pos (by simpa using h)]
    rfl
  · rename_i h
    rw [List.filter_cons_of_neg (by simpa using h)]
    simp
theorem ownP_len (row : List Int) (k : Nat) : (ownP row k).length ≤ k := by
  unfold ownP
  exact Nat.le_trans (List.length_filter_le _ _) (by rw [List.length_range]; exact Nat.le_refl _)
def ints (l : List Nat) : List Int := l.map fun (i : Nat) => (i : Int)
theorem ints_len (l : List Nat) : (ints l).length = l.length := by simp [ints]
def OxR (w W0 : World) (row : List Int) (n : Nat) (s i : Value) (W : World) : Prop := ∃ (k : Nat) (a : Option Addr) (cap m : Nat), k ≤ n ∧ i = .int .i64 (k : Int) ∧ s = .slice a m cap ∧ (ownP row k).length = m ∧ W.ownsRow W0.heap.size 3 1 (.slice a m cap) m (i64s (ints (ownP row k))) ∧ Below W0.heap.size W0 W ∧ Below w.heap.size w W
set_option maxRecDepth 100000 in
set_option maxHeartbeats 2000000 in
theorem own_c (row : List Int) (a : Option Addr) (n cap : Nat) (hn : row.length = n) (h0 : 0 < n) (hl : n ≤ 1000) (hw : ∀ x ∈ row, (Lit.int .i64 x).wf = true) (w : World) (hr : Rd w a (i64s row)) :
    Calls Tryd.prog 74 #[.slice a n cap] w fun e w' => ∃ r : IRow, e = .returned r.v ∧ r.ok w' ∧ r.l = ints (ownL row) ∧ (∀ p, r.a = some p → w.heap.size ≤ p.block ∧ p.block < w'.heap.size ∧ p.off = 0 ∧ p.spot = none) ∧ Below w.heap.size w w' := by
  have HC := Lib.hid (common_c row a n cap hn h0 hl hw w hr)
  have HR := Lib.hid hr
  have HN := Lib.hid hn
  clear hr hn hw
  go_enter Tryd.func74, Tryd.ntmps74
  go_wp2_with fail
  refine HC.out.mono ?_
  rintro _ w2 ⟨rfl, hb2⟩
  have HB2 := Lib.hid hb2
  clear hb2 HC
  obtain ⟨CM, hCM⟩ : ∃ x, cmn row = x := ⟨_, rfl⟩
  have HCM := Lib.hid hCM
  rw [hCM]
  clear hCM
  go_wp2
  go_loopw [3, 5, 6, 11] (fun s _ _ i W => OxR w w2 row n s i W) (fun _ _ _ i _ => n - (intOf i).toNat)
  case atStart => exact ⟨0, none, 0, 0, Nat.zero_le _, rfl, rfl, rfl, ⟨rfl, .inl ⟨rfl, rfl⟩⟩, Below.refl _ _, HB2.out⟩
  case round =>
    obtain ⟨k, sa, sc, m, hk, rfl, rfl, hm, hown, hB0, hB⟩ := hrel
    have hmk : m ≤ k := by rw [← hm]; exact ownP_len row k
    by_cases hlt : k < n
    · obtain ⟨b, o, ha, hc⟩ := rd_i64 (HR.out.keep hB) k (by rw [HN.out]; exact hlt)
      have hps := ownP_succ row k
      rw [HCM.out] at hps
      generalize row.getD k 0 = x at *
      have hlti : (k : Int) < (n : Int) := by omega
      subst ha
      by_cases hx : x = CM
      · rw [if_neg (fun h => h hx)] at hps
        have hxb : (x != CM) = false := by simpa using hx
        have hxd : decide (x = CM) = true := by simpa using hx
        have HO := Lib.hid hown
        have HB0 := Lib.hid hB0
        have HB := Lib.hid hB
        have HM := Lib.hid hm
        have HPS := Lib.hid hps
        clear hown hB0 hB hm hps
        go_wp2
        go_roundw
        case rel => exact ⟨k + 1, sa, sc, m, hlt, by go_num, rfl, by rw [HPS.out]; exact HM.out, by rw [HPS.out]; exact HO.out, HB0.out, HB.out⟩
        case measure => simp [intOf]; omega
      · rw [if_pos hx] at hps
        have hxb : (x != CM) = true := by simpa using hx
        have hxd : decide (x = CM) = false := by simpa using hx
        have b2 := (Below.refl wr.heap.size wr).alloc (Nat.le_refl _) (.cells #[.int .i64 (k : Int)] 3)
        obtain ⟨v', w6, hrun, own2, gr2, _⟩ := Mk.elI.append w2.heap.size (ty := 69) (own_keep hown b2) 1 1 rfl (Rd.new wr #[.int .i64 (k : Int)] 3 (0, 0) (i64s [(k : Int)]) rfl) (fun h => by cases h) (oneCell_i64s _) (by unfold maxLen; omega) (by omega) (by have := hB0.size; simp; omega)
        obtain ⟨a2, c2, rfl, _, _, _, _⟩ := rd_own own2
        have hg := below_grown (B := w2.heap.size) (own_keep hown b2) gr2 (Nat.le_refl _) (by have := hB0.size; simp; omega)
        have hB6 := (hB0.alloc hB0.size (.cells #[.int .i64 (k : Int)] 3)).trans hg
        have hB7 := HB2.out.trans (hB6.mono HB2.out.size)
        have hpl : (ownP row (k + 1)).length = m + 1 := by rw [hps, List.length_append, hm]; rfl
        rw [← i64s_append] at own2
        have e1 : ints (ownP row k) ++ [(k : Int)] = ints (ownP row (k + 1)) := by rw [hps]; simp [ints]
        rw [e1] at own2
        have HO2 := Lib.hid own2
        have HB6 := Lib.hid hB6
        have HB7 := Lib.hid hB7
        have HPL := Lib.hid hpl
        clear own2 gr2 hg hB6 hB7 b2 hpl e1 hps hown hB0 hB hm
        go_wp2_with (at_builtin; (with_reducible apply wpList_append_run hrun); rfl; rfl; rfl; rfl; rfl)
        go_roundw
        case rel => exact ⟨k + 1, a2, c2, m + 1, hlt, by go_num, rfl, HPL.out, HO2.out, HB6.out, HB7.out⟩
        case measure => simp [intOf]; omega
    · obtain rfl : k = n := by omega
      have hol : ownP row k = ownL row := by unfold ownP ownL; rw [HN.out, HCM.out]
      obtain ⟨hok, hrv, hpl⟩ := IRow.of_own hown (by rw [ints_len]; exact hm)
      have hof : ∀ p, sa = some p → p.off = 0 ∧ p.spot = none := fun p hp => by
        obtain ⟨a', cap', h1, _, _, _, h5⟩ := rd_own hown
        simp only [Value.slice.injEq] at h1
        exact (h5 p (by rw [← h1.1]; exact hp)).2
      have HOf := Lib.hid hof
      rw [hol] at hok hrv
      have hlt' : ¬ ((k : Int) < (k : Int)) := by omega
      have HOK := Lib.hid hok
      have HRV := Lib.hid hrv
      have HPL := Lib.hid hpl
      have HB := Lib.hid hB
      clear hown hok hrv hpl hB0 hB hm hol hof
      go_wp2
      go_ret
      refine ⟨⟨sa, sc, ints (ownL row)⟩, ?_, HOK.out, rfl, fun p hp => ?_, HB.out⟩
      · rw [HRV.out]
        rfl
      · obtain ⟨h1, h2⟩ := HPL.out p hp
        have := HB2.out.size
        exact ⟨by omega, h2, HOf.out p hp⟩
end Cb
end Go.Proofs.YteekonojmpihlaaDoor
