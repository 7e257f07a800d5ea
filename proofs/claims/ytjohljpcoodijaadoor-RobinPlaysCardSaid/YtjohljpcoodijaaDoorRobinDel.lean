/- slices.Delete at robin's members. -/
import Derived.Test.YtjohljpcoodijaaDoorRobinFind
import Derived.Test.YtjohljpcoodijaaDoorClear
namespace Go.Proofs.YtjohljpcoodijaaDoor
open Go Go.RowKit Kt
namespace Rb
theorem el : El Tryd.prog 114 118 (.agg #[.int .i64 0, .int .i64 0]) 2 16 := ⟨Tryd.underlying114, info_parts (by kernel_rfl), rfl, by decide⟩
theorem elI : El Tryd.prog 32 3 (.int .i64 0) 1 8 := ⟨Tryd.underlying32, info_parts (by kernel_rfl), rfl, by decide⟩

theorem fm_len (l : List (Int × Int)) : (l.flatMap c2).length = l.length * 2 := by
  induction l with
  | nil => rfl
  | cons x l ih => rw [List.flatMap_cons, List.length_append, ih, List.length_cons, show (c2 x).length = 2 from rfl]; omega
theorem fm_take (l : List (Int × Int)) (k : Nat) : (l.flatMap c2).take (k * 2) = (l.take k).flatMap c2 := by
  induction l generalizing k with
  | nil => simp
  | cons x l ih =>
    cases k with
    | zero => simp
    | succ k =>
      rw [List.take_succ_cons, List.flatMap_cons, List.flatMap_cons, ← ih, show (k + 1) * 2 = (c2 x).length + k * 2 by rw [show (c2 x).length = 2 from rfl]; omega, List.take_length_add_append]
theorem fm_drop (l : List (Int × Int)) (k : Nat) : (l.flatMap c2).drop (k * 2) = (l.drop k).flatMap c2 := by
  induction l generalizing k with
  | nil => simp
  | cons x l ih =>
    cases k with
    | zero => simp
    | succ k =>
      rw [List.drop_succ_cons, List.flatMap_cons, ← ih, show (k + 1) * 2 = (c2 x).length + k * 2 by rw [show (c2 x).length = 2 from rfl]; omega, List.drop_length_add_append]
theorem one_c2 (l : List (Int × Int)) : ∀ u ∈ l.flatMap c2, u.oneCell' = true := by
  intro u hu
  obtain ⟨x, _, hx⟩ := List.mem_flatMap.1 hu
  simp [c2] at hx
  rcases hx with rfl | rfl <;> rfl

set_option maxHeartbeats 1000000 in
set_option maxRecDepth 100000 in
theorem del_c (g n m cap i : Nat) (I J : Int) (hI : I = (i : Int)) (hJ : J = (i : Int) + 1) (l : List (Int × Int)) (w : World) (hn : l.length = n) (hi : i < n) (hm : n = m + 1) (own : w.ownsRow 0 118 2 (.slice (some ⟨g, 0, none⟩) n cap) n (l.flatMap c2)) :
    Calls Tryd.prog 79 #[.slice (some ⟨g, 0, none⟩) n cap, .int .i64 I, .int .i64 J] w fun e w' => e = .returned (.slice (some ⟨g, 0, none⟩) m cap) ∧
      w'.ownsRow 0 118 2 (.slice (some ⟨g, 0, none⟩) m cap) m ((l.eraseIdx i).flatMap c2) ∧ Mod [g] w w' := by
  subst hI hJ
  obtain ⟨a', cap', hx, hc1, hc2, hrd, _⟩ := rd_own own
  simp only [Value.slice.injEq] at hx
  obtain ⟨rfl, _, rfl⟩ := hx
  have hcap : cap ≤ 9223372036854775807 := by unfold maxLen at hc2; exact hc2
  have own1 := (own_keep (own_cut own (Nat.le_of_lt hi)) ((Below.refl _ w).drew))
  have hsrc : Rd w.drew (some ⟨g, (i + 1) * 2, none⟩) ((l.drop (i + 1)).flatMap c2) := by
    have := (hrd.drop ((i + 1) * 2)).keep (Below.refl _ w).drew
    rwa [fm_drop, Nat.zero_add] at this
  rw [fm_take] at own1
  obtain ⟨A, hA, hsA⟩ : ∃ A : Addr, (if cap = i + 1 then (some ⟨g, 0, none⟩ : Option Addr) else some ⟨g, (i + 1) * 2, none⟩) = some A ∧ Rd w.drew (some A) ((l.drop (i + 1)).flatMap c2) := by
    by_cases h : cap = i + 1
    · exact ⟨⟨g, 0, none⟩, by simp [h], by rw [List.drop_of_length_le (by omega)]; exact Rd.nil _ _⟩
    · exact ⟨_, by simp only [h, if_false], hsrc⟩
  obtain ⟨w2, hrun, own2, gr2⟩ := el.fits 0 (ty := 114) own1 (n - (i + 1)) (cap - (i + 1)) (by rw [fm_len, List.length_drop, hn]) hsA (fun h => by cases h) (one_c2 _) (by omega)
  have her : (l.take i).flatMap c2 ++ (l.drop (i + 1)).flatMap c2 = (l.eraseIdx i).flatMap c2 := by rw [← List.flatMap_append, List.eraseIdx_eq_take_drop_succ]
  rw [her, show i + (n - (i + 1)) = m by omega] at own2
  rw [show i + (n - (i + 1)) = m by omega] at hrun
  -- the row as the clear meets it: n elements, the last one to be cleared
  have own2n : ∃ ys, w2.ownsRow 0 118 2 (.slice (some ⟨g, 0, none⟩) n cap) n ys ∧ ys.take (m * 2) = (l.eraseIdx i).flatMap c2 := by
    obtain ⟨h1, ⟨hx, _⟩ | ⟨g', cap', cur, hx, h2, h3, h4, h5, h6, h7⟩⟩ := own2
    · cases hx
    · simp only [Value.slice.injEq, Option.some.injEq, Addr.mk.injEq, and_true, true_and] at hx
      obtain ⟨rfl, rfl⟩ := hx
      have hle : n * 2 ≤ cap * 2 := Nat.mul_le_mul_right _ hc1
      refine ⟨cur.toList.take (n * 2), ⟨by simp [h6]; omega, .inr ⟨g, cap, cur, rfl, h2, h3, hc1, h5, h6, rfl⟩⟩, ?_⟩
      rw [List.take_take, Nat.min_eq_left (by omega)]
      exact h7
  obtain ⟨ys, own2n, hys⟩ := own2n
  obtain ⟨w3, hcl, own3, gr3⟩ := el.clear 0 (ty := 0) (by intro u hu; simp [Value.cells] at hu; rcases hu with rfl | rfl <;> rfl) own2n (show m < n by omega) (m * 2) (n - m) (cap - m) rfl rfl
  rw [hys] at own3
  have hM : Mod [g] w w3 := (((Mod.refl [g] w).drew).grown gr2 (fun k hk => .inl (by cases hk; simp))).grown gr3 (fun k hk => .inl (by cases hk; simp))
  have Own := Lib.hid own3
  have HM := Lib.hid hM
  have hmn : m ≤ n := by omega
  have hmni : (m : Int) ≤ n := by omega
  have hcm : ¬ cap = m := by omega
  have hic : i ≤ cap := by omega
  have hjc : i + 1 ≤ cap := by omega
  have hjn : (i : Int) + 1 ≤ n := by omega
  have hj0 : 0 ≤ (i : Int) + 1 := by omega
  have hne : ((i : Int) == (i : Int) + 1) = false := by simp; omega
  clear own own1 own2 own2n own3 hrd hsrc hsA her hc2 hn hM gr2 gr3 hm hys
  go_enter Tryd.func79, Tryd.ntmps79
  go_wp2
  go_region_law (first | ((with_reducible apply step_append_run hrun); rfl; rfl; rfl; rfl; rfl))
  go_wp2
  go_ret
  exact ⟨rfl, Own.out, HM.out⟩
end Rb
end Go.Proofs.YtjohljpcoodijaaDoor
