/- The model's pool (dofferref30): New's walk. -/
import Derived.Test.YtpjimmdpcpcmoaaDoorQPoolRef7
import Derived.Test.YtpjimmdpcpcmoaaDoorQPoolNew
namespace Go.Proofs.YtpjimmdpcpcmoaaDoor
open Go Go.RowKit Kt
namespace Po
variable {w w' : World} {z ob oc bb bc ak : Nat} {aa : Option Addr} {G : List Nat} {m : Md} {L : List Nat}
set_option maxRecDepth 100000 in
set_option maxHeartbeats 1000000 in
theorem rnew_no (n s : Int) (w : World) (he : n < 1 ∨ 256 < n ∨ s < 1 ∨ 64 < s) :
    Calls Tryd.prog 25 #[.int .i64 n, .int .i64 s] w fun e w' => e = .returned (.pointer none) ∧ w = w' := by
  rcases Decidable.em (n < 1) with r1 | r1
  · clear he
    go_enter Tryd.func25, Tryd.ntmps25
    go_wp2
    go_ret
    exact ⟨rfl, rfl⟩
  · rcases Decidable.em (256 < n) with r2 | r2
    · clear he
      go_enter Tryd.func25, Tryd.ntmps25
      go_wp2
      go_ret
      exact ⟨rfl, rfl⟩
    · rcases Decidable.em (s < 1) with r3 | r3
      · clear he
        go_enter Tryd.func25, Tryd.ntmps25
        go_wp2
        go_ret
        exact ⟨rfl, rfl⟩
      · have r4 : 64 < s := by omega
        clear he
        go_enter Tryd.func25, Tryd.ntmps25
        go_wp2
        go_ret
        exact ⟨rfl, rfl⟩
set_option maxRecDepth 100000 in
set_option maxHeartbeats 2000000 in
theorem rnew_yes (n s : Nat) (h1 : 1 ≤ n) (h2 : n ≤ 256) (h3 : 1 ≤ s) (h4 : s ≤ 64) (w : World) :
    Calls Tryd.prog 25 #[.int .i64 (n : Int), .int .i64 (s : Int)] w fun e w' => ∃ z L, e = .returned (.pointer (some ⟨z, 0, none⟩)) ∧ RI w' z L (new n s) ∧ (∀ k ∈ L, w.heap.size ≤ k) ∧ Below w.heap.size w w' := by
  have hmk := fun w => run_make_row' (P := Tryd.prog) 54 5 (.int .u8 0) 1 Tryd.underlying54 (by kernel_rfl) rfl .i64 .i64 s (by omega) (by omega) w
  rw [made_zero] at hmk
  obtain ⟨M, hM⟩ : ∃ M, (u8s (List.replicate s 0)).toArray = M := ⟨_, rfl⟩
  rw [hM] at hmk
  have h0 : Rw w (w.alloc (.cells #[.int .i64 (s : Int), .slice none 0 0, .slice none 0 0, .slice none 0 0] 58)) w.heap.size s 0 (.slice none 0 0) (.slice none 0 0) [] :=
    ⟨heap_alloc_new w _, World.ownsRow_nil _ _ _ _, World.ownsRow_nil _ _ _ _, (fun q hq => by cases hq), (fun q hq => by cases hq), (fun q hq => by cases hq), List.nodup_nil, (fun q hq => by cases hq), (Below.refl _ _).alloc (Nat.le_refl _) _, Nat.le_refl _⟩
  have H0 := Lib.hid h0
  have HM := Lib.hid hM
  clear h0 hM
  go_enter Tryd.func25, Tryd.ntmps25
  go_wp2
  go_loopw [6] (fun i W => ∃ (k : Nat) (v vb : Value) (G : List Nat), k ≤ n ∧ i = .int .i64 (k : Int) ∧ G.length = k ∧ Rw w W w.heap.size s k v vb G) (fun i _ => n - (iv i).toNat)
  case atStart => exact ⟨0, _, _, [], Nat.zero_le _, rfl, rfl, H0.out⟩
  case round =>
    clear H0
    obtain ⟨k, v, vb, G, hk, rfl, hG, hN⟩ := hrel
    obtain ⟨z, hz⟩ : ∃ z, w.heap.size = z := ⟨_, rfl⟩
    rw [hz] at hN ⊢
    obtain ⟨a, c, rfl, _⟩ := rd_own hN.ho
    have hb := hN.hb
    rw [hG] at hb
    obtain ⟨a', c', rfl, _⟩ := rd_own hb
    clear hb
    by_cases hkn : k < n
    · obtain ⟨g2, c2, w2, r1, hp2, hN2⟩ := hN.next1 (by omega)
      have kf := frozen_block hp2 1
      have kc := cell_block hp2 1
      have k1 := cell_block hN.hp 1
      have k1a := cell_block (block_alloc (x := .cells #[.int .i64 (-1)] 3) hN.hp) 1
      obtain ⟨W3, hW3⟩ : ∃ W3, w2.setCell ⟨z, 1, none⟩ (.slice (some ⟨g2, 0, none⟩) (k + 1) c2) = W3 := ⟨_, rfl⟩
      rw [hW3] at hN2
      obtain ⟨g5, c5, w5, r2, hp5, hN5⟩ := hN2.next2 hG (by omega)
      rw [HM.out] at r2
      have q2 := cell_block hN2.hp 2
      have q2a := cell_block (block_alloc (x := .cells M 5 (0, 0)) hN2.hp) 2
      have q2b := cell_block (block_alloc (x := .cells #[.slice (some ⟨W3.heap.size, 0, none⟩) s s] 54) (block_alloc (x := .cells M 5 (0, 0)) hN2.hp)) 2
      have q5 := cell_block hp5 2
      have q5f := frozen_block hp5 2
      simp only [List.getElem?_toArray, List.getElem?_cons_zero, List.getElem?_cons_succ] at kc k1 k1a q2 q2a q2b q5
      have HN5 := Lib.hid hN5
      have HW3 := Lib.hid hW3
      have HG := Lib.hid hG
      clear hN hN2 hN5 hW3 hG hp2 hp5
      go_wp2_with (at_builtin; (with_reducible apply wpList_append_run r1); rfl; rfl; rfl; rfl; rfl)
      rw [HW3.out]
      go_wp2
      go_region_law (first | ((with_reducible apply step_append_run r2); rfl; rfl; rfl; rfl; rfl))
      all_goals
        go_wp2_with fail
        go_roundw
        case rel => exact ⟨k + 1, _, _, _, by omega, by go_num, by simp [HG.out], HN5.out⟩
        case measure => simp [iv]; omega
    · obtain rfl : k = n := by omega
      obtain ⟨L, hf1, hf2⟩ := hN.fin hG h1 h2 h3 h4
      have HF := Lib.hid (And.intro hf1 (And.intro hf2 hN.B))
      clear hf1 hf2 hN hG
      go_wp2_with fail
      go_ret
      exact ⟨z, L, rfl, HF.out⟩
end Po
end Go.Proofs.YtpjimmdpcpcmoaaDoor
