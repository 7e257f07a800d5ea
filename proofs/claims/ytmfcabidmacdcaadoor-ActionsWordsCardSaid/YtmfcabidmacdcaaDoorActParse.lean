/- actions.Parse answers act of a text's words. Conditions: texts of at most 1000 bytes; the sentinels read as laid. -/
import Derived.Test.YtmfcabidmacdcaaDoorActAct
namespace Go.Proofs.YtmfcabidmacdcaaDoor
open Go Go.RowKit Kt Sp
namespace Ac
variable {w W W' : World} {p b o i : Nat} {ws : List (List UInt8)} {A : Nat → Addr}
theorem action_c (h : Rq w W p b o ws 0) (hne : ws ≠ []) (hb : b < W.heap.size) (hs : Sent 254 w A acs) :
    Calls Tryd.prog 66 #[.pointer (some ⟨p, 0, none⟩)] W (acP A w W p b (act ws)) := by
  match ws, hne, h with
  | v :: r, _, h =>
    by_cases h0 : v = emitW
    · subst h0
      match r, h with
      | [], h => exact ac_emit_none h hb hs
      | n :: r2, h =>
        by_cases g : nm n = false
        · exact ac_emit_badname g h hb hs
        · have g : nm n = true := by simpa using g
          match r2, h with
          | [], h => exact ac_emit_name_end g h hb hs
          | x :: r3, h =>
            by_cases h2 : x = beginW
            · subst h2
              match r3, h with
              | [], h => exact ac_emit_name_begin_none g h hb hs
              | m :: r4, h =>
                by_cases g1 : nm m = false
                · exact ac_emit_name_begin_badname g g1 h hb hs
                · have g1 : nm m = true := by simpa using g1
                  match r4, h with
                  | [], h => exact ac_emit_name_begin_name_end g g1 h hb hs
                  | y :: r5, h => exact ac_emit_name_begin_name_more g g1 h hb hs
            · exact ac_emit_name_x g h2 h hb hs
    · by_cases h1 : v = skipW
      · subst h1
        match r, h with
        | [], h => exact ac_skip_end h hb hs
        | x :: r3, h =>
          by_cases h2 : x = beginW
          · subst h2
            match r3, h with
            | [], h => exact ac_skip_begin_none h hb hs
            | m :: r4, h =>
              by_cases g1 : nm m = false
              · exact ac_skip_begin_badname g1 h hb hs
              · have g1 : nm m = true := by simpa using g1
                match r4, h with
                | [], h => exact ac_skip_begin_name_end g1 h hb hs
                | y :: r5, h => exact ac_skip_begin_name_more g1 h hb hs
          · exact ac_skip_x h2 h hb hs
      · exact ac_bad h0 h1 h hb hs
/-- What Parse answers. -/
def paP (A : Nat → Addr) (w : World) (x : (List UInt8 × List UInt8) × Nat × Nat) (e : Ending) (w' : World) : Prop :=
  e = .returned (.tuple #[.agg #[.string (Str x.1.1), .string (Str x.1.2)], .int .i64 (x.2.1 : Int), eva A x.2.2]) ∧ Below w.heap.size w w'
set_option maxHeartbeats 4000000 in
set_option maxRecDepth 100000 in
theorem parse_c (s : List UInt8) (hl : s.length ≤ 1000000) (w : World) (hs : Sent 254 w A acs) : Calls Tryd.prog 29 #[.string (Str s)] w (paP A w (act (words s))) := by
  have b1 := (Below.refl w.heap.size w).alloc (Nat.le_refl _) (.cells #[.string ⟨#[]⟩, .string ⟨#[]⟩] 48)
  have s1 : Sb (w.alloc (.cells #[.string ⟨#[]⟩, .string ⟨#[]⟩] 48)) w.heap.size [] [] := heap_alloc_new w _
  obtain ⟨W1, hW1⟩ : ∃ W1, (w.alloc (.cells #[.string ⟨#[]⟩, .string ⟨#[]⟩] 48)) = W1 := ⟨_, rfl⟩
  have hz1 : W1.heap.size = w.heap.size + 1 := by rw [← hW1]; simp
  rw [hW1] at b1 s1
  have HW1 := Lib.hid hW1
  have c2 := split_c s hl W1
  obtain ⟨cs, hcs⟩ : ∃ cs, ((words s).map Sw).toArray = cs := ⟨_, rfl⟩
  obtain ⟨n, hn⟩ : ∃ n, (words s).length = n := ⟨_, rfl⟩
  rw [hcs, hn] at c2
  have b2 := b1.alloc b1.size (.cells cs 9)
  have hrd : Rd (W1.alloc (.cells cs 9)) (some ⟨W1.heap.size, 0, none⟩) ((words s).map Sw) := by
    rw [← hcs]
    exact Rd.new _ _ _ _ _ rfl
  have hpp := heap_alloc_new (W1.alloc (.cells cs 9)) (.cells #[.slice (some ⟨W1.heap.size, 0, none⟩) n n, .int .i64 0] 129)
  have b3 := b2.alloc b2.size (.cells #[.slice (some ⟨W1.heap.size, 0, none⟩) n n, .int .i64 0] 129)
  have s3 : Sb ((W1.alloc (.cells cs 9)).alloc (.cells #[.slice (some ⟨W1.heap.size, 0, none⟩) n n, .int .i64 0] 129)) w.heap.size [] [] := block_alloc (block_alloc s1)
  have r3 : Rq w ((W1.alloc (.cells cs 9)).alloc (.cells #[.slice (some ⟨W1.heap.size, 0, none⟩) n n, .int .i64 0] 129)) (W1.heap.size + 1) W1.heap.size 0 (words s) 0 := by
    refine ⟨?_, hrd.keep ((Below.refl _ _).alloc (Nat.le_refl _) _), by omega, b3, by omega, by rw [join_words]; omega⟩
    rw [World.size_alloc] at hpp
    rw [hn]
    exact hpp
  obtain ⟨W3, hW3⟩ : ∃ W3, ((W1.alloc (.cells cs 9)).alloc (.cells #[.slice (some ⟨W1.heap.size, 0, none⟩) n n, .int .i64 0] 129)) = W3 := ⟨_, rfl⟩
  rw [hW3] at b3 s3 r3
  have HA := Lib.hid (action_c r3 (words_ne s) (by have := block_lt r3.hp; omega) hs)
  have hne : w.heap.size ≠ W1.heap.size + 1 := by omega
  have HNE := Lib.hid hne
  obtain ⟨X, hX⟩ : ∃ X, act (words s) = X := ⟨_, rfl⟩
  rw [hX] at HA ⊢
  have HC2 := Lib.hid c2
  have HW3 := Lib.hid hW3
  have HS3 := Lib.hid s3
  have HB3 := Lib.hid b3
  obtain ⟨⟨xe, xb⟩, at', er⟩ := X
  clear b1 s1 hW1 c2 hcs hn b2 hrd hpp b3 s3 r3 hW3 hne hX hs hl hz1
  go_enter Tryd.func29, Tryd.ntmps29
  go_wp2_with fail
  rw [HW1.out]
  refine HC2.out.mono ?_
  rintro e w2 ⟨rfl, rfl⟩
  go_wp2_with fail
  rw [HW3.out]
  refine HA.out.mono ?_
  rintro e w4 ⟨rfl, ⟨o4, ws4, r4⟩, m4⟩
  have s4 := HS3.out.mod m4 (by simpa using HNE.out)
  obtain ⟨E, hE⟩ : ∃ E, eva A er = E := ⟨_, rfl⟩
  simp only at r4 ⊢
  rw [hE]
  have HE := Lib.hid hE
  have b5 := r4.B.alloc r4.B.size (.cells #[.string (Str xe), .string (Str xb)] 48)
  have r5 := r4.below ((Below.refl w4.heap.size w4).alloc (Nat.le_refl _) (.cells #[.string (Str xe), .string (Str xb)] 48))
  have s5 : Sb (w4.alloc (.cells #[.string (Str xe), .string (Str xb)] 48)) w.heap.size [] [] := block_alloc s4
  have t5 : Sb (w4.alloc (.cells #[.string (Str xe), .string (Str xb)] 48)) w4.heap.size xe xb := heap_alloc_new w4 _
  have n5 : w.heap.size ≠ w4.heap.size := by have := block_lt s4; omega
  have n6 : W1.heap.size + 1 ≠ w4.heap.size := by have := block_lt r4.hp; omega
  have n7 : w.heap.size ≠ W1.heap.size + 1 := HNE.out
  obtain ⟨k0, k1, f0, f1⟩ := t5.cells
  obtain ⟨z0, z1, g0, g1⟩ := s5.cells
  obtain ⟨_, q1, _, _⟩ := r5.cells
  have HF := Lib.hid (And.intro ((s5.set0 xe).set1 xb) ((b5.setCell (p := ⟨w.heap.size, 0, none⟩) (Nat.le_refl _) (.string (Str xe))).setCell (p := ⟨w.heap.size, 1, none⟩) (Nat.le_refl _) (.string (Str xb))))
  clear hE m4 s4 b5 r5 s5 t5 r4
  go_wp2_with fail
  go_region
  all_goals
    go_wp2
    ((try simp only [Exit.inBlock, Exit.then]); refine bodyPost_ret (Kt.results_cell3_row rfl _ _ (w.heap.size) 48 _ (0, 0) _ rfl (HF.out.1) Tryd.underlying48 rfl ?hi1) rfl ?_; (case hi1 => kernel_rfl))
    exact ⟨by rw [← HE.out]; rfl, by first | exact HF.out.2 | exact HF.out.2.drew⟩
end Ac
end Go.Proofs.YtmfcabidmacdcaaDoor
