/- dofferlaw12: the chapter's example; ActionsParse; ActionsText. Condition: the sentinels read as laid. -/
import Derived.Test.YtmfcabidmacdcaaDoorActParse
import Derived.Test.YtmfcabidmacdcaaDoorActText
import Derived.Test.YtmfcabidmacdcaaDoorActRPar
namespace Go.Proofs.YtmfcabidmacdcaaDoor
open Go Go.RowKit Kt Sp
namespace Ac
variable {w W W' : World} {A : Nat → Addr}
theorem rparse_c (l : List UInt8) (hl : l.length ≤ 1000000) (w : World) : Calls Tryd.prog 32 #[.string (Str l)] w (rpP w (act (words l))) := by
  have hs : l = join (words l) := (join_words l).symm
  have hb := words_noblank l
  have hne := words_ne l
  generalize words l = ws at *
  match ws, hne with
  | v :: r, _ =>
    by_cases h0 : v = emitW
    · subst h0
      match r with
      | [] => exact ra_emit_none l hs hl hb w
      | n :: r2 =>
        by_cases g : nm n = false
        · exact ra_emit_badname g l hs hl hb w
        · have g : nm n = true := by simpa using g
          match r2 with
          | [] => exact ra_emit_name_end g l hs hl hb w
          | x :: r3 =>
            by_cases h2 : x = beginW
            · subst h2
              match r3 with
              | [] => exact ra_emit_name_begin_none g l hs hl hb w
              | m :: r4 =>
                by_cases g1 : nm m = false
                · exact ra_emit_name_begin_badname g g1 l hs hl hb w
                · have g1 : nm m = true := by simpa using g1
                  match r4 with
                  | [] => exact ra_emit_name_begin_name_end g g1 l hs hl hb w
                  | y :: r5 => exact ra_emit_name_begin_name_more g g1 l hs hl hb w
            · exact ra_emit_name_x g h2 l hs hl hb w
    · by_cases h1 : v = skipW
      · subst h1
        match r with
        | [] => exact ra_skip_end l hs hl hb w
        | x :: r3 =>
          by_cases h2 : x = beginW
          · subst h2
            match r3 with
            | [] => exact ra_skip_begin_none l hs hl hb w
            | m :: r4 =>
              by_cases g1 : nm m = false
              · exact ra_skip_begin_badname g1 l hs hl hb w
              · have g1 : nm m = true := by simpa using g1
                match r4 with
                | [] => exact ra_skip_begin_name_end g1 l hs hl hb w
                | y :: r5 => exact ra_skip_begin_name_more g1 l hs hl hb w
          · exact ra_skip_x h2 l hs hl hb w
      · exact ra_bad h0 h1 l hs hl hb w
def exL : List UInt8 := [101, 109, 105, 116, 32, 110, 117, 109, 32, 98, 101, 103, 105, 110, 32, 109, 97, 105, 110]
theorem ex_act : act (words exL) = (([110, 117, 109], [109, 97, 105, 110]), 19, 0) := by decide +kernel
set_option maxHeartbeats 1000000 in
set_option maxRecDepth 100000 in
theorem alive_c (w : World) (hs : Sent 254 w A acs) : Calls Tryd.prog 26 #[] w fun e w' => e = .returned (.bool true) ∧ Below w.heap.size w w' := by
  have hp := parse_c exL (by decide) w hs
  rw [ex_act] at hp
  have HP := Lib.hid hp
  have q1 : ((Str [110, 117, 109]).toList == [110, 117, 109]) = true := by rw [Str_list]; rfl
  have q2 : ((Str [109, 97, 105, 110]).toList == [109, 97, 105, 110]) = true := by rw [Str_list]; rfl
  clear hp hs
  go_enter Tryd.func26, Tryd.ntmps26
  go_wp2_with fail
  refine HP.out.mono ?_
  rintro e w1 ⟨rfl, hb1⟩
  simp only [show eva A 0 = .nilIface from rfl]
  have HB := Lib.hid (hb1.alloc hb1.size (.cells #[.string (Str [110, 117, 109]), .string (Str [109, 97, 105, 110])] 48))
  clear hb1
  generalize Str [110, 117, 109] = S1 at *
  generalize Str [109, 97, 105, 110] = S2 at *
  go_wp2
  go_ret
  exact ⟨by first | rfl | simp, HB.out⟩
theorem num_a (A : Nat → Addr) (g : Nat) (hg : g = 0 ∨ g = 2 ∨ g = 3 ∨ g = 4 ∨ g = 5) (w : World) (hs : Sent 254 w A Er.egs) :
    Calls Tryd.prog 15 #[eva A g] w fun e w' => e = .returned (.int .i64 (g : Int)) ∧ Below w.heap.size w w' := by
  rcases hg with rfl | rfl | rfl | rfl | rfl
  · exact (Er.num_nil w).mono fun _ _ ⟨h1, h2⟩ => ⟨h1, h2 ▸ Below.refl _ _⟩
  · exact Er.num_at A 1 2 1 (by omega) (by decide) (by omega) w hs
  · exact Er.num_at A 2 3 2 (by omega) (by decide) (by omega) w hs
  · exact Er.num_at A 3 4 3 (by omega) (by decide) (by omega) w hs
  · exact Er.num_at A 4 5 4 (by omega) (by decide) (by omega) w hs
theorem text_any (e b : List UInt8) (he : e.length ≤ 1000) (hb : b.length ≤ 1000) (w : World) (hs : Sent 254 w A acs) : Calls Tryd.prog 27 #[.agg #[.string (Str e), .string (Str b)]] w (teP A w e b) := by
  cases hm : (may e && may b) with
  | true => exact text_yes e b he hb hm w
  | false => exact text_no e b he hb hm w hs
theorem may_len {l : List UInt8} (h : may l = true) : l.length ≤ 12 := by
  rcases may_cases h with rfl | h
  · simp
  · exact nm_len h
set_option maxHeartbeats 4000000 in
set_option maxRecDepth 100000 in
theorem parses_c (l : List UInt8) (w : World) (hs : Sent 254 w A Er.egs) : Calls Tryd.prog 8 #[.string (Str l)] w fun e w' => e = .returned (.bool true) ∧ Below w.heap.size w w' := by
  have hz := Str_size l
  have HAl := Lib.hid (alive_c w (hs.sub (by decide)) (A := A))
  by_cases h3 : l.length ≤ 300
  · have hd : decide (300 < ((Str l).size : Int)) = false := by simp; omega
    have hbnd : (Str l).size ≤ 300 := by omega
    have hp := fun w (hs : Sent 254 w A acs) => parse_c l (by omega) w hs
    have hr := fun w => rparse_c l (by omega) w
    have her := act_err (words l)
    have hmay : may (act (words l)).1.1 = true ∧ may (act (words l)).1.2 = true := by
      by_cases h : (act (words l)).2.2 = 0
      · exact (txt_act h).2
      · rw [act_fault h]; exact ⟨rfl, rfl⟩
    have hjo : (act (words l)).2.2 = 0 → join (txt (act (words l)).1.1 (act (words l)).1.2) = l := fun h => by rw [(txt_act h).1, join_words]
    generalize act (words l) = X at *
    obtain ⟨⟨xe, xb⟩, at', er⟩ := X
    simp only at her hmay hjo
    have ht := fun w (hs : Sent 254 w A acs) => text_any xe xb (by have := may_len hmay.1; omega) (by have := may_len hmay.2; omega) w hs
    have hm : (may xe && may xb) = true := by rw [hmay.1, hmay.2]; rfl
    unfold teP at ht
    unfold paP at hp
    unfold rpP at hr
    simp only [hm, if_true] at ht hp hr
    have HP := Lib.hid hp
    have HR := Lib.hid hr
    have HT := Lib.hid ht
    have HS := Lib.hid hs
    have HN := Lib.hid (fun w hs => num_a A er her w hs)
    obtain ⟨E, hE⟩ : ∃ E, eva A er = E := ⟨_, rfl⟩
    rw [hE] at HN
    have HE := Lib.hid hE
    have hcmp : er = 0 → ((Str (join (txt xe xb))).toList == (Str l).toList) = true := fun h => by rw [hjo h]; simp
    have HC := Lib.hid hcmp
    obtain ⟨T, hT⟩ : ∃ T, Str (join (txt xe xb)) = T := ⟨_, rfl⟩
    rw [hT] at HC HT
    generalize Str l = S at *
    generalize Str xe = SE at *
    generalize Str xb = SB at *
    clear hp hr hmay hjo ht hm hs hE hcmp hT hz h3
    go_enter Tryd.func8, Tryd.ntmps8
    go_wp2_with fail
    refine HAl.out.mono ?_
    rintro e w1 ⟨rfl, hb1⟩
    have HB1 := Lib.hid hb1
    clear hb1
    go_wp2_with fail
    refine (HP.out _ ((HS.out.keep HB1.out).sub (by decide))).mono ?_
    rintro e w2 ⟨rfl, hb2⟩
    simp only
    rw [HE.out]
    have b2 := HB1.out.trans (hb2.mono HB1.out.size)
    have b3 := b2.alloc b2.size (.cells #[.string SE, .string SB] 48)
    have c3 := heap_alloc_new w2 (.cells #[.string SE, .string SB] 48)
    have HB3 := Lib.hid b3
    have C3 := Lib.hid c3
    have k0 := cell_block c3 0
    have k1 := cell_block c3 1
    clear hb2 b2 b3 c3
    go_wp2_with fail
    refine (HR.out _).mono ?_
    rintro e w4 ⟨rfl, hb4⟩
    have b4 := HB3.out.trans (hb4.mono HB3.out.size)
    have b5 := b4.alloc b4.size (.cells #[.string SE, .string SB] 55)
    have d5 := heap_alloc_new w4 (.cells #[.string SE, .string SB] 55)
    have c4 := (hb4.block _ (block_lt C3.out)).trans C3.out
    have c5 := block_alloc (x := (.cells #[.string SE, .string SB] 55)) c4
    have z0 := cell_block d5 0
    have z1 := cell_block d5 1
    have y0 := cell_block c5 0
    have y1 := cell_block c5 1
    have HB5 := Lib.hid b5
    have C5 := Lib.hid c5
    clear hb4 b4 b5 d5 c4 c5 k0 k1
    go_wp2_with fail
    refine (HN.out _ (HS.out.keep HB5.out)).mono ?_
    rintro e w6 ⟨rfl, hb6⟩
    have b6 := HB5.out.trans (hb6.mono HB5.out.size)
    have c6 := (hb6.block _ (block_lt C5.out)).trans C5.out
    have u0 := cell_block c6 0
    have u1 := cell_block c6 1
    have HT6 := Lib.hid (HT.out w6 ((HS.out.keep b6).sub (by decide)))
    have HB6 := Lib.hid b6
    clear hb6 b6 c6 y0 y1 z0 z1
    go_wp2_with fail
    refine HT6.out.mono ?_
    rintro e w7 ⟨rfl, hb7⟩
    have HB7 := Lib.hid (HB6.out.trans (hb7.mono HB6.out.size))
    by_cases h0 : er = 0
    · have hc := HC.out h0
      subst h0
      clear hb7
      go_wp2
      go_ret
      exact ⟨by first | rfl | simp, HB7.out⟩
    · have f1 : ((er : Int) != 0) = true := by simp; omega
      have f2 : ((er : Int) == 0) = false := by simp; omega
      clear hb7 h0
      go_wp2
      go_ret
      exact ⟨by first | rfl | simp, HB7.out⟩
  · have hd : decide (300 < ((Str l).size : Int)) = true := by simp; omega
    clear hz h3 hs
    generalize Str l = S at *
    go_enter Tryd.func8, Tryd.ntmps8
    go_wp2_with fail
    refine HAl.out.mono ?_
    rintro e w1 ⟨rfl, hb1⟩
    go_wp2
    go_ret
    exact ⟨rfl, hb1⟩
end Ac
end Go.Proofs.YtmfcabidmacdcaaDoor
