import Derived.Test.YteekonojmpihlaaDoorQNmRSpread
import Derived.Test.YteekonojmpihlaaDoorQNmUses
import Derived.Test.YteekonojmpihlaaDoorQTreeRRt
import Derived.Deep.RegionHeld3
/- dofferref11.names. Printed by gen_nmrnames.py. -/
namespace Go.Proofs.YteekonojmpihlaaDoor
namespace Kt
end Kt
namespace St
end St
namespace Sp
end Sp
namespace Bk
end Bk
namespace Tr
end Tr
open Go Go.RowKit Kt St Sp Bk Tr
namespace Bo
theorem mem_snoc_d (x : List UInt8) (l : List (List UInt8)) (z : List UInt8) : decide (x ∈ l ++ [z]) = (decide (x ∈ l) || decide (z = x)) := by
  rw [Bool.eq_iff_iff]
  simp only [decide_eq_true_eq, List.mem_append, List.mem_singleton, Bool.or_eq_true]
  exact ⟨fun h => h.imp id Eq.symm, fun h => h.imp id Eq.symm⟩
/-- Where the outer loop stands. -/
structure RnO (w : World) (l0 : List (List UInt8)) (ws : List (Nd × Nat)) (j : Nat) (a : Option Addr) (m c : Nat) (V : World) : Prop where
  ln : (addN l0 (ws.take j)).length = m
  rd : Rd V a (strs (addN l0 (ws.take j)))
  no : a = none → c = 0
  hb : Below w.heap.size w V
/-- What it answers. -/
def RnP (l0 : List (List UInt8)) (n : Nd) (w : World) (e : Ending) (w' : World) : Prop := ∃ a c m, e = .returned (.slice a m c) ∧ (addN l0 (walk n)).length = m ∧ Rd w' a (strs (addN l0 (walk n))) ∧ (a = none → c = 0) ∧ Below w.heap.size w w'
theorem addN_take (l0 : List (List UInt8)) (ws : List (Nd × Nat)) (j : Nat) (hj : j < ws.length) : addN l0 (ws.take (j + 1)) = if ws[j].1.kind = 5 ∧ ws[j].1.text ∉ addN l0 (ws.take j) then addN l0 (ws.take j) ++ [ws[j].1.text] else addN l0 (ws.take j) := by
  rw [List.take_add_one, List.getElem?_eq_getElem hj, Option.toList_some, addN_snoc]
theorem addN_len (l0 : List (List UInt8)) (ws : List (Nd × Nat)) : (addN l0 ws).length ≤ l0.length + ws.length := by
  induction ws using Bk.snoc_ind with
  | h0 => simp [addN]
  | h1 ws y ih =>
    rw [addN_snoc, List.length_append]
    split
    · rw [List.length_append]; simp only [List.length_cons, List.length_nil]; omega
    · simp only [List.length_cons, List.length_nil]; omega
set_option maxRecDepth 100000 in
set_option maxHeartbeats 2000000 in
theorem rnames_c (l0 : List (List UInt8)) (ln : Nat) (la : Option Addr) (lc : Nat) (n : Nd) (w : World) (hIs : Is w.heap.size w n) (hl : l0.length = ln) (hl6 : ln ≤ 30000) (hr : Rd w la (strs l0)) (hno : la = none → lc = 0) :
    Calls Tryd.prog 68 #[.slice la ln lc, nv n] w (RnP l0 n w) := by
  obtain ⟨x0, x1, x2, x3, hx⟩ := four' hIs.len
  obtain ⟨k, mn, mx, a, nl, cc, t, hnv, _⟩ := nv_explicit hx
  obtain ⟨W1, hW1⟩ : ∃ W1, w.alloc (.cells #[.int .i64 k, .int .u64 (x0 : Int), .int .u64 (x1 : Int), .int .u64 (x2 : Int), .int .u64 (x3 : Int), .slice a nl cc, .int .i64 mn, .int .i64 mx, .string (Str t)] 44 (0, 0)) = W1 := ⟨_, rfl⟩
  have hB : Below w.heap.size w W1 := by rw [← hW1]; exact (Below.refl _ _).alloc (Nat.le_refl _) _
  have l2 : W1.heap[w.heap.size]? = some (.cells #[.int .i64 k, .int .u64 (x0 : Int), .int .u64 (x1 : Int), .int .u64 (x2 : Int), .int .u64 (x3 : Int), .slice a nl cc, .int .i64 mn, .int .i64 mx, .string (Str t)] 44 (0, 0)) := by rw [← hW1]; exact World.alloc_heap_new _ _
  have hI1 : Is W1.heap.size W1 n := Is.mono hB.size (Is.below hB hIs)
  have hwk := rwalk_c n W1 hI1
  have hwl := walk_len hI1
  have hw6 : (walk n).length ≤ 601 := by simp [walk, List.length_take]; omega
  rw [hnv] at hwk ⊢
  obtain ⟨ws, hws⟩ : ∃ ws, walk n = ws := ⟨_, rfl⟩
  have hP : ∀ (a' : Option Addr) (m c : Nat) (V : World), (addN l0 ws).length = m → Rd V a' (strs (addN l0 ws)) → (a' = none → c = 0) → Below w.heap.size w V → RnP l0 n w (.returned (.slice a' m c)) V := fun a' m c V h1 h2 h3 h4 => ⟨a', c, m, rfl, by rw [hws]; exact h1, by rw [hws]; exact h2, h3, h4⟩
  rw [hws] at hwk hwl hw6
  obtain ⟨N, hN⟩ : ∃ N, ws.length = N := ⟨_, rfl⟩
  rw [hN] at hwk hw6
  have HWk := Lib.hid hwk
  have HB := Lib.hid hB
  have HW1 := Lib.hid hW1
  have HP := Lib.hid hP
  have HL := Lib.hid (And.intro hwl (And.intro hN (And.intro hl (And.intro hr hno))))
  obtain ⟨u0, u1, u2, u3, u4, u5, u6, u7, u8⟩ := nd_cells l2
  clear hwk hwl hP hB hW1 l2 hI1 hnv hx hws hN hl hr hno hIs
  go_enter Tryd.func68, Tryd.ntmps68
  go_upto_region 1 with (fail)
  rw [HW1.out]
  go_wp2_with fail
  with_reducible refine HWk.out.mono ?_
  rintro e w2 ⟨va, vc, rfl, hwr, hb2⟩
  clear u0 u1 u2 u3 u4 u5 u6 u7 u8
  obtain ⟨hwl, hN, hl, hr, hno⟩ := HL.out
  have hB2 := HB.out.trans (hb2.mono HB.out.size)
  have hst : RnO w l0 ws 0 la ln lc w2 := ⟨hl, hr.keep hB2, hno, hB2⟩
  have hrd := wr_rd hwr
  have HSt := Lib.hid hst
  have HRd := Lib.hid hrd
  clear hst hrd hwr hb2 hwl hN hl hr hno hB2
  go_wp2_with fail
  go_loopw [0, 7, 9, 13, 23] (fun lv _ _ i _ V => ∃ (j m c : Nat) (a' : Option Addr), j ≤ N ∧ i = .int .i64 (j : Int) ∧ lv = .slice a' m c ∧ RnO w l0 ws j a' m c V ∧ Below w2.heap.size w2 V) (fun _ _ _ i _ _ => N - (intOf i).toNat)
  case atStart => exact ⟨0, ln, lc, la, Nat.zero_le _, rfl, rfl, HSt.out, Below.refl _ _⟩
  case round =>
    obtain ⟨j, m, c, a, hj, rfl, rfl, hO, hbw⟩ := hrel
    by_cases hjl : j < N
    · obtain ⟨hwl, hN, hl, hr, hno0⟩ := HL.out
      have hjk : j < ws.length := by omega
      obtain ⟨b, off, rfl, hcs⟩ := step_at (HRd.out.keep hbw) hwl j hjk
      have hset := hwl _ (List.getElem_mem hjk)
      have hat := addN_take l0 ws j hjk
      have hlen := addN_len l0 (ws.take j)
      have hm1 : m ≤ 31000 := by
        have h1 := hO.ln
        rw [List.length_take] at hlen
        omega
      obtain ⟨NL, hNL⟩ : ∃ NL, addN l0 (ws.take j) = NL := ⟨_, rfl⟩
      have hm := hO.ln
      have hrd := hO.rd
      have hno := hO.no
      have hob := hO.hb
      rw [hNL] at hat hm hrd
      have hatY : ws[j].1.kind = 5 → ws[j].1.text ∉ NL → addN l0 (ws.take (j + 1)) = NL ++ [ws[j].1.text] := fun h1 h2 => by rw [hat, if_pos ⟨h1, h2⟩]
      have hatN : ¬ (ws[j].1.kind = 5 ∧ ws[j].1.text ∉ NL) → addN l0 (ws.take (j + 1)) = NL := fun h => by rw [hat, if_neg h]
      clear hat
      obtain ⟨⟨kid, lv⟩, hkd⟩ : ∃ x, ws[j] = x := ⟨_, rfl⟩
      rw [hkd] at hcs hset hatY hatN
      obtain ⟨y0, y1, y2, y3, hys⟩ := four' hset
      obtain ⟨kk, ksx, kmn, kmx, kt, ka, kc, kks⟩ := kid
      simp only [Nd.set] at hys
      subst hys
      simp only [Nd.kind, Nd.text] at hatY hatN
      have q0 := hcs 0 _ rfl (by omega)
      have q1 := hcs 1 _ rfl (by omega)
      have q2 := hcs 2 _ rfl (by omega)
      have q3 := hcs 3 _ rfl (by omega)
      have q4 := hcs 4 _ rfl (by omega)
      have q5 := hcs 5 _ rfl (by omega)
      have q6 := hcs 6 _ rfl (by omega)
      have q7 := hcs 7 _ rfl (by omega)
      have q8 := hcs 8 _ rfl (by omega)
      have q9 := hcs 9 _ rfl (by omega)
      have q10 := hcs 10 _ rfl (by omega)
      simp only [← Nat.add_assoc, Nat.add_zero, Nd.kind, Nd.kids, Nd.mn, Nd.mx, Nd.text] at q0 q1 q2 q3 q4 q5 q6 q7 q8 q9 q10
      obtain ⟨kl, hkl⟩ : ∃ kl, kks.length = kl := ⟨_, rfl⟩
      rw [hkl] at q10
      obtain ⟨W5, hW5⟩ : ∃ W5, wr.alloc (.cells #[.int .i64 kk, .int .u64 (y0 : Int), .int .u64 (y1 : Int), .int .u64 (y2 : Int), .int .u64 (y3 : Int), .slice none 0 0, .int .i64 kmn, .int .i64 kmx, .string (Str kt), .int .i64 (lv : Int), .int .i64 (kl : Int)] 100) = W5 := ⟨_, rfl⟩
      have b5 : Below wr.heap.size wr W5 := by rw [← hW5]; exact (Below.refl _ _).alloc (Nat.le_refl _) _
      have s5 : W5.heap[wr.heap.size]? = some (.cells #[.int .i64 kk, .int .u64 (y0 : Int), .int .u64 (y1 : Int), .int .u64 (y2 : Int), .int .u64 (y3 : Int), .slice none 0 0, .int .i64 kmn, .int .i64 kmx, .string (Str kt), .int .i64 (lv : Int), .int .i64 (kl : Int)] 100 (0, 0)) := by rw [← hW5]; exact heap_alloc_new wr _
      have hrd5 := hrd.keep b5
      have hob5 := hob.trans (b5.mono hob.size)
      have hbw5 := hbw.trans (b5.mono hbw.size)
      have o0 : W5.cell? ⟨wr.heap.size, 0, none⟩ = some (.int .i64 kk) := cell_block s5 0
      have o8 : W5.cell? ⟨wr.heap.size, 8, none⟩ = some (.string (Str kt)) := cell_block s5 8
      have hsk : ∀ V : World, Below W5.heap.size W5 V → V.cell? ⟨wr.heap.size, 8, none⟩ = some (.string (Str kt)) := fun V hb => cell_block ((hb.block _ (block_lt s5)).trans s5) 8
      have hkeep : ¬ (kk = 5 ∧ kt ∉ NL) → RnO w l0 ws (j + 1) a m c W5 ∧ Below w2.heap.size w2 W5 := fun h => by
        have hat := hatN h
        exact ⟨⟨by rw [hat]; exact hm, by rw [hat]; exact hrd5, hno, hob5⟩, hbw5⟩
      have hfin : kk = 5 → kt ∉ NL → ∀ (V : World) (av : Option Addr) (c2 : Nat), V.ownsRow W5.heap.size 9 1 (.slice av (m + 1) c2) (m + 1) (strs (NL ++ [kt])) → Below W5.heap.size W5 V → RnO w l0 ws (j + 1) av (m + 1) c2 V ∧ Below w2.heap.size w2 V := fun h1 h2 V av c2 ho hb => by
        have hat := hatY h1 h2
        exact ⟨⟨by rw [hat, List.length_append, hm]; rfl, by rw [hat]; exact Rd.own ho, fun h => by subst h; exact (own_none ho).1, hob5.trans (hb.mono hob5.size)⟩, hbw5.trans (hb.mono hbw5.size)⟩
      have HSk := Lib.hid hsk
      have HKeep := Lib.hid hkeep
      have HFin := Lib.hid hfin
      have HRd5 := Lib.hid (And.intro hrd5 (And.intro hm hno))
      have HW5 := Lib.hid hW5
      have hjl2 : (j : Int) < (N : Int) := by omega
      obtain ⟨s0, hs0⟩ : ∃ s0, (kk != 5) = s0 := ⟨_, rfl⟩
      clear hsk hkeep hfin hrd5 hob5 hbw5 hW5 s5 b5 hkl hset hkd hcs hatY hatN hNL hlen hrd hob hbw hO hwl hN hl hr hno0 hm hno
      go_upto_region 4 with (fail)
      rw [HW5.out]
      clear q0 q1 q2 q3 q4 q5 q6 q7 q8 q9 q10
      go_wp2_with fail
      go_loopw [7, 9, 23] (fun s _ i V => ∃ q : Nat, q ≤ m ∧ i = .int .i64 (q : Int) ∧ s = .bool (s0 || decide (kt ∈ NL.take q)) ∧ W5 = V) (fun _ _ i _ => m - (intOf i).toNat)
      case atStart => exact ⟨0, Nat.zero_le _, rfl, by simp, rfl⟩
      case round =>
        obtain ⟨q, hq, rfl, rfl, rfl⟩ := hrel
        obtain ⟨hrd5, hm, hno⟩ := HRd5.out
        by_cases hqm : q < m
        · have hqn : q < NL.length := by omega
          obtain ⟨b2, off2, rfl, c2⟩ := hrd5.map_at q hqn
          have hnx : (s0 || decide (kt ∈ NL.take (q + 1))) = ((s0 || decide (kt ∈ NL.take q)) || decide (NL[q] = kt)) := by
            rw [← List.take_append_getElem hqn, Bool.or_assoc, mem_snoc_d]
          obtain ⟨sv, hsv⟩ : ∃ sv, (s0 || decide (kt ∈ NL.take q)) = sv := ⟨_, rfl⟩
          obtain ⟨sv', hsv'⟩ : ∃ sv', (s0 || decide (kt ∈ NL.take (q + 1))) = sv' := ⟨_, rfl⟩
          rw [hsv, hsv'] at hnx
          rw [hsv]
          obtain ⟨z, hz⟩ : ∃ z, NL[q] = z := ⟨_, rfl⟩
          rw [hz] at hnx c2
          have HS := Lib.hid hsv'
          have HNx := Lib.hid hnx
          clear hsv hsv' hnx hz hqn hrd5 hm hno
          cases sv with
          | true =>
            go_wp2_with fail
            go_roundw
            case rel => exact ⟨q + 1, by omega, by go_num, by rw [HS.out, HNx.out]; rfl, by first | rfl | trivial⟩
            case measure => simp [intOf]; omega
          | false =>
            have hbe : ((Str z).toList == (Str kt).toList) = decide (z = kt) := by
              rw [Str_list, Str_list]
              by_cases h : z = kt <;> simp [h]
            generalize decide (z = kt) = be at *
            go_wp2_with fail
            go_roundw
            case rel => exact ⟨q + 1, by omega, by go_num, by rw [HS.out, HNx.out]; rfl, by first | rfl | trivial⟩
            case measure => simp [intOf]; omega
        · obtain rfl : m = q := by omega
          rw [List.take_of_length_le (by omega)]
          obtain ⟨sv, hsv⟩ : ∃ sv, (s0 || decide (kt ∈ NL)) = sv := ⟨_, rfl⟩
          rw [hsv]
          have HS := Lib.hid hsv
          have HK := Lib.hid hs0
          clear hsv hs0
          cases sv with
          | true =>
            have hre := HKeep.out fun h => by
              have h1 := HS.out
              have h2 : (kk != 5) = false := by rw [h.1]; rfl
              rw [← HK.out, h2] at h1
              simp at h1
              exact h.2 h1
            have HRe := Lib.hid hre
            clear hre hrd5 hm hno o0 o8
            go_wp2_with fail
            go_roundw
            case rel => first | exact ⟨j + 1, _, c, a, by omega, by go_num, rfl, HRe.out⟩ | ((repeat apply Exists.intro); refine ⟨?r, ?f⟩; (case f => (and_intros <;> rfl)); exact ⟨j + 1, _, c, a, by omega, by go_num, rfl, HRe.out⟩)
            case measure => simp [intOf]; omega
          | false =>
            have hs := HS.out
            rw [Bool.or_eq_false_iff] at hs
            have h5 : kk = 5 := by
              have h := HK.out
              rw [hs.1] at h
              simpa using h
            have hnin : kt ∉ NL := by simpa using hs.2
            have hfin := HFin.out h5 hnin
            have own00 : ((W5.alloc (.cells #[] 9)).drew).ownsRow W5.heap.size 9 1 (.slice (some ⟨W5.heap.size, 0, none⟩) 0 0) 0 [] := World.ownsRow_made (base := W5.heap.size) (e := 9) (size := 1) W5 #[] 0 (Nat.le_refl _) (by decide) rfl
            have z5 : (W5.alloc (.cells #[] 9)).heap.size = W5.heap.size + 1 := by simp
            have z5' : (W5.alloc (.cells #[.string (Str kt)] 9)).heap.size = W5.heap.size + 1 := by simp
            have bA : Below W5.heap.size W5 (W5.alloc (.cells #[] 9)).drew := ((Below.refl _ _).alloc (Nat.le_refl _) _).drew
            have bX : Below W5.heap.size W5 (W5.alloc (.cells #[.string (Str kt)] 9)).drew := ((Below.refl _ _).alloc (Nat.le_refl _) _).drew
            have bB : Below W5.heap.size W5 ((W5.alloc (.cells #[] 9)).alloc (.cells #[.string (Str kt)] 9)).drew := (((Below.refl _ _).alloc (Nat.le_refl _) _).alloc (by simp) _).drew
            have bC : Below W5.heap.size W5 ((W5.alloc (.cells #[.string (Str kt)] 9)).alloc (.cells #[] 9)).drew := (((Below.refl _ _).alloc (Nat.le_refl _) _).alloc (by simp) _).drew
            have hA1 := fun (U : World) (z : Nat) (own0 : U.ownsRow W5.heap.size 9 1 (.slice (some ⟨z, 0, none⟩) 0 0) 0 []) (hbU : Below W5.heap.size W5 U) => appS1 W5.heap.size U z m c a NL own0 hbU.size hm (by omega) (hrd5.keep hbU) hno
            have hA2 := fun (U : World) (y c1 : Nat) (a1 : Option Addr) (own1 : U.ownsRow W5.heap.size 9 1 (.slice a1 m c1) m (strs NL)) (hb : W5.heap.size ≤ U.heap.size) (hr : Rd U (some ⟨y, 0, none⟩) [.string (Str kt)]) => appS2 W5.heap.size U y m c1 a1 NL kt own1 hb (by omega) hr
            obtain ⟨aA, cA, wA, runA, ownA, modA, belA⟩ := hA1 _ W5.heap.size own00 bA
            have bA1 := bA.trans (belA.mono (Nat.le_refl _))
            have ownA' := ownA.alloc (.cells #[.string (Str kt)] 9)
            obtain ⟨aA2, cA2, wA2, runA2, ownA2, belA2⟩ := hA2 _ wA.heap.size cA aA ownA' (by simp; have := bA1.size; omega) (Rd.new _ _ _ _ _ rfl)
            have bA1' := bA1.alloc bA1.size (.cells #[.string (Str kt)] 9)
            have bA2 := bA1'.trans belA2
            have own0B : (((W5.alloc (.cells #[] 9)).alloc (.cells #[.string (Str kt)] 9)).drew).ownsRow W5.heap.size 9 1 (.slice (some ⟨W5.heap.size, 0, none⟩) 0 0) 0 [] := (World.ownsRow_made (base := W5.heap.size) (e := 9) (size := 1) W5 #[] 0 (Nat.le_refl _) (by decide) rfl).alloc _
            obtain ⟨aB, cB, wB, runB, ownB, modB, belB⟩ := hA1 _ W5.heap.size own0B bB
            have bB1 := bB.trans belB
            have rdB : Rd ((W5.alloc (.cells #[] 9)).alloc (.cells #[.string (Str kt)] 9)).drew (some ⟨W5.heap.size + 1, 0, none⟩) [.string (Str kt)] := by
              have := Rd.new (W5.alloc (.cells #[] 9)) #[.string (Str kt)] 9 (0, 0) [.string (Str kt)] rfl
              rw [z5] at this
              exact this
            obtain ⟨aB2, cB2, wB2, runB2, ownB2, belB2⟩ := hA2 _ (W5.heap.size + 1) cB aB ownB bB1.size (rdB.mod modB (fun p hp => by simp only [Option.some.injEq] at hp; subst hp; simp))
            have bB2 := bB1.trans belB2
            have own0C : (((W5.alloc (.cells #[.string (Str kt)] 9)).alloc (.cells #[] 9)).drew).ownsRow W5.heap.size 9 1 (.slice (some ⟨W5.heap.size + 1, 0, none⟩) 0 0) 0 [] := by
              have := World.ownsRow_made (base := W5.heap.size) (e := 9) (size := 1) (W5.alloc (.cells #[.string (Str kt)] 9)) #[] 0 (by simp) (by decide) rfl
              rw [z5'] at this
              exact this
            obtain ⟨aC, cC, wC, runC, ownC, modC, belC⟩ := hA1 _ (W5.heap.size + 1) own0C bC
            have bC1 := bC.trans belC
            have rdC : Rd ((W5.alloc (.cells #[.string (Str kt)] 9)).alloc (.cells #[] 9)).drew (some ⟨W5.heap.size, 0, none⟩) [.string (Str kt)] := (Rd.new W5 #[.string (Str kt)] 9 (0, 0) [.string (Str kt)] rfl).alloc _
            obtain ⟨aC2, cC2, wC2, runC2, ownC2, belC2⟩ := hA2 _ W5.heap.size cC aC ownC bC1.size (rdC.mod modC (fun p hp => by simp only [Option.some.injEq] at hp; subst hp; simp))
            have bC2 := bC1.trans belC2
            have HReA := Lib.hid (hfin wA2 aA2 cA2 ownA2 bA2)
            have HReB := Lib.hid (hfin wB2 aB2 cB2 ownB2 bB2)
            have HReC := Lib.hid (hfin wC2 aC2 cC2 ownC2 bC2)
            have HBs := Lib.hid (And.intro bA (And.intro bX (And.intro bB (And.intro bC (And.intro bA1 (And.intro bA1' (And.intro bA2 (And.intro bB1 (And.intro bB2 (And.intro bC1 bC2))))))))))
            have gt8 : ∀ V : World, Below W5.heap.size W5 V → V.cell? ⟨wr.heap.size, 8, none⟩ = some (.string (Str kt)) := HSk.out
            clear own00 own0B own0C ownA ownA' ownA2 ownB ownB2 ownC ownC2 modA modB modC belA belA2 belB belB2 belC belC2 rdB rdC bA bX bB bC bA1 bA1' bA2 bB1 bB2 bC1 bC2 hA1 hA2 z5 z5' hfin hrd5 hm hno gt8 hs
            go_upto_region 11 with (fail)
            have n0 : Below W5.heap.size W5 W5.drew := (Below.refl _ _).drew
            refine wp_region_noPanic ?_
            refine wp_region_held_drew (S := fun V => V.cell? ⟨wr.heap.size, 8, none⟩ = some (.string (Str kt))) (by kernel_rfl) (HSk.out _ n0) (fun hHeld => ?_)
            (refine wpAnyH_take (i := 1) (v := ?v1n1) (by simp only [List.getElem?_toArray, List.getElem?_cons_succ, List.getElem?_cons_zero]; rfl) (by kernel_rfl) (by kernel_rfl) (by kernel_rfl) (fun _ _ _ h => False.elim h) (Or.inl ⟨by rfl, ?hy1n1⟩) (by assumption) ?rest1n1; (case hy1n1 => (intro w hSw; (try dsimp only at hSw); go_simp; (try with_reducible rfl))); (try simp only [Act.put, List.setIfInBounds_toArray, List.set_cons_zero, List.set_cons_succ]))
            (refine wpAnyH_take (i := 3) (v := ?v3n2) (by simp only [List.getElem?_toArray, List.getElem?_cons_succ, List.getElem?_cons_zero]; rfl) (by kernel_rfl) (by kernel_rfl) (by kernel_rfl) (fun _ _ _ h => False.elim h) (Or.inl ⟨by rfl, ?hy3n2⟩) (by assumption) ?rest3n2; (case hy3n2 => (intro w hSw; (try dsimp only at hSw); go_simp; (try with_reducible rfl))); (try simp only [Act.put, List.setIfInBounds_toArray, List.set_cons_zero, List.set_cons_succ]))
            (refine wpAnyH_take (i := 4) (v := ?v4n3) (by simp only [List.getElem?_toArray, List.getElem?_cons_succ, List.getElem?_cons_zero]; rfl) (by kernel_rfl) (by kernel_rfl) (by kernel_rfl) (fun _ _ _ h => False.elim h) (Or.inl ⟨by rfl, ?hy4n3⟩) (by assumption) ?rest4n3; (case hy4n3 => (intro w hSw; (try dsimp only at hSw); go_simp; (try with_reducible rfl))); (try simp only [Act.put, List.setIfInBounds_toArray, List.set_cons_zero, List.set_cons_succ]))
            (refine wpAnyH_take (i := 5) (v := ?v5n4) (by simp only [List.getElem?_toArray, List.getElem?_cons_succ, List.getElem?_cons_zero]; rfl) (by kernel_rfl) (by kernel_rfl) (by kernel_rfl) (fun _ _ _ h => False.elim h) (Or.inl ⟨by rfl, ?hy5n4⟩) (by assumption) ?rest5n4; (case hy5n4 => (intro w hSw; (try dsimp only at hSw); go_simp; (try with_reducible rfl))); (try simp only [Act.put, List.setIfInBounds_toArray, List.set_cons_zero, List.set_cons_succ]))
            refine wpAnyH_ready (rs := [0, 6]) (by kernel_rfl) (by simp) ?_
            refine AllReadyH.cons (o := _) (by simp only [List.getElem?_toArray, List.getElem?_cons_succ, List.getElem?_cons_zero]; rfl) (fun K hK => ?_) ?_
            · (go_simp; (skip); refine hK.out _ _ (by exact HSk.out _ (HBs.out.1)) (fun hHeld => ?_); clear hK K; (try simp only [Act.put, List.setIfInBounds_toArray, List.set_cons_zero, List.set_cons_succ]))
              refine wpAnyH_ready (rs := [2, 6]) (by kernel_rfl) (by simp) ?_
              refine AllReadyH.cons (o := _) (by simp only [List.getElem?_toArray, List.getElem?_cons_succ, List.getElem?_cons_zero]; rfl) (fun K hK => ?_) ?_
              · (((with_reducible apply step_append_run runA); rfl; rfl; rfl; rfl; rfl); refine hK.out _ _ (by exact HSk.out _ (HBs.out.2.2.2.2.1)) (fun hHeld => ?_); clear hK K; (try simp only [Act.put, List.setIfInBounds_toArray, List.set_cons_zero, List.set_cons_succ]))
                (refine wpAnyH_ready (rs := [6]) (by kernel_rfl) (by simp) ?_; refine AllReadyH.cons (o := _) (by simp only [List.getElem?_toArray, List.getElem?_cons_succ, List.getElem?_cons_zero]; rfl) (fun K hK => ?_) AllReadyH.nil; go_simp; (skip); refine hK.out _ _ (by exact HSk.out _ (HBs.out.2.2.2.2.2.1)) (fun hHeld => ?_); clear hK K; (try simp only [Act.put, List.setIfInBounds_toArray, List.set_cons_zero, List.set_cons_succ]))
                (refine wpAnyH_ready (rs := [7]) (by kernel_rfl) (by simp) ?_; refine AllReadyH.cons (o := _) (by simp only [List.getElem?_toArray, List.getElem?_cons_succ, List.getElem?_cons_zero]; rfl) (fun K hK => ?_) AllReadyH.nil; (((with_reducible apply step_append_run runA2); rfl; rfl; rfl; rfl; rfl)); refine hK.out _ _ (by exact HSk.out _ (HBs.out.2.2.2.2.2.2.1)) (fun hHeld => ?_); clear hK K; (try simp only [Act.put, List.setIfInBounds_toArray, List.set_cons_zero, List.set_cons_succ]))
                (refine wpAnyH_take (i := 8) (v := ?v8n5) (by simp only [List.getElem?_toArray, List.getElem?_cons_succ, List.getElem?_cons_zero]; rfl) (by kernel_rfl) (by kernel_rfl) (by kernel_rfl) (fun _ _ _ h => False.elim h) (Or.inl ⟨by rfl, ?hy8n5⟩) (by assumption) ?rest8n5; (case hy8n5 => (intro w hSw; (try dsimp only at hSw); go_simp; (try with_reducible rfl))); (try simp only [Act.put, List.setIfInBounds_toArray, List.set_cons_zero, List.set_cons_succ]))
                refine wpAnyH_done (by kernel_rfl) ?_ _
                refine NoPanic.normal ?_
                go_wp2
                go_roundw
                case rel => first | exact ⟨j + 1, m + 1, cA2, aA2, by omega, by go_num, rfl, HReA.out⟩ | ((repeat apply Exists.intro); refine ⟨?r, ?f⟩; (case f => (and_intros <;> rfl)); exact ⟨j + 1, m + 1, cA2, aA2, by omega, by go_num, rfl, HReA.out⟩)
                case measure => simp [intOf]; omega
              · refine AllReadyH.cons (o := _) (by simp only [List.getElem?_toArray, List.getElem?_cons_succ, List.getElem?_cons_zero]; rfl) (fun K hK => ?_) AllReadyH.nil
                (go_simp; (skip); refine hK.out _ _ (by exact HSk.out _ (HBs.out.2.2.1)) (fun hHeld => ?_); clear hK K; (try simp only [Act.put, List.setIfInBounds_toArray, List.set_cons_zero, List.set_cons_succ]))
                (refine wpAnyH_ready (rs := [2]) (by kernel_rfl) (by simp) ?_; refine AllReadyH.cons (o := _) (by simp only [List.getElem?_toArray, List.getElem?_cons_succ, List.getElem?_cons_zero]; rfl) (fun K hK => ?_) AllReadyH.nil; (((with_reducible apply step_append_run runB); rfl; rfl; rfl; rfl; rfl)); refine hK.out _ _ (by exact HSk.out _ (HBs.out.2.2.2.2.2.2.2.1)) (fun hHeld => ?_); clear hK K; (try simp only [Act.put, List.setIfInBounds_toArray, List.set_cons_zero, List.set_cons_succ]))
                (refine wpAnyH_ready (rs := [7]) (by kernel_rfl) (by simp) ?_; refine AllReadyH.cons (o := _) (by simp only [List.getElem?_toArray, List.getElem?_cons_succ, List.getElem?_cons_zero]; rfl) (fun K hK => ?_) AllReadyH.nil; (((with_reducible apply step_append_run runB2); rfl; rfl; rfl; rfl; rfl)); refine hK.out _ _ (by exact HSk.out _ (HBs.out.2.2.2.2.2.2.2.2.1)) (fun hHeld => ?_); clear hK K; (try simp only [Act.put, List.setIfInBounds_toArray, List.set_cons_zero, List.set_cons_succ]))
                (refine wpAnyH_take (i := 8) (v := ?v8n6) (by simp only [List.getElem?_toArray, List.getElem?_cons_succ, List.getElem?_cons_zero]; rfl) (by kernel_rfl) (by kernel_rfl) (by kernel_rfl) (fun _ _ _ h => False.elim h) (Or.inl ⟨by rfl, ?hy8n6⟩) (by assumption) ?rest8n6; (case hy8n6 => (intro w hSw; (try dsimp only at hSw); go_simp; (try with_reducible rfl))); (try simp only [Act.put, List.setIfInBounds_toArray, List.set_cons_zero, List.set_cons_succ]))
                refine wpAnyH_done (by kernel_rfl) ?_ _
                refine NoPanic.normal ?_
                go_wp2
                go_roundw
                case rel => first | exact ⟨j + 1, m + 1, cB2, aB2, by omega, by go_num, rfl, HReB.out⟩ | ((repeat apply Exists.intro); refine ⟨?r, ?f⟩; (case f => (and_intros <;> rfl)); exact ⟨j + 1, m + 1, cB2, aB2, by omega, by go_num, rfl, HReB.out⟩)
                case measure => simp [intOf]; omega
            · refine AllReadyH.cons (o := _) (by simp only [List.getElem?_toArray, List.getElem?_cons_succ, List.getElem?_cons_zero]; rfl) (fun K hK => ?_) AllReadyH.nil
              (go_simp; (skip); refine hK.out _ _ (by exact HSk.out _ (HBs.out.2.1)) (fun hHeld => ?_); clear hK K; (try simp only [Act.put, List.setIfInBounds_toArray, List.set_cons_zero, List.set_cons_succ]))
              (refine wpAnyH_ready (rs := [0]) (by kernel_rfl) (by simp) ?_; refine AllReadyH.cons (o := _) (by simp only [List.getElem?_toArray, List.getElem?_cons_succ, List.getElem?_cons_zero]; rfl) (fun K hK => ?_) AllReadyH.nil; go_simp; (skip); refine hK.out _ _ (by exact HSk.out _ (HBs.out.2.2.2.1)) (fun hHeld => ?_); clear hK K; (try simp only [Act.put, List.setIfInBounds_toArray, List.set_cons_zero, List.set_cons_succ]))
              (refine wpAnyH_ready (rs := [2]) (by kernel_rfl) (by simp) ?_; refine AllReadyH.cons (o := _) (by simp only [List.getElem?_toArray, List.getElem?_cons_succ, List.getElem?_cons_zero]; rfl) (fun K hK => ?_) AllReadyH.nil; (((with_reducible apply step_append_run runC); rfl; rfl; rfl; rfl; rfl)); refine hK.out _ _ (by exact HSk.out _ (HBs.out.2.2.2.2.2.2.2.2.2.1)) (fun hHeld => ?_); clear hK K; (try simp only [Act.put, List.setIfInBounds_toArray, List.set_cons_zero, List.set_cons_succ]))
              (refine wpAnyH_ready (rs := [7]) (by kernel_rfl) (by simp) ?_; refine AllReadyH.cons (o := _) (by simp only [List.getElem?_toArray, List.getElem?_cons_succ, List.getElem?_cons_zero]; rfl) (fun K hK => ?_) AllReadyH.nil; (((with_reducible apply step_append_run runC2); rfl; rfl; rfl; rfl; rfl)); refine hK.out _ _ (by exact HSk.out _ (HBs.out.2.2.2.2.2.2.2.2.2.2)) (fun hHeld => ?_); clear hK K; (try simp only [Act.put, List.setIfInBounds_toArray, List.set_cons_zero, List.set_cons_succ]))
              (refine wpAnyH_take (i := 8) (v := ?v8n7) (by simp only [List.getElem?_toArray, List.getElem?_cons_succ, List.getElem?_cons_zero]; rfl) (by kernel_rfl) (by kernel_rfl) (by kernel_rfl) (fun _ _ _ h => False.elim h) (Or.inl ⟨by rfl, ?hy8n7⟩) (by assumption) ?rest8n7; (case hy8n7 => (intro w hSw; (try dsimp only at hSw); go_simp; (try with_reducible rfl))); (try simp only [Act.put, List.setIfInBounds_toArray, List.set_cons_zero, List.set_cons_succ]))
              refine wpAnyH_done (by kernel_rfl) ?_ _
              refine NoPanic.normal ?_
              go_wp2
              go_roundw
              case rel => first | exact ⟨j + 1, m + 1, cC2, aC2, by omega, by go_num, rfl, HReC.out⟩ | ((repeat apply Exists.intro); refine ⟨?r, ?f⟩; (case f => (and_intros <;> rfl)); exact ⟨j + 1, m + 1, cC2, aC2, by omega, by go_num, rfl, HReC.out⟩)
              case measure => simp [intOf]; omega
    · obtain rfl : j = N := by omega
      obtain ⟨_, hN, _⟩ := HL.out
      have htk : ws.take j = ws := List.take_of_length_le (by omega)
      have h1 := hO.ln
      have h2 := hO.rd
      rw [htk] at h1 h2
      have HRe := Lib.hid (HP.out a m c wr h1 h2 hO.no hO.hb)
      have hjl2 : ¬ (j : Int) < (j : Int) := by omega
      clear h1 h2 hO hbw htk hN
      go_wp2
      go_ret
      exact HRe.out
end Bo
end Go.Proofs.YteekonojmpihlaaDoor
