import Derived.Test.YteekonojmpihlaaDoorQTreeLaw1
import Derived.Test.YteekonojmpihlaaDoorQTreeRfg
import Derived.Test.YteekonojmpihlaaDoorQBrkTextR
import Derived.Test.YteekonojmpihlaaDoorQSetsTell0
import Derived.Test.YteekonojmpihlaaDoorQSpellRef
import Derived.Test.YteekonojmpihlaaDoorQTreeBnd
/- dofferref07.Text of a set. -/
namespace Go.Proofs.YteekonojmpihlaaDoor
open Go Go.RowKit Kt St Sp Bk
namespace Tr
theorem dot_len (s : List Nat) (hs : s.length = 4) : (decide ((Mk.all s).length = 255) && !Mk.has s 10) = dotB s := by
  rw [Bool.eq_iff_iff]
  simp only [Bool.and_eq_true, decide_eq_true_eq, Bool.not_eq_true', dotB, List.all_eq_true, beq_iff_eq]
  have hc := List.length_eq_countP_add_countP (Mk.has s) (l := List.range 256)
  rw [List.countP_eq_length_filter, List.countP_eq_length_filter, List.length_range] at hc
  have hall : Mk.all s = (List.range 256).filter (Mk.has s) := by unfold Mk.all; rw [hs]
  rw [hall]
  constructor
  · rintro ⟨h1, h2⟩ c hcr
    have hl : ((List.range 256).filter (fun a => decide ¬ Mk.has s a = true)).length = 1 := by omega
    obtain ⟨y, hy⟩ := List.length_eq_one_iff.1 hl
    have h10 : 10 ∈ (List.range 256).filter (fun a => decide ¬ Mk.has s a = true) := List.mem_filter.2 ⟨by simp, by simp [h2]⟩
    rw [hy, List.mem_singleton] at h10
    subst h10
    cases hh : Mk.has s c with
    | true =>
      by_cases h : c = 10
      · subst h; rw [h2] at hh; cases hh
      · simp [h]
    | false =>
      have : c ∈ (List.range 256).filter (fun a => decide ¬ Mk.has s a = true) := List.mem_filter.2 ⟨hcr, by simp [hh]⟩
      rw [hy, List.mem_singleton] at this
      simp [this]
  · intro h
    have e : (List.range 256).filter (Mk.has s) = (List.range 256).filter (fun c => !decide (c = 10)) := List.filter_congr fun c hc => h c hc
    refine ⟨?_, by simpa using h 10 (by simp)⟩
    rw [e]
    kernel_rfl
set_option maxRecDepth 100000 in
set_option maxHeartbeats 4000000 in
/-- dofferref07.Text of a set. -/
theorem rtext_bytes (x0 x1 x2 x3 : Nat) (a : Option Addr) (nl c : Nat) (mn mx : Int) (t : List UInt8) (w : World) (hs : IsSet [x0, x1, x2, x3] (Mk.has [x0, x1, x2, x3])) :
    Calls Tryd.prog 59 #[.agg #[.int .i64 1, .int .u64 (x0 : Int), .int .u64 (x1 : Int), .int .u64 (x2 : Int), .int .u64 (x3 : Int), .slice a nl c, .int .i64 mn, .int .i64 mx, .string (Str t)]] w
      fun e w' => e = .returned (.string (Str (tset [x0, x1, x2, x3]))) ∧ Below w.heap.size w w' := by
  have hsz := heap_alloc_new w (.cells #[.int .i64 1, .int .u64 (x0 : Int), .int .u64 (x1 : Int), .int .u64 (x2 : Int), .int .u64 (x3 : Int), .slice a nl c, .int .i64 mn, .int .i64 mx, .string (Str t)] 44)
  have hB := (Below.refl w.heap.size w).alloc (Nat.le_refl _) (.cells #[.int .i64 1, .int .u64 (x0 : Int), .int .u64 (x1 : Int), .int .u64 (x2 : Int), .int .u64 (x3 : Int), .slice a nl c, .int .i64 mn, .int .i64 mx, .string (Str t)] 44)
  obtain ⟨W1, hW1⟩ : ∃ W1, w.alloc (.cells #[.int .i64 1, .int .u64 (x0 : Int), .int .u64 (x1 : Int), .int .u64 (x2 : Int), .int .u64 (x3 : Int), .slice a nl c, .int .i64 mn, .int .i64 mx, .string (Str t)] 44) = W1 := ⟨_, rfl⟩
  rw [hW1] at hsz hB
  have hcl : ∀ W, Below W1.heap.size W1 W → W.cell? ⟨w.heap.size, 1, none⟩ = some (.int .u64 (x0 : Int)) ∧ W.cell? ⟨w.heap.size, 2, none⟩ = some (.int .u64 (x1 : Int)) ∧ W.cell? ⟨w.heap.size, 3, none⟩ = some (.int .u64 (x2 : Int)) ∧ W.cell? ⟨w.heap.size, 4, none⟩ = some (.int .u64 (x3 : Int)) := fun W hb => by
    obtain ⟨_, h1, h2, h3, h4, _⟩ := nd_cells ((hb.block _ (block_lt hsz)).trans hsz)
    exact ⟨h1, h2, h3, h4⟩
  obtain ⟨z0, z1, z2, z3, z4, _⟩ := nd_cells hsz
  rw [← hW1] at z0 z1 z2 z3 z4
  have hL := fun W => rlist3_c [x0, x1, x2, x3] _ hs W
  have hbl : (bts [x0, x1, x2, x3]).length = (Mk.all [x0, x1, x2, x3]).length := by rw [bts_len]
  have HLen := Lib.hid hL
  have HC := Lib.hid hcl
  have HB := Lib.hid hB
  have HW1 := Lib.hid hW1
  have HS := Lib.hid hs
  simp only [sv, vals, List.map_cons, List.map_nil] at HLen
  clear hcl hB hW1 hsz hL
  by_cases h1 : (Mk.all [x0, x1, x2, x3]).length = 1
  · obtain ⟨x, hx, hx6⟩ := one_of rfl h1
    have ht : tset [x0, x1, x2, x3] = sp outs (UInt8.ofNat x) := by unfold tset; rw [if_pos h1, hx]; rfl
    have hb1 : bts [x0, x1, x2, x3] = [UInt8.ofNat x] := by unfold bts; rw [hx]; rfl
    have hp := fun W => rplain_c (UInt8.ofNat x) W
    rw [hb1] at HLen
    rw [ht]
    have HP := Lib.hid hp
    generalize sp outs (UInt8.ofNat x) = Y at *
    clear hp hx ht h1 hs hbl hb1
    go_enter Tryd.func59, Tryd.ntmps59
    go_wp2_with fail
    rw [HW1.out]
    refine (HLen.out _).mono ?_
    rintro e w2 ⟨ra, rc, rfl, hr, hb2⟩
    obtain ⟨b, off, rfl, q0⟩ := hr 0 _ rfl
    simp only [Nat.add_zero] at q0
    clear hr
    have HB2 := Lib.hid (HB.out.trans (hb2.mono HB.out.size))
    go_wp2_with fail
    refine (HP.out _).mono ?_
    rintro e w4 ⟨rfl, hb4⟩
    go_wp2
    go_ret
    exact ⟨rfl, HB2.out.trans (hb4.mono HB2.out.size)⟩
  · have ht : tset [x0, x1, x2, x3] = if dotB [x0, x1, x2, x3] then [46] else btx (Mk.has [x0, x1, x2, x3]) := by unfold tset; rw [if_neg h1]
    have hd := dot_len [x0, x1, x2, x3] rfl
    have hh := fun W => rhas_c [x0, x1, x2, x3] _ hs 10 (by decide) W
    have htx := fun W => rtext_c x0 x1 x2 x3 _ hs W
    rw [ht]
    obtain ⟨L, hLL⟩ : ∃ L, (bts [x0, x1, x2, x3]).length = L := ⟨_, rfl⟩
    rw [hLL] at HLen hbl
    rw [← hbl] at h1 hd
    generalize btx (Mk.has [x0, x1, x2, x3]) = Y at *
    generalize dotB [x0, x1, x2, x3] = dd at *
    generalize Mk.has [x0, x1, x2, x3] 10 = hten at *
    have hl1 : ((L : Int) == 1) = false := by simp; omega
    have HH := Lib.hid hh
    have HTx := Lib.hid htx
    simp only [sv, vals, List.map_cons, List.map_nil] at HH
    by_cases h255 : L = 255
    · have hd2 : ((L : Int) == 255) = true := by simp; omega
      have hdd : dd = !hten := by rw [← hd, h255]; simp
      subst hdd
      clear hs hh htx ht hd h255 hbl hLL HS h1
      go_enter Tryd.func59, Tryd.ntmps59
      go_wp2_with fail
      rw [HW1.out]
      refine (HLen.out _).mono ?_
      rintro e w2 ⟨ra, rc, rfl, _, hb2⟩
      obtain ⟨y1, y2, y3, y4⟩ := HC.out _ hb2
      have HB2 := Lib.hid hb2
      clear hb2
      go_wp2_with fail
      refine (HH.out _).mono ?_
      rintro e w3 ⟨rfl, hb3⟩
      have hb3' := HB2.out.trans (hb3.mono HB2.out.size)
      obtain ⟨v1, v2, v3, v4⟩ := HC.out _ hb3'
      have HB3 := Lib.hid hb3'
      clear hb3 hb3' y1 y2 y3 y4
      cases hten with
      | false =>
        go_wp2_with fail
        go_ret
        exact ⟨rfl, HB.out.trans (HB3.out.mono HB.out.size)⟩
      | true =>
        go_wp2_with fail
        refine (HTx.out _).mono ?_
        rintro e w4 ⟨rfl, hb4⟩
        go_wp2
        go_ret
        exact ⟨rfl, HB.out.trans ((HB3.out.trans (hb4.mono HB3.out.size)).mono HB.out.size)⟩
    · have hd2 : ((L : Int) == 255) = false := by simp; omega
      have hdd : dd = false := by rw [← hd]; simp [h255]
      subst hdd
      clear hs hh htx ht hd h255 hbl hLL HS h1 HH
      go_enter Tryd.func59, Tryd.ntmps59
      go_wp2_with fail
      rw [HW1.out]
      refine (HLen.out _).mono ?_
      rintro e w2 ⟨ra, rc, rfl, _, hb2⟩
      obtain ⟨y1, y2, y3, y4⟩ := HC.out _ hb2
      have HB2 := Lib.hid hb2
      clear hb2
      go_wp2_with fail
      refine (HTx.out _).mono ?_
      rintro e w4 ⟨rfl, hb4⟩
      go_wp2
      go_ret
      exact ⟨rfl, HB.out.trans ((HB2.out.trans (hb4.mono HB2.out.size)).mono HB.out.size)⟩
end Tr
end Go.Proofs.YteekonojmpihlaaDoor

/- dofferref07.Text of a node of kind 2. Printed by gen_rtl.py. -/
namespace Go.Proofs.YteekonojmpihlaaDoor
open Go Go.RowKit Kt St Sp Bk
namespace Tr
set_option maxRecDepth 100000 in
set_option maxHeartbeats 8000000 in
theorem rtext_kind2 (x0 x1 x2 x3 : Nat) (a : Option Addr) (ks : List Nd) (c : Nat) (mn mx : Int) (t : List UInt8) (w : World) (hIs : Is w.heap.size w (.mk 2 [x0, x1, x2, x3] mn mx t a c ks)) (h0 : ks ≠ []) (hl : ∀ j, (Lib.join (txts 2 (ks.take j)) []).length ≤ 10000000) (hkl : ∀ n ∈ ks, (txt n).length ≤ 10000000) (hnl : ks.length ≤ 1000)
    (hx : ∀ n ∈ ks, ∀ W, Below w.heap.size w W → Calls Tryd.prog 59 #[nv n] W (TxP n W)) :
    Calls Tryd.prog 59 #[nv (.mk 2 [x0, x1, x2, x3] mn mx t a c ks)] w fun e w' => e = .returned (.string (Str (Lib.join (txts 2 ks) []))) ∧ Below w.heap.size w w' := by
  obtain ⟨nl, hnlk⟩ : ∃ nl, ks.length = nl := ⟨_, rfl⟩
  have hnv : nv (.mk 2 [x0, x1, x2, x3] mn mx t a c ks) = .agg #[.int .i64 2, .int .u64 (x0 : Int), .int .u64 (x1 : Int), .int .u64 (x2 : Int), .int .u64 (x3 : Int), .slice a nl c, .int .i64 mn, .int .i64 mx, .string (Str t)] := by rw [← hnlk]; rfl
  rw [hnv]
  have hrd := hIs.2.2.2.2.1
  have hsz := heap_alloc_new w (.cells #[.int .i64 2, .int .u64 (x0 : Int), .int .u64 (x1 : Int), .int .u64 (x2 : Int), .int .u64 (x3 : Int), .slice a nl c, .int .i64 mn, .int .i64 mx, .string (Str t)] 44)
  have hB := (Below.refl w.heap.size w).alloc (Nat.le_refl _) (.cells #[.int .i64 2, .int .u64 (x0 : Int), .int .u64 (x1 : Int), .int .u64 (x2 : Int), .int .u64 (x3 : Int), .slice a nl c, .int .i64 mn, .int .i64 mx, .string (Str t)] 44)
  obtain ⟨W1, hW1⟩ : ∃ W1, w.alloc (.cells #[.int .i64 2, .int .u64 (x0 : Int), .int .u64 (x1 : Int), .int .u64 (x2 : Int), .int .u64 (x3 : Int), .slice a nl c, .int .i64 mn, .int .i64 mx, .string (Str t)] 44) = W1 := ⟨_, rfl⟩
  rw [hW1] at hsz hB
  have hcl := fun (W : World) (hb : Below W1.heap.size W1 W) => nd_cells ((hb.block _ (block_lt hsz)).trans hsz)
  obtain ⟨z0, z1, z2, z3, z4, z5, z6, z7, z8⟩ := nd_cells hsz
  rw [← hW1] at z0 z1 z2 z3 z4 z5 z6 z7 z8
  have h0' : ((nl : Int) == 0) = false := by
    have : nl ≠ 0 := by rw [← hnlk]; intro h; exact h0 (List.length_eq_zero_iff.1 h)
    simpa using this
  have HC := Lib.hid hcl
  have HB := Lib.hid hB
  have HW1 := Lib.hid hW1
  have HX := Lib.hid hx
  have HRd := Lib.hid hrd
  have HL := Lib.hid (And.intro hl (And.intro hkl hnlk))
  have hset : ∀ n ∈ ks, n.set.length = 4 := fun n hn => (Is.all hIs.2.2.2.2.2.2 n hn).len
  have HSet := Lib.hid hset
  rw [hnlk] at hnl
  clear hcl hB hW1 hsz hx hrd hl hkl hnlk hnv hIs h0 hset
  go_enter Tryd.func59, Tryd.ntmps59
  go_wp2_with fail
  rw [HW1.out]
  go_loopw [52, 4] (fun i o W => ∃ j : Nat, j ≤ nl ∧ i = .int .i64 (j : Int) ∧ o = .string (Str (Lib.join (txts 2 (ks.take j)) [])) ∧ Below W1.heap.size W1 W) (fun i _ _ => nl - (intOf i).toNat)
  case atStart => exact ⟨0, Nat.zero_le _, rfl, rfl, Below.refl _ _⟩
  case round =>
    obtain ⟨j, hj, rfl, rfl, hb⟩ := hrel
    by_cases hjl : j < nl
    · have hjk : j < ks.length := by rw [HL.out.2.2]; exact hjl
      have hin : ks[j] ∈ ks := List.getElem_mem hjk
      obtain ⟨b, off, rfl, hcs⟩ := kid_at (HRd.out.keep (HB.out.trans (hb.mono HB.out.size))) HSet.out j hjk
      have hst := join_take 2 [] ks j hjk
      have hln := HL.out.1 (j + 1)
      have hset := HSet.out _ hin
      have hxk := HX.out _ hin
      have hkl := HL.out.2.1 _ hin
      obtain ⟨kid, hkid⟩ : ∃ kid, ks[j] = kid := ⟨_, rfl⟩
      rw [hkid] at hcs hst hset hxk hkl
      obtain ⟨y0, y1, y2, y3, hys⟩ := four' hset
      obtain ⟨kk, ksx, kmn, kmx, kt, ka, kc, kks⟩ := kid
      simp only [Nd.set] at hys
      subst hys
      have q0 := hcs 0 _ rfl (by omega)
      have q1 := hcs 1 _ rfl (by omega)
      have q2 := hcs 2 _ rfl (by omega)
      have q3 := hcs 3 _ rfl (by omega)
      have q4 := hcs 4 _ rfl (by omega)
      have q5 := hcs 5 _ rfl (by omega)
      have q6 := hcs 6 _ rfl (by omega)
      have q7 := hcs 7 _ rfl (by omega)
      have q8 := hcs 8 _ rfl (by omega)
      simp only [← Nat.add_assoc, Nat.add_zero, Nd.kind, Nd.a, Nd.kids, Nd.cap, Nd.mn, Nd.mx, Nd.text] at q0 q1 q2 q3 q4 q5 q6 q7 q8
      obtain ⟨T, hT⟩ : ∃ T, txt (.mk kk [y0, y1, y2, y3] kmn kmx kt ka kc kks) = T := ⟨_, rfl⟩
      have hwt : wtxt 2 (.mk kk [y0, y1, y2, y3] kmn kmx kt ka kc kks) = if wraps 2 kk then 40 :: (T ++ [41]) else T := by rw [← hT]; rfl
      rw [hT] at hkl
      have hxk2 : ∀ W, Below w.heap.size w W → Calls Tryd.prog 59 #[nv (.mk kk [y0, y1, y2, y3] kmn kmx kt ka kc kks)] W fun e w' => e = .returned (.string (Str T)) ∧ Below W.heap.size W w' := fun W hb => by
        rw [← hT]
        exact hxk W hb
      obtain ⟨kl, hkk⟩ : ∃ kl, kks.length = kl := ⟨_, rfl⟩
      have hnv1 : nv (.mk kk [y0, y1, y2, y3] kmn kmx kt ka kc kks) = .agg #[.int .i64 kk, .int .u64 (y0 : Int), .int .u64 (y1 : Int), .int .u64 (y2 : Int), .int .u64 (y3 : Int), .slice ka kl kc, .int .i64 kmn, .int .i64 kmx, .string (Str kt)] := by rw [← hkk]; rfl
      rw [hnv1] at hxk2
      rw [hkk] at q5
      rw [hwt] at hst
      obtain ⟨J, hJ⟩ : ∃ J, Lib.join (txts 2 (ks.take j)) [] = J := ⟨_, rfl⟩
      obtain ⟨J', hJ'⟩ : ∃ J', Lib.join (txts 2 (ks.take (j + 1))) [] = J' := ⟨_, rfl⟩
      rw [hJ] at hst ⊢
      rw [hJ'] at hst hln
      have b5 : Below wr.heap.size wr (wr.alloc (.cells #[.int .i64 kk, .int .u64 (y0 : Int), .int .u64 (y1 : Int), .int .u64 (y2 : Int), .int .u64 (y3 : Int), .slice ka kl kc, .int .i64 kmn, .int .i64 kmx, .string (Str kt)] 44)) := (Below.refl _ _).alloc (Nat.le_refl _) _
      have l5 := heap_alloc_new wr (.cells #[.int .i64 kk, .int .u64 (y0 : Int), .int .u64 (y1 : Int), .int .u64 (y2 : Int), .int .u64 (y3 : Int), .slice ka kl kc, .int .i64 kmn, .int .i64 kmx, .string (Str kt)] 44)
      obtain ⟨W5, hW5⟩ : ∃ W5, wr.alloc (.cells #[.int .i64 kk, .int .u64 (y0 : Int), .int .u64 (y1 : Int), .int .u64 (y2 : Int), .int .u64 (y3 : Int), .slice ka kl kc, .int .i64 kmn, .int .i64 kmx, .string (Str kt)] 44) = W5 := ⟨_, rfl⟩
      rw [hW5] at b5 l5
      have hB5 := hb.trans (b5.mono hb.size)
      obtain ⟨e0, e1, e2, e3, e4, e5, e6, e7, e8⟩ := nd_cells l5
      rw [← hW5] at e0 e1 e2 e3 e4 e5 e6 e7 e8
      obtain ⟨p0, _⟩ := HC.out _ hb
      have HXk := Lib.hid (hxk2 _ (HB.out.trans (hB5.mono HB.out.size)))
      have HB5 := Lib.hid hB5
      have HL5 := Lib.hid l5
      have HW5 := Lib.hid hW5
      have HJ := Lib.hid hJ'
      have HSt := Lib.hid (And.intro hst (And.intro hln hkl))
      clear hcs hset hxk hkl hxk2 hnv1 hkk hT hwt hst hln hb hB5 b5 l5 hW5 hJ hJ' hin hkid z0 z1 z2 z3 z4 z5 z6 z7 z8
      go_wp2_with fail
      rw [HW5.out]
      with_reducible refine HXk.out.mono ?_
      rintro e w6 ⟨rfl, hb6⟩
      have hB6 := HB5.out.trans (hb6.mono HB5.out.size)
      obtain ⟨p0, _⟩ := HC.out _ hB6
      obtain ⟨e0, _⟩ := nd_cells ((hb6.block _ (block_lt HL5.out)).trans HL5.out)
      have HB6 := Lib.hid hB6
      have HK0 := Lib.hid e0
      clear hb6 hB6 HL5 HW5 HXk HB5 q0 q1 q2 q3 q4 q5 q6 q7 q8 e1 e2 e3 e4 e5 e6 e7 e8
      by_cases k3 : kk = 3
      · subst k3
        have hst : J' = J ++ ((if j = 0 then [] else []) ++ (40 :: (T ++ [41]))) := by rw [HSt.out.1]; simp [wraps]
        by_cases hj0 : j = 0
        · have hd : ¬ 0 < j := by omega
          have hd2 : decide (0 < j) = false := by simp; omega
          have hd3 : decide ((0 : Int) < (j : Int)) = false := by simp; omega
          have hln := HSt.out.2.1
          have hkl := HSt.out.2.2
          obtain ⟨Y, hY⟩ : ∃ Y, 40 :: T = Y := ⟨_, rfl⟩
          obtain ⟨Z, hZ⟩ : ∃ Z, 40 :: (T ++ [41]) = Z := ⟨_, rfl⟩
          have a1 : ∀ w, (Op.stringOp .add ⟨#[40]⟩ (Str T)).run Tryd.prog w = .ok (.string (Str Y)) w := add_to (a := [40]) (by simpa using hY) (by rw [← hY]; simp; omega)
          have a2 : ∀ w, (Op.stringOp .add (Str Y) ⟨#[41]⟩).run Tryd.prog w = .ok (.string (Str Z)) w := add_to (b := [41]) (by rw [← hY, ← hZ]; rfl) (by rw [← hZ]; simp; omega)
          rw [hZ] at hst
          simp only [hj0, List.nil_append, if_true, ite_self] at hst
          have a4 : ∀ w, (Op.stringOp .add (Str J) (Str Z)).run Tryd.prog w = .ok (.string (Str J')) w := add_to hst.symm (by omega)
          clear hst hln hkl hj0 HSt hY hZ
          go_wp2_with fail
          go_roundw
          case rel => exact ⟨j + 1, by omega, by go_num, by rw [HJ.out], HB6.out⟩
          case measure => simp [intOf]; omega
        · have hd : 0 < j := by omega
          have hd2 : decide (0 < j) = true := by simp; omega
          have hd3 : decide ((0 : Int) < (j : Int)) = true := by simp; omega
          have hln := HSt.out.2.1
          have hkl := HSt.out.2.2
          obtain ⟨Y, hY⟩ : ∃ Y, 40 :: T = Y := ⟨_, rfl⟩
          obtain ⟨Z, hZ⟩ : ∃ Z, 40 :: (T ++ [41]) = Z := ⟨_, rfl⟩
          have a1 : ∀ w, (Op.stringOp .add ⟨#[40]⟩ (Str T)).run Tryd.prog w = .ok (.string (Str Y)) w := add_to (a := [40]) (by simpa using hY) (by rw [← hY]; simp; omega)
          have a2 : ∀ w, (Op.stringOp .add (Str Y) ⟨#[41]⟩).run Tryd.prog w = .ok (.string (Str Z)) w := add_to (b := [41]) (by rw [← hY, ← hZ]; rfl) (by rw [← hZ]; simp; omega)
          rw [hZ] at hst
          simp only [List.nil_append, if_true, ite_self] at hst
          have a4 : ∀ w, (Op.stringOp .add (Str J) (Str Z)).run Tryd.prog w = .ok (.string (Str J')) w := add_to hst.symm (by omega)
          clear hst hln hkl hj0 HSt hY hZ
          go_wp2_with fail
          go_roundw
          case rel => exact ⟨j + 1, by omega, by go_num, by rw [HJ.out], HB6.out⟩
          case measure => simp [intOf]; omega
      · have g3 : (kk == 3) = false := by simpa using k3
        by_cases k2 : kk = 2
        · subst k2
          have hst : J' = J ++ ((if j = 0 then [] else []) ++ (40 :: (T ++ [41]))) := by rw [HSt.out.1]; simp [wraps]
          by_cases hj0 : j = 0
          · have hd : ¬ 0 < j := by omega
            have hd2 : decide (0 < j) = false := by simp; omega
            have hd3 : decide ((0 : Int) < (j : Int)) = false := by simp; omega
            have hln := HSt.out.2.1
            have hkl := HSt.out.2.2
            obtain ⟨Y, hY⟩ : ∃ Y, 40 :: T = Y := ⟨_, rfl⟩
            obtain ⟨Z, hZ⟩ : ∃ Z, 40 :: (T ++ [41]) = Z := ⟨_, rfl⟩
            have a1 : ∀ w, (Op.stringOp .add ⟨#[40]⟩ (Str T)).run Tryd.prog w = .ok (.string (Str Y)) w := add_to (a := [40]) (by simpa using hY) (by rw [← hY]; simp; omega)
            have a2 : ∀ w, (Op.stringOp .add (Str Y) ⟨#[41]⟩).run Tryd.prog w = .ok (.string (Str Z)) w := add_to (b := [41]) (by rw [← hY, ← hZ]; rfl) (by rw [← hZ]; simp; omega)
            rw [hZ] at hst
            simp only [hj0, List.nil_append, if_true, ite_self] at hst
            have a4 : ∀ w, (Op.stringOp .add (Str J) (Str Z)).run Tryd.prog w = .ok (.string (Str J')) w := add_to hst.symm (by omega)
            clear hst hln hkl hj0 HSt hY hZ
            go_wp2_with fail
            go_roundw
            case rel => exact ⟨j + 1, by omega, by go_num, by rw [HJ.out], HB6.out⟩
            case measure => simp [intOf]; omega
          · have hd : 0 < j := by omega
            have hd2 : decide (0 < j) = true := by simp; omega
            have hd3 : decide ((0 : Int) < (j : Int)) = true := by simp; omega
            have hln := HSt.out.2.1
            have hkl := HSt.out.2.2
            obtain ⟨Y, hY⟩ : ∃ Y, 40 :: T = Y := ⟨_, rfl⟩
            obtain ⟨Z, hZ⟩ : ∃ Z, 40 :: (T ++ [41]) = Z := ⟨_, rfl⟩
            have a1 : ∀ w, (Op.stringOp .add ⟨#[40]⟩ (Str T)).run Tryd.prog w = .ok (.string (Str Y)) w := add_to (a := [40]) (by simpa using hY) (by rw [← hY]; simp; omega)
            have a2 : ∀ w, (Op.stringOp .add (Str Y) ⟨#[41]⟩).run Tryd.prog w = .ok (.string (Str Z)) w := add_to (b := [41]) (by rw [← hY, ← hZ]; rfl) (by rw [← hZ]; simp; omega)
            rw [hZ] at hst
            simp only [List.nil_append, if_true, ite_self] at hst
            have a4 : ∀ w, (Op.stringOp .add (Str J) (Str Z)).run Tryd.prog w = .ok (.string (Str J')) w := add_to hst.symm (by omega)
            clear hst hln hkl hj0 HSt hY hZ
            go_wp2_with fail
            go_roundw
            case rel => exact ⟨j + 1, by omega, by go_num, by rw [HJ.out], HB6.out⟩
            case measure => simp [intOf]; omega
        · have g2 : (kk == 2) = false := by simpa using k2
          by_cases k4 : kk = 4
          · subst k4
            have hst : J' = J ++ ((if j = 0 then [] else []) ++ T) := by rw [HSt.out.1]; simp [wraps]
            by_cases hj0 : j = 0
            · have hd : ¬ 0 < j := by omega
              have hd2 : decide (0 < j) = false := by simp; omega
              have hd3 : decide ((0 : Int) < (j : Int)) = false := by simp; omega
              have hln := HSt.out.2.1
              have hkl := HSt.out.2.2
              simp only [hj0, List.nil_append, if_true, ite_self] at hst
              have a4 : ∀ w, (Op.stringOp .add (Str J) (Str T)).run Tryd.prog w = .ok (.string (Str J')) w := add_to hst.symm (by omega)
              clear hst hln hkl hj0 HSt
              go_wp2_with fail
              go_roundw
              case rel => exact ⟨j + 1, by omega, by go_num, by rw [HJ.out], HB6.out⟩
              case measure => simp [intOf]; omega
            · have hd : 0 < j := by omega
              have hd2 : decide (0 < j) = true := by simp; omega
              have hd3 : decide ((0 : Int) < (j : Int)) = true := by simp; omega
              have hln := HSt.out.2.1
              have hkl := HSt.out.2.2
              simp only [List.nil_append, if_true, ite_self] at hst
              have a4 : ∀ w, (Op.stringOp .add (Str J) (Str T)).run Tryd.prog w = .ok (.string (Str J')) w := add_to hst.symm (by omega)
              clear hst hln hkl hj0 HSt
              go_wp2_with fail
              go_roundw
              case rel => exact ⟨j + 1, by omega, by go_num, by rw [HJ.out], HB6.out⟩
              case measure => simp [intOf]; omega
          · have g4 : (kk == 4) = false := by simpa using k4
            have hst : J' = J ++ ((if j = 0 then [] else []) ++ T) := by rw [HSt.out.1]; simp [wraps, k2, k3, k4]
            by_cases hj0 : j = 0
            · have hd : ¬ 0 < j := by omega
              have hd2 : decide (0 < j) = false := by simp; omega
              have hd3 : decide ((0 : Int) < (j : Int)) = false := by simp; omega
              have hln := HSt.out.2.1
              have hkl := HSt.out.2.2
              simp only [hj0, List.nil_append, if_true, ite_self] at hst
              have a4 : ∀ w, (Op.stringOp .add (Str J) (Str T)).run Tryd.prog w = .ok (.string (Str J')) w := add_to hst.symm (by omega)
              clear hst hln hkl hj0 HSt
              go_wp2_with fail
              go_roundw
              case rel => exact ⟨j + 1, by omega, by go_num, by rw [HJ.out], HB6.out⟩
              case measure => simp [intOf]; omega
            · have hd : 0 < j := by omega
              have hd2 : decide (0 < j) = true := by simp; omega
              have hd3 : decide ((0 : Int) < (j : Int)) = true := by simp; omega
              have hln := HSt.out.2.1
              have hkl := HSt.out.2.2
              simp only [List.nil_append, if_true, ite_self] at hst
              have a4 : ∀ w, (Op.stringOp .add (Str J) (Str T)).run Tryd.prog w = .ok (.string (Str J')) w := add_to hst.symm (by omega)
              clear hst hln hkl hj0 HSt
              go_wp2_with fail
              go_roundw
              case rel => exact ⟨j + 1, by omega, by go_num, by rw [HJ.out], HB6.out⟩
              case measure => simp [intOf]; omega
    · obtain rfl : j = nl := by omega
      have HBb := Lib.hid hb
      have hks : ks.take j = ks := List.take_of_length_le (by rw [HL.out.2.2]; exact Nat.le_refl _)
      rw [hks]
      obtain ⟨p0, _⟩ := HC.out _ hb
      clear hb hks z0 z1 z2 z3 z4 z5 z6 z7 z8
      go_wp2_with fail
      go_ret
      exact ⟨rfl, HB.out.trans (HBb.out.mono HB.out.size)⟩
end Tr
end Go.Proofs.YteekonojmpihlaaDoor
