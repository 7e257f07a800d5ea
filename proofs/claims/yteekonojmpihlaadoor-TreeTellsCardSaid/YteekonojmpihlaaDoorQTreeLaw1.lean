import Derived.Test.YteekonojmpihlaaDoorQTreeTx
import Derived.Test.YteekonojmpihlaaDoorQTreeRight
import Derived.Test.YteekonojmpihlaaDoorQBrkText
import Derived.Test.YteekonojmpihlaaDoorQBrkDot
import Derived.Test.YteekonojmpihlaaDoorQSetsN
import Derived.Test.YteekonojmpihlaaDoorQSets5
import Derived.Test.YteekonojmpihlaaDoorQSetsR
import Derived.Test.YteekonojmpihlaaDoorQSpellRef
import Derived.Deep.RegionHeld3
/- tree.text, tree.Text. Condition: the table of TrailingZeros64 reads as laid. -/
namespace Go.Proofs.YteekonojmpihlaaDoor
open Go Go.RowKit Kt St Sp Bk
namespace Tr
theorem dot_iff {s rs : List Nat} (hs : IsSet s (Mk.has s)) (hr : IsSet rs (fun q => !decide (q = 10))) : decide (s = rs) = dotB s := by
  by_cases h : s = rs
  · subst h
    rw [decide_eq_true rfl]
    symm
    unfold dotB
    rw [List.all_eq_true]
    intro c hc
    rw [hr.at' c (by simpa using hc)]
    simp
  · rw [decide_eq_false h]
    symm
    rw [Bool.eq_false_iff]
    intro hd
    apply h
    unfold dotB at hd
    rw [List.all_eq_true] at hd
    refine IsSet.unique (f := fun q => !decide (q = 10)) ⟨hs.len, hs.lt, fun c hc => ?_⟩ hr
    simpa using hd c (by simpa using hc)
theorem one_of {s : List Nat} (hs : s.length = 4) (h : (Mk.all s).length = 1) : ∃ x, Mk.all s = [x] ∧ x < 256 := by
  match hl : Mk.all s, h with
  | [x], _ => exact ⟨x, rfl, by have := Mk.all_lt (ws := s) (x := x) (by rw [hl]; simp); omega⟩
set_option maxRecDepth 100000 in
set_option maxHeartbeats 4000000 in
/-- tree.text of a set. -/
theorem text_bytes (x0 x1 x2 x3 : Nat) (a : Option Addr) (nl c : Nat) (mn mx : Int) (t : List UInt8) (w : World) (hT : Bt.Tab w) (hs : IsSet [x0, x1, x2, x3] (Mk.has [x0, x1, x2, x3])) :
    Calls Tryd.prog 84 #[.agg #[.int .i64 1, .int .u64 (x0 : Int), .int .u64 (x1 : Int), .int .u64 (x2 : Int), .int .u64 (x3 : Int), .slice a nl c, .int .i64 mn, .int .i64 mx, .string (Str t)]] w
      fun e w' => e = .returned (.string (Str (tset [x0, x1, x2, x3]))) ∧ Below w.heap.size w w' := by
  have hsz := heap_alloc_new w (.cells #[.int .i64 1, .int .u64 (x0 : Int), .int .u64 (x1 : Int), .int .u64 (x2 : Int), .int .u64 (x3 : Int), .slice a nl c, .int .i64 mn, .int .i64 mx, .string (Str t)] 37)
  have hB := (Below.refl w.heap.size w).alloc (Nat.le_refl _) (.cells #[.int .i64 1, .int .u64 (x0 : Int), .int .u64 (x1 : Int), .int .u64 (x2 : Int), .int .u64 (x3 : Int), .slice a nl c, .int .i64 mn, .int .i64 mx, .string (Str t)] 37)
  obtain ⟨W1, hW1⟩ : ∃ W1, w.alloc (.cells #[.int .i64 1, .int .u64 (x0 : Int), .int .u64 (x1 : Int), .int .u64 (x2 : Int), .int .u64 (x3 : Int), .slice a nl c, .int .i64 mn, .int .i64 mx, .string (Str t)] 37) = W1 := ⟨_, rfl⟩
  rw [hW1] at hsz hB
  have hcl : ∀ W, Below W1.heap.size W1 W → W.cell? ⟨w.heap.size, 1, none⟩ = some (.int .u64 (x0 : Int)) ∧ W.cell? ⟨w.heap.size, 2, none⟩ = some (.int .u64 (x1 : Int)) ∧ W.cell? ⟨w.heap.size, 3, none⟩ = some (.int .u64 (x2 : Int)) ∧ W.cell? ⟨w.heap.size, 4, none⟩ = some (.int .u64 (x3 : Int)) := fun W hb => by
    obtain ⟨_, h1, h2, h3, h4, _⟩ := nd_cells ((hb.block _ (block_lt hsz)).trans hsz)
    exact ⟨h1, h2, h3, h4⟩
  obtain ⟨z0, z1, z2, z3, z4, _⟩ := nd_cells hsz
  have HLen := Lib.hid (fun W => len_c [x0, x1, x2, x3] _ hs W)
  have HC := Lib.hid hcl
  have HB := Lib.hid hB
  have HW1 := Lib.hid hW1
  have HT := Lib.hid hT
  have HS := Lib.hid hs
  simp only [sv, vals, List.map_cons, List.map_nil] at HLen
  clear hcl hB hW1 hT hsz
  by_cases h1 : (Mk.all [x0, x1, x2, x3]).length = 1
  · obtain ⟨x, hx, hx6⟩ := one_of rfl h1
    have ht : tset [x0, x1, x2, x3] = sp outs (UInt8.ofNat x) := by unfold tset; rw [if_pos h1, hx]; rfl
    have hle : ∀ W, Bt.Tab W → Calls Tryd.prog 111 #[sv [x0, x1, x2, x3]] W fun e W' => e = .returned (.int .i64 (x : Int)) ∧ Below W.heap.size W W' := fun W h => by
      have := least_c [x0, x1, x2, x3] _ hs W h
      rw [hx, show nthOf [x] 0 = (x : Int) from rfl] at this
      exact this
    have hp := fun W => plain_c (UInt8.ofNat x) W
    rw [show ((UInt8.ofNat x).toNat : Int) = (x : Int) by simp; omega] at hp
    rw [h1] at HLen
    rw [ht]
    have HLe := Lib.hid hle
    have HP := Lib.hid hp
    simp only [sv, vals, List.map_cons, List.map_nil] at HLe
    have hxm : (x : Int) % 256 = x := by omega
    generalize sp outs (UInt8.ofNat x) = Y at *
    clear hle hp hx ht h1 hs
    go_enter Tryd.func84, Tryd.ntmps84
    go_wp2_with fail
    rw [HW1.out]
    refine (HLen.out _).mono ?_
    rintro e w2 ⟨rfl, hb2⟩
    obtain ⟨y1, y2, y3, y4⟩ := HC.out _ hb2
    have hT2 := HT.out.below (HB.out.trans (hb2.mono HB.out.size))
    go_wp2_with fail
    refine (HLe.out _ hT2).mono ?_
    rintro e w3 ⟨rfl, hb3⟩
    go_wp2_with fail
    refine (HP.out _).mono ?_
    rintro e w4 ⟨rfl, hb4⟩
    go_wp2
    go_ret
    exact ⟨rfl, ((HB.out.trans (hb2.mono HB.out.size)).trans (hb3.mono (by have := hb2.size; have := HB.out.size; omega))).trans (hb4.mono (by have := hb3.size; have := hb2.size; have := HB.out.size; omega))⟩
  · have hl1 : (((Mk.all [x0, x1, x2, x3]).length : Int) == 1) = false := by simp; omega
    have hdot : ∀ W, Calls Tryd.prog 112 #[] W fun e w' => ∃ y0 y1 y2 y3 : Nat, e = .returned (.agg #[.int .u64 (y0 : Int), .int .u64 (y1 : Int), .int .u64 (y2 : Int), .int .u64 (y3 : Int)]) ∧ (∀ W, (binOp .eql 34 (.agg #[.int .u64 (x0 : Int), .int .u64 (x1 : Int), .int .u64 (x2 : Int), .int .u64 (x3 : Int)]) (.agg #[.int .u64 (y0 : Int), .int .u64 (y1 : Int), .int .u64 (y2 : Int), .int .u64 (y3 : Int)])).run Tryd.prog W = .ok (.bool (dotB [x0, x1, x2, x3])) W) ∧ Below W.heap.size W w' := fun W => (dot_c W).mono fun e w' ⟨rs, he, hr, hb⟩ => by
      obtain ⟨y0, y1, y2, y3, rfl⟩ := four hr.len
      refine ⟨y0, y1, y2, y3, he, fun W => ?_, hb⟩
      have := eq_run [x0, x1, x2, x3] [y0, y1, y2, y3] rfl rfl W
      rw [dot_iff hs hr] at this
      exact this
    have htx := fun W h => text_c x0 x1 x2 x3 _ hs W h
    have ht : tset [x0, x1, x2, x3] = if dotB [x0, x1, x2, x3] then [46] else btx (Mk.has [x0, x1, x2, x3]) := by unfold tset; rw [if_neg h1]
    rw [ht]
    have HD := Lib.hid hdot
    have HTx := Lib.hid htx
    clear hdot htx ht h1 hs
    generalize (Mk.all [x0, x1, x2, x3]).length = L at *
    generalize btx (Mk.has [x0, x1, x2, x3]) = Y at *
    generalize dotB [x0, x1, x2, x3] = dd at *
    cases dd with
    | true =>
      simp only [reduceIte]
      go_enter Tryd.func84, Tryd.ntmps84
      go_wp2_with fail
      rw [HW1.out]
      refine (HLen.out _).mono ?_
      rintro e w2 ⟨rfl, hb2⟩
      obtain ⟨y1, y2, y3, y4⟩ := HC.out _ hb2
      go_wp2_with fail
      have u0 : Below W1.heap.size W1 w2.drew := hb2.drew
      (first
        | (go_region_held3 (fun W => W.cell? ⟨w.heap.size, 1, none⟩ = some (.int .u64 (x0 : Int)) ∧ W.cell? ⟨w.heap.size, 2, none⟩ = some (.int .u64 (x1 : Int)) ∧ W.cell? ⟨w.heap.size, 3, none⟩ = some (.int .u64 (x2 : Int)) ∧ W.cell? ⟨w.heap.size, 4, none⟩ = some (.int .u64 (x3 : Int)))
          (first | exact HC.out _ u1 | exact HC.out _ u0)
          ((go_at_call 112; (with_reducible refine (HD.out _).mono ?_); rintro e w3 ⟨r0, r1, r2, r3, rfl, heq, hb3⟩
            have u1 := u0.trans (hb3.mono u0.size))))
        | fail)
      go_wp2
      go_ret
      exact ⟨rfl, HB.out.trans (u1.mono HB.out.size)⟩
    | false =>
      simp only [reduceIte, Bool.false_eq_true]
      go_enter Tryd.func84, Tryd.ntmps84
      go_wp2_with fail
      rw [HW1.out]
      refine (HLen.out _).mono ?_
      rintro e w2 ⟨rfl, hb2⟩
      obtain ⟨y1, y2, y3, y4⟩ := HC.out _ hb2
      go_wp2_with fail
      have u0 : Below W1.heap.size W1 w2.drew := hb2.drew
      (first
        | (go_region_held3 (fun W => W.cell? ⟨w.heap.size, 1, none⟩ = some (.int .u64 (x0 : Int)) ∧ W.cell? ⟨w.heap.size, 2, none⟩ = some (.int .u64 (x1 : Int)) ∧ W.cell? ⟨w.heap.size, 3, none⟩ = some (.int .u64 (x2 : Int)) ∧ W.cell? ⟨w.heap.size, 4, none⟩ = some (.int .u64 (x3 : Int)))
          (first | exact HC.out _ u1 | exact HC.out _ u0)
          ((go_at_call 112; (with_reducible refine (HD.out _).mono ?_); rintro e w3 ⟨r0, r1, r2, r3, rfl, heq, hb3⟩
            have u1 := u0.trans (hb3.mono u0.size))))
        | fail)
      obtain ⟨v1, v2, v3, v4⟩ := HC.out _ u1
      have hT3 := HT.out.below (HB.out.trans (u1.mono HB.out.size))
      go_wp2_with fail
      refine (HTx.out _ ?_).mono ?_
      · exact hT3
      rintro e w4 ⟨rfl, hb4⟩
      go_wp2
      go_ret
      exact ⟨rfl, (HB.out.trans (u1.mono HB.out.size)).trans (hb4.mono (by have := u1.size; have := HB.out.size; omega))⟩
theorem wr2 (k : Int) : decide (k ∈ ([2, 3] : List Int)) = wraps 2 k := by
  by_cases h2 : k = 2 <;> by_cases h3 : k = 3 <;> simp [wraps, h2, h3]
theorem wr3 (k : Int) : decide (k ∈ ([3] : List Int)) = wraps 3 k := by
  by_cases h3 : k = 3 <;> simp [wraps, h3]
theorem wr4 (k : Int) : decide (k ∈ ([2, 3, 4] : List Int)) = wraps 4 k := by
  by_cases h2 : k = 2 <;> by_cases h3 : k = 3 <;> by_cases h4 : k = 4 <;> simp [wraps, h2, h3, h4]
/-- What joined answers, wherever it is called. -/
def JoinP (k : Int) (x0 x1 x2 x3 : Nat) (a : Option Addr) (ks : List Nd) (nl c : Nat) (mn mx : Int) (t : List UInt8) (p : Int) (sep : List UInt8) (S : ByteArray) (w : World) : Prop :=
  ∀ (W : World) (g m cap : Nat) (l : List Int), Below w.heap.size w W → Rd W (some ⟨g, 0, none⟩) (i64s l) → l.length = m → m ≤ 100 → (∀ k : Int, decide (k ∈ l) = wraps p k) →
    Calls Tryd.prog 114 #[.agg #[.int .i64 k, .int .u64 (x0 : Int), .int .u64 (x1 : Int), .int .u64 (x2 : Int), .int .u64 (x3 : Int), .slice a nl c, .int .i64 mn, .int .i64 mx, .string (Str t)], .string S, .slice (some ⟨g, 0, none⟩) m cap] W
      fun e w' => e = .returned (.string (Str (Lib.join (txts p ks) sep))) ∧ Below W.heap.size W w'
theorem joinP (k : Int) (x0 x1 x2 x3 : Nat) (a : Option Addr) (ks : List Nd) (nl c : Nat) (mn mx : Int) (t : List UInt8) (p : Int) (sep : List UInt8) (S : ByteArray) (hS : Str sep = S) (w : World) (hnl : ks.length = nl) (hIs : Is w.heap.size w (.mk k [x0, x1, x2, x3] mn mx t a c ks)) (h0 : nl ≠ 0) (hg : goods ks) (hsz : szs ks ≤ 600) (hsep : sep.length ≤ 1)
    (hx : ∀ n ∈ ks, ∀ W, Below w.heap.size w W → Calls Tryd.prog 84 #[nv n] W (TxP n W)) : JoinP k x0 x1 x2 x3 a ks nl c mn mx t p sep S w := by
  intro W g m cap l hb hr hl hm hw
  subst hnl hS
  have hks := szs_len ks
  have htl := txts_len p ks hg
  have hjl := join_len sep (txts p ks)
  have hl2 : (txts p ks).length = ks.length := by rw [txts_eq, List.length_map]
  have h1 : sep.length * ks.length ≤ 600 := Nat.le_trans (Nat.mul_le_mul hsep (show ks.length ≤ 600 by omega)) (by decide)
  rw [hl2] at hjl
  refine joined_c k x0 x1 x2 x3 a ks c mn mx t p sep l g m cap W hl hm hr (fun n _ => hw n.kind) (by rintro rfl; exact h0 rfl) (by omega) (Is.mono hb.size (Is.below hb hIs)) (fun n hn => ?_) (by omega) (fun n hn W2 hb2 => hx n hn W2 (hb.trans (hb2.mono hb.size)))
  have := txt_len n (fun _ _ => trivial) (goods_mem hg n hn)
  have := szs_mem hn
  omega
set_option maxRecDepth 100000 in
set_option maxHeartbeats 4000000 in
/-- tree.text of a node that is no set, its kids' texts at hand. -/
theorem text_else (k : Int) (x0 x1 x2 x3 : Nat) (a : Option Addr) (ks : List Nd) (c : Nat) (mn mx : Int) (t : List UInt8) (w : World) (hk1 : k ≠ 1) (hIs : Is w.heap.size w (.mk k [x0, x1, x2, x3] mn mx t a c ks)) (hg : good (.mk k [x0, x1, x2, x3] mn mx t a c ks)) (hsz : sz (.mk k [x0, x1, x2, x3] mn mx t a c ks) ≤ 600)
    (hx : ∀ n ∈ ks, ∀ W, Below w.heap.size w W → Calls Tryd.prog 84 #[nv n] W (TxP n W)) :
    Calls Tryd.prog 84 #[nv (.mk k [x0, x1, x2, x3] mn mx t a c ks)] w (TxP (.mk k [x0, x1, x2, x3] mn mx t a c ks) w) := by
  have hnv : nv (.mk k [x0, x1, x2, x3] mn mx t a c ks) = .agg #[.int .i64 k, .int .u64 (x0 : Int), .int .u64 (x1 : Int), .int .u64 (x2 : Int), .int .u64 (x3 : Int), .slice a ks.length c, .int .i64 mn, .int .i64 mx, .string (Str t)] := rfl
  rw [hnv]
  clear hnv
  obtain ⟨h1, hgs⟩ := hg
  simp only [sz] at hsz
  obtain ⟨nl, hnl⟩ : ∃ nl, ks.length = nl := ⟨_, rfl⟩
  have hj := fun p sep S hS h0 hs => joinP k x0 x1 x2 x3 a ks nl c mn mx t p sep S hS w hnl hIs h0 hgs (by omega) hs hx
  have hone := h1
  simp only [one, Nd.kind, Nd.kids, Nd.mn, Nd.mx, Nd.text, hk1, if_false, hnl, Bool.and_eq_true] at hone
  have hone := hone.2
  have htx : txt (.mk k [x0, x1, x2, x3] mn mx t a c ks) = if k = 2 ∧ nl = 0 then [40, 41] else if k = 2 then Lib.join (txts 2 ks) [] else if k = 3 then Lib.join (txts 3 ks) [124] else if k = 4 then Lib.join (txts 4 ks) [] ++ often mn mx else 123 :: (t ++ [125]) := by
    rw [← hnl]
    simp only [txt, if_neg hk1]
  have htl := txt_len (.mk k [x0, x1, x2, x3] mn mx t a c ks) (fun _ _ => trivial) ⟨h1, hgs⟩
  simp only [sz] at htl
  rw [hnl]
  have hfin : ∀ T, txt (.mk k [x0, x1, x2, x3] mn mx t a c ks) = T → T.length ≤ 10000000 ∧ ∀ w', Below w.heap.size w w' → TxP (.mk k [x0, x1, x2, x3] mn mx t a c ks) w (.returned (.string (Str T))) w' := fun T hT => ⟨by rw [← hT]; omega, fun w' hb => ⟨by rw [hT], hb⟩⟩
  have hs1 := heap_alloc_new w (.cells #[.int .i64 k, .int .u64 (x0 : Int), .int .u64 (x1 : Int), .int .u64 (x2 : Int), .int .u64 (x3 : Int), .slice a nl c, .int .i64 mn, .int .i64 mx, .string (Str t)] 37)
  have hB := (Below.refl w.heap.size w).alloc (Nat.le_refl _) (.cells #[.int .i64 k, .int .u64 (x0 : Int), .int .u64 (x1 : Int), .int .u64 (x2 : Int), .int .u64 (x3 : Int), .slice a nl c, .int .i64 mn, .int .i64 mx, .string (Str t)] 37)
  obtain ⟨W1, hW1⟩ : ∃ W1, w.alloc (.cells #[.int .i64 k, .int .u64 (x0 : Int), .int .u64 (x1 : Int), .int .u64 (x2 : Int), .int .u64 (x3 : Int), .slice a nl c, .int .i64 mn, .int .i64 mx, .string (Str t)] 37) = W1 := ⟨_, rfl⟩
  have hz1 : W1.heap.size = w.heap.size + 1 := by rw [← hW1]; simp
  rw [hW1] at hs1 hB
  have hcl := fun (W : World) (hb : Below W1.heap.size W1 W) => nd_cells ((hb.block _ (block_lt hs1)).trans hs1)
  obtain ⟨z0, z1, z2, z3, z4, z5, z6, z7, z8⟩ := nd_cells hs1
  have d1 : (k == 1) = false := by simpa using hk1
  have HJ := Lib.hid hj
  have HF := Lib.hid hfin
  have HB := Lib.hid hB
  have HW1 := Lib.hid hW1
  have HC := Lib.hid hcl
  have HT := Lib.hid htx
  have HO := Lib.hid hone
  clear hj hfin hB hW1 hcl htx htl hone hs1 hx h1 hgs hsz hIs hk1 hnl
  by_cases k2 : k = 2
  · subst k2
    by_cases n0 : nl = 0
    · have hf := HF.out [40, 41] (by rw [HT.out, if_pos ⟨rfl, n0⟩])
      have HF2 := Lib.hid hf.2
      subst n0
      clear hf
      go_enter Tryd.func84, Tryd.ntmps84
      go_wp2_with fail
      rw [HW1.out]
      go_ret
      exact HF2.out _ HB.out
    · have hf := HF.out (Lib.join (txts 2 ks) []) (by rw [HT.out, if_neg (by simp [n0]), if_pos rfl])
      have HF2 := Lib.hid hf.2
      have b2 := (Below.refl W1.heap.size W1).alloc (Nat.le_refl _) (.cells #[.int .i64 2, .int .i64 3] 3)
      have hj := HJ.out 2 [] ⟨#[]⟩ rfl n0 (by decide) (W1.alloc (.cells #[.int .i64 2, .int .i64 3] 3)) (w.heap.size + 1) 2 2 [2, 3] (HB.out.trans (b2.mono HB.out.size)) (hz1 ▸ Rd.new W1 #[.int .i64 2, .int .i64 3] 3 (0, 0) _ rfl) rfl (by decide) wr2
      have HJ2 := Lib.hid hj
      have HB2 := Lib.hid (HB.out.trans (b2.mono HB.out.size))
      have n0' : ((nl : Int) == 0) = false := by simpa using n0
      clear hf hj b2 n0
      go_enter Tryd.func84, Tryd.ntmps84
      go_wp2_with fail
      rw [HW1.out]
      with_reducible refine HJ2.out.mono ?_
      rintro e w3 ⟨rfl, hb3⟩
      go_wp2
      go_ret
      exact HF2.out _ (HB2.out.trans (hb3.mono HB2.out.size))
  · have d2 : (k == 2) = false := by simpa using k2
    by_cases k3 : k = 3
    · subst k3
      have n2 : nl ≠ 0 := by have := HO.out; simp at this; omega
      have hf := HF.out (Lib.join (txts 3 ks) [124]) (by rw [HT.out, if_neg (by simp), if_neg (by simp), if_pos rfl])
      have HF2 := Lib.hid hf.2
      have b2 := (Below.refl W1.heap.size W1).alloc (Nat.le_refl _) (.cells #[.int .i64 3] 3)
      have hj := HJ.out 3 [124] ⟨#[124]⟩ rfl n2 (by decide) (W1.alloc (.cells #[.int .i64 3] 3)) (w.heap.size + 1) 1 1 [3] (HB.out.trans (b2.mono HB.out.size)) (hz1 ▸ Rd.new W1 #[.int .i64 3] 3 (0, 0) _ rfl) rfl (by decide) wr3
      have HJ2 := Lib.hid hj
      have HB2 := Lib.hid (HB.out.trans (b2.mono HB.out.size))
      clear hf hj b2 n2
      go_enter Tryd.func84, Tryd.ntmps84
      go_wp2_with fail
      rw [HW1.out]
      with_reducible refine HJ2.out.mono ?_
      rintro e w3 ⟨rfl, hb3⟩
      go_wp2
      go_ret
      exact HF2.out _ (HB2.out.trans (hb3.mono HB2.out.size))
    · have d3 : (k == 3) = false := by simpa using k3
      by_cases k4 : k = 4
      · subst k4
        obtain ⟨n1, m0, m1, m2⟩ : nl = 1 ∧ 0 ≤ mn ∧ mn ≤ 40 ∧ (mx = -1 ∨ (0 ≤ mx ∧ mx ≤ 40)) := by
          have h := HO.out
          simp only [show ¬ ((4 : Int) = 2) by decide, show ¬ ((4 : Int) = 3) by decide, if_false, if_true, Bool.and_eq_true, Bool.or_eq_true, decide_eq_true_eq] at h
          obtain ⟨h1, ⟨h2, h2'⟩, h3⟩ := h
          refine ⟨h1, of_decide_eq_true h2, of_decide_eq_true h2', ?_⟩
          rcases h3 with h3 | ⟨h3, h4⟩
          · exact .inl (of_decide_eq_true h3)
          · have h3 := of_decide_eq_true h3
            exact .inr ⟨by omega, of_decide_eq_true h4⟩
        have hf := HF.out (Lib.join (txts 4 ks) [] ++ often mn mx) (by rw [HT.out, if_neg (by simp), if_neg (by simp), if_neg (by simp), if_pos rfl])
        have HF2 := Lib.hid hf.2
        have hof := fun W => often_c 4 mn mx x0 x1 x2 x3 a nl c t W m0 m1 m2
        have hj : ∀ W, Below W1.heap.size W1 W → Rd W (some ⟨w.heap.size + 1, 0, none⟩) (i64s [2, 3, 4]) → _ := fun W hb hr => HJ.out 4 [] ⟨#[]⟩ rfl (by omega) (by decide) W (w.heap.size + 1) 3 3 [2, 3, 4] (HB.out.trans (hb.mono HB.out.size)) hr rfl (by decide) wr4
        obtain ⟨X, hX⟩ : ∃ X, Lib.join (txts 4 ks) [] = X := ⟨_, rfl⟩
        obtain ⟨Y, hY⟩ : ∃ Y, often mn mx = Y := ⟨_, rfl⟩
        obtain ⟨Z, hZ⟩ : ∃ Z, X ++ Y = Z := ⟨_, rfl⟩
        rw [hX] at hj
        rw [hY] at hof
        rw [hX, hY] at HF2 hf
        have a1 : ∀ w, (Op.stringOp .add (Str X) (Str Y)).run Tryd.prog w = .ok (.string (Str Z)) w := add_to hZ (by rw [← hZ]; have := hf.1; omega)
        rw [hZ] at HF2
        have HJ2 := Lib.hid hj
        have HOf := Lib.hid hof
        have hrn : Rd (W1.alloc (.cells #[.int .i64 2, .int .i64 3, .int .i64 4] 3)).drew (some ⟨w.heap.size + 1, 0, none⟩) (i64s [2, 3, 4]) := Rd.drew (hz1 ▸ Rd.new W1 #[.int .i64 2, .int .i64 3, .int .i64 4] 3 (0, 0) _ rfl)
        have HRn := Lib.hid hrn
        have hb3' : Below W1.heap.size W1 (W1.alloc (.cells #[.int .i64 2, .int .i64 3, .int .i64 4] 3)).drew := ((Below.refl _ _).alloc (Nat.le_refl _) _).drew
        clear hf hj hof hX hY hZ m0 m1 m2 n1 hrn
        go_enter Tryd.func84, Tryd.ntmps84
        go_wp2_with fail
        rw [HW1.out]
        have u0 : Below W1.heap.size W1 W1.drew := (Below.refl _ _).drew
        (first
          | (go_region_held3 (fun W => W.cell? ⟨w.heap.size, 0, none⟩ = some (.int .i64 4) ∧ W.cell? ⟨w.heap.size, 1, none⟩ = some (.int .u64 (x0 : Int)) ∧ W.cell? ⟨w.heap.size, 2, none⟩ = some (.int .u64 (x1 : Int)) ∧ W.cell? ⟨w.heap.size, 3, none⟩ = some (.int .u64 (x2 : Int)) ∧ W.cell? ⟨w.heap.size, 4, none⟩ = some (.int .u64 (x3 : Int)) ∧ W.cell? ⟨w.heap.size, 5, none⟩ = some (.slice a nl c) ∧ W.cell? ⟨w.heap.size, 6, none⟩ = some (.int .i64 mn) ∧ W.cell? ⟨w.heap.size, 7, none⟩ = some (.int .i64 mx) ∧ W.cell? ⟨w.heap.size, 8, none⟩ = some (.string (Str t)))
            (first | exact HC.out _ u2 | exact HC.out _ u1 | exact HC.out _ hb3' | exact HC.out _ u0)
            ((first
                | (go_at_call 114; (with_reducible refine (HJ2.out _ hb3' HRn.out).mono ?_); rintro e w3 ⟨rfl, hb3⟩
                   have u1 := hb3'.trans (hb3.mono hb3'.size))
                | (go_at_call 115; (with_reducible refine (HOf.out _).mono ?_); rintro e w4 ⟨rfl, hb4⟩
                   have u2 := u1.trans (hb4.mono u1.size)))))
          | fail)
        go_wp2
        go_ret
        exact HF2.out _ (HB.out.trans (u2.mono HB.out.size))
      · have d4 : (k == 4) = false := by simpa using k4
        have hf := HF.out (123 :: (t ++ [125])) (by rw [HT.out, if_neg (by simp [k2]), if_neg k2, if_neg k3, if_neg k4])
        have HF2 := Lib.hid hf.2
        have hl := hf.1
        obtain ⟨Y, hY⟩ : ∃ Y, 123 :: t = Y := ⟨_, rfl⟩
        obtain ⟨Z, hZ⟩ : ∃ Z, 123 :: (t ++ [125]) = Z := ⟨_, rfl⟩
        have a1 : ∀ w, (Op.stringOp .add ⟨#[123]⟩ (Str t)).run Tryd.prog w = .ok (.string (Str Y)) w := add_to (a := [123]) (by simpa using hY) (by rw [← hY]; simp at hl ⊢; omega)
        have a2 : ∀ w, (Op.stringOp .add (Str Y) ⟨#[125]⟩).run Tryd.prog w = .ok (.string (Str Z)) w := add_to (b := [125]) (by rw [← hY, ← hZ]; rfl) (by rw [← hZ]; omega)
        rw [hZ] at HF2
        clear hf hl hY hZ k2 k3 k4
        go_enter Tryd.func84, Tryd.ntmps84
        go_wp2_with fail
        rw [HW1.out]
        go_ret
        exact HF2.out _ HB.out
mutual
/-- tree.text of a right tree. -/
theorem text_all : ∀ (n : Nd), good n → wd n → sz n ≤ 600 → ∀ w, Bt.Tab w → Is w.heap.size w n → Calls Tryd.prog 84 #[nv n] w (TxP n w)
  | .mk k s mn mx t a c ks, hg, hw, hs, w, hT, hIs => by
    have hx := texts_all ks hg.2 hw.2 (by simp only [sz] at hs; omega) w hT hIs.2.2.2.2.2.2
    obtain ⟨x0, x1, x2, x3, hl⟩ := four' hIs.1
    subst hl
    by_cases hk : k = 1
    · subst hk
      refine (text_bytes x0 x1 x2 x3 a ks.length c mn mx t w hT hw.1).mono fun e w' h => ⟨?_, h.2⟩
      rw [h.1]
      simp only [txt, if_true]
    · exact text_else k x0 x1 x2 x3 a ks c mn mx t w hk hIs hg hs hx
theorem texts_all : ∀ (ks : List Nd), goods ks → wds ks → szs ks ≤ 600 → ∀ w, Bt.Tab w → IsAll w.heap.size w ks → ∀ n ∈ ks, ∀ W, Below w.heap.size w W → Calls Tryd.prog 84 #[nv n] W (TxP n W)
  | [], _, _, _, _, _, _, n, hn, _, _ => by cases hn
  | m :: r, hg, hw, hs, w, hT, hIs, n, hn, W, hb => by
    simp only [szs] at hs
    by_cases h : n = m
    · rw [h]
      exact text_all m hg.1 hw.1 (by omega) W (hT.below hb) (Is.mono hb.size (Is.below hb hIs.1))
    · exact texts_all r hg.2 hw.2 (by omega) w hT hIs.2 n (by rcases List.mem_cons.1 hn with h1 | h1; exact absurd h1 h; exact h1) W hb
end
set_option maxRecDepth 100000 in
set_option maxHeartbeats 4000000 in
/-- tree.Text. -/
theorem Text_c (n : Nd) (ht : ∀ x ∈ walk n, x.1.text.length ≤ 1000000) (hw : wd n) (w : World) (hT : Bt.Tab w) (hIs : Is w.heap.size w n) :
    Calls Tryd.prog 52 #[nv n] w fun e w' => e = .returned (.string (Str (if rgt n then txt n else []))) ∧ Below w.heap.size w w' := by
  have hr := fun W h => right_c n ht W h
  have hx := fun (h : rgt n = true) W hT h2 => text_all n (rgt_good h) hw (rgt_sz h) W hT h2
  obtain ⟨x0, x1, x2, x3, hs⟩ := four' hIs.len
  have hnk : ∃ (k mn mx : Int) (a : Option Addr) (nl c : Nat) (t : List UInt8), nv n = .agg #[.int .i64 k, .int .u64 (x0 : Int), .int .u64 (x1 : Int), .int .u64 (x2 : Int), .int .u64 (x3 : Int), .slice a nl c, .int .i64 mn, .int .i64 mx, .string (Str t)] := by
    obtain ⟨k, s, mn, mx, t, a, c, ks⟩ := n
    simp only [Nd.set] at hs
    subst hs
    exact ⟨k, mn, mx, a, ks.length, c, t, rfl⟩
  obtain ⟨k, mn, mx, a, nl, c, t, hnv⟩ := hnk
  have hB := (Below.refl w.heap.size w).alloc (Nat.le_refl _) (.cells #[.int .i64 k, .int .u64 (x0 : Int), .int .u64 (x1 : Int), .int .u64 (x2 : Int), .int .u64 (x3 : Int), .slice a nl c, .int .i64 mn, .int .i64 mx, .string (Str t)] 37)
  have hs1 := heap_alloc_new w (.cells #[.int .i64 k, .int .u64 (x0 : Int), .int .u64 (x1 : Int), .int .u64 (x2 : Int), .int .u64 (x3 : Int), .slice a nl c, .int .i64 mn, .int .i64 mx, .string (Str t)] 37)
  have hI := fun (W : World) (hb : Below w.heap.size w W) => Is.mono hb.size (Is.below hb hIs)
  obtain ⟨W1, hW1⟩ : ∃ W1, w.alloc (.cells #[.int .i64 k, .int .u64 (x0 : Int), .int .u64 (x1 : Int), .int .u64 (x2 : Int), .int .u64 (x3 : Int), .slice a nl c, .int .i64 mn, .int .i64 mx, .string (Str t)] 37) = W1 := ⟨_, rfl⟩
  rw [hW1] at hs1 hB
  have hcl := fun (W : World) (hb : Below W1.heap.size W1 W) => nd_cells ((hb.block _ (block_lt hs1)).trans hs1)
  obtain ⟨z0, z1, z2, z3, z4, z5, z6, z7, z8⟩ := nd_cells hs1
  have hx1 := fun (h : rgt n = true) W (hb : Below w.heap.size w W) => hx h W (hT.below hb) (hI W hb)
  have hr1 := hr W1 (hI W1 hB)
  simp only [hnv] at hr1 hx1 ⊢
  have hx2 : ∀ (h : rgt n = true) W (hb : Below w.heap.size w W), Calls Tryd.prog 84 #[.agg #[.int .i64 k, .int .u64 (x0 : Int), .int .u64 (x1 : Int), .int .u64 (x2 : Int), .int .u64 (x3 : Int), .slice a nl c, .int .i64 mn, .int .i64 mx, .string (Str t)]] W fun e w' => e = .returned (.string (Str (txt n))) ∧ Below W.heap.size W w' := hx1
  generalize txt n = X at *
  generalize rgt n = bb at *
  have HR := Lib.hid hr1
  have HX := Lib.hid hx2
  have HC := Lib.hid hcl
  have HB := Lib.hid hB
  have HW1 := Lib.hid hW1
  clear hr hr1 hx hx1 hx2 hcl hB hW1 hs1 hI hnv hT hIs ht hw hs
  cases bb with
  | true =>
    simp only [reduceIte]
    go_enter Tryd.func52, Tryd.ntmps52
    go_wp2_with fail
    rw [HW1.out]
    with_reducible refine HR.out.mono ?_
    rintro e w2 ⟨rfl, hb2⟩
    obtain ⟨v0, v1, v2, v3, v4, v5, v6, v7, v8⟩ := HC.out _ hb2
    go_wp2_with fail
    with_reducible refine (HX.out (by first | rfl | trivial) _ (HB.out.trans (hb2.mono HB.out.size))).mono ?_
    rintro e w3 ⟨rfl, hb3⟩
    go_wp2
    go_ret
    exact ⟨rfl, (HB.out.trans (hb2.mono HB.out.size)).trans (hb3.mono (by have := hb2.size; have := HB.out.size; omega))⟩
  | false =>
    simp only [reduceIte, Bool.false_eq_true]
    go_enter Tryd.func52, Tryd.ntmps52
    go_wp2_with fail
    rw [HW1.out]
    with_reducible refine HR.out.mono ?_
    rintro e w2 ⟨rfl, hb2⟩
    go_wp2
    go_ret
    exact ⟨rfl, HB.out.trans (hb2.mono HB.out.size)⟩
end Tr
end Go.Proofs.YteekonojmpihlaaDoor

/- dofferlaw07: the chapter's example; TreeNames. Condition: the table of TrailingZeros64 reads as laid. -/
namespace Go.Proofs.YteekonojmpihlaaDoor
open Go Go.RowKit Kt St Sp Bk
namespace Tr
theorem zero_set : IsSet [0, 0, 0, 0] (Mk.has [0, 0, 0, 0]) := isSet_self rfl (by simp)
theorem rgt_ex (x0 x1 x2 x3 : Nat) (b : Nat) : rgt (.mk 4 [0, 0, 0, 0] 0 (-1) [] (some ⟨b, 0, none⟩) 1 [.mk 1 [x0, x1, x2, x3] 0 0 [] none 0 []]) = true := by
  simp [rgt, walk, full, fulls, one, bare, Nd.kind, Nd.set, Nd.mn, Nd.mx, Nd.text, Nd.kids]
theorem all_one {ws : List Nat} {c : Nat} (hc : c < 256) (h : IsSet ws (fun q => decide (q = c))) : Mk.all ws = [c] := by
  have h1 : Mk.all ws = (List.range 256).filter fun q => decide (q = c) := by
    unfold Mk.all
    rw [h.len]
    exact List.filter_congr fun q hq => h.at' q (by simpa using hq)
  rw [h1]
  have : ∀ c : Fin 256, (List.range 256).filter (fun q => decide (q = c.val)) = [c.val] := by decide +kernel
  exact this ⟨c, hc⟩
theorem is_leaf (B : Nat) (W : World) (k : Int) (x0 x1 x2 x3 : Nat) (mn mx : Int) (t : List UInt8) : Is B W (.mk k [x0, x1, x2, x3] mn mx t none 0 []) :=
  ⟨rfl, Nat.le_refl _, by decide, fun _ => rfl, Rd.nil _ _, (fun p hp => by cases hp), trivial⟩
theorem txt_ex {x0 x1 x2 x3 : Nat} (h : IsSet [x0, x1, x2, x3] (fun q => decide (q = 97))) (b : Nat) : txt (.mk 4 [0, 0, 0, 0] 0 (-1) [] (some ⟨b, 0, none⟩) 1 [.mk 1 [x0, x1, x2, x3] 0 0 [] none 0 []]) = [97, 42] := by
  have ha := all_one (by decide) h
  have hs : tset [x0, x1, x2, x3] = [97] := by
    unfold tset
    rw [if_pos (by rw [ha]; rfl), ha]
    decide
  simp [txt, txts, wraps, Nd.kind, hs, Lib.join_one, often]
set_option maxHeartbeats 2000000 in
set_option maxRecDepth 100000 in
theorem alive_c (w : World) (hT : Bt.Tab w) : Calls Tryd.prog 49 #[] w fun e w' => e = .returned (.bool true) ∧ Below w.heap.size w w' := by
  have HO := Lib.hid (fun w => (show Calls Tryd.prog 53 #[.int .u8 97] w _ from St.one_c 97 (by omega) w))
  have HT := Lib.hid hT
  clear hT
  go_enter Tryd.func49, Tryd.ntmps49
  go_wp2_with fail
  refine (HO.out _).mono ?_
  rintro e w1 ⟨rs, rfl, hset, hb1⟩
  obtain ⟨x0, x1, x2, x3, rfl⟩ := four hset.len
  simp only [sv, vals, List.map_cons, List.map_nil]
  have b2 := hb1.alloc hb1.size (.cells #[.int .i64 1, .int .u64 (x0 : Int), .int .u64 (x1 : Int), .int .u64 (x2 : Int), .int .u64 (x3 : Int), .slice none 0 0, .int .i64 0, .int .i64 0, .string ⟨#[]⟩] 37)
  have hrd : Rd (w1.alloc (.cells #[.int .i64 1, .int .u64 (x0 : Int), .int .u64 (x1 : Int), .int .u64 (x2 : Int), .int .u64 (x3 : Int), .slice none 0 0, .int .i64 0, .int .i64 0, .string ⟨#[]⟩] 37)) (some ⟨w1.heap.size, 0, none⟩) ([Nd.mk 1 [x0, x1, x2, x3] 0 0 [] none 0 []].flatMap cells) := Rd.new _ _ _ _ _ rfl
  obtain ⟨W2, hW2⟩ : ∃ W2, w1.alloc (.cells #[.int .i64 1, .int .u64 (x0 : Int), .int .u64 (x1 : Int), .int .u64 (x2 : Int), .int .u64 (x3 : Int), .slice none 0 0, .int .i64 0, .int .i64 0, .string ⟨#[]⟩] 37) = W2 := ⟨_, rfl⟩
  have hz2 : W2.heap.size = w1.heap.size + 1 := by rw [← hW2]; simp
  rw [hW2] at b2 hrd
  have hIs : Is W2.heap.size W2 (.mk 4 [0, 0, 0, 0] 0 (-1) [] (some ⟨w1.heap.size, 0, none⟩) 1 [.mk 1 [x0, x1, x2, x3] 0 0 [] none 0 []]) := by
    refine ⟨rfl, Nat.le_refl _, by decide, (fun h => by cases h), hrd, (fun p hp _ => by cases hp; show w1.heap.size < _; omega), is_leaf _ _ _ _ _ _ _ _ _ _, trivial⟩
  have hx := Text_c _ (by simp [walk, full, fulls, Nd.text]) (show wd (.mk 4 [0, 0, 0, 0] 0 (-1) [] (some ⟨w1.heap.size, 0, none⟩) 1 [.mk 1 [x0, x1, x2, x3] 0 0 [] none 0 []]) from ⟨zero_set, ⟨isSet_self rfl hset.lt, trivial⟩, trivial⟩) W2 (HT.out.below b2) hIs
  rw [rgt_ex, if_pos rfl, txt_ex hset] at hx
  have hx2 : Calls Tryd.prog 52 #[.agg #[.int .i64 4, .int .u64 0, .int .u64 0, .int .u64 0, .int .u64 0, .slice (some ⟨w1.heap.size, 0, none⟩) 1 1, .int .i64 0, .int .i64 (-1), .string ⟨#[]⟩]] W2 fun e w' => e = .returned (.string ⟨#[97, 42]⟩) ∧ Below W2.heap.size W2 w' := hx
  have HX := Lib.hid hx2
  have HB := Lib.hid b2
  have HW2 := Lib.hid hW2
  clear hx hx2 b2 hrd hIs hb1 hset hW2
  go_wp2_with fail
  rw [HW2.out]
  with_reducible refine HX.out.mono ?_
  rintro e w3 ⟨rfl, hb3⟩
  go_wp2
  go_ret
  exact ⟨by first | rfl | (simp; done), HB.out.trans (hb3.mono HB.out.size)⟩
end Tr
end Go.Proofs.YteekonojmpihlaaDoor
