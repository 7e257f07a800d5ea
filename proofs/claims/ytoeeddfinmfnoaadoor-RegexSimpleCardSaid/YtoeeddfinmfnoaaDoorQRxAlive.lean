import Derived.Test.YtoeeddfinmfnoaaDoorQRxRec
import Derived.Test.YtoeeddfinmfnoaaDoorQTreeDep
import Derived.Test.YtoeeddfinmfnoaaDoorQTreePure
/- package regex: Parse, for every text. Condition: the sentinels read as laid. -/
namespace Go.Proofs.YtoeeddfinmfnoaaDoor
namespace Kt
end Kt
namespace Sp
end Sp
namespace St
end St
namespace Bk
end Bk
namespace Bo
end Bo
namespace Tr
end Tr
open Go Go.RowKit Kt Sp St Bk Bo Tr
namespace Rx
/-- What Parse answers. -/
def PaP (w : World) (A : Nat → Addr) (r : Nd × Nat × Nat) (e : Ending) (w' : World) : Prop := ∃ m, e = .returned (.tuple #[nv m, .int .i64 (r.2.1 : Int), ee A (r.2.2 : Int)]) ∧ er m = r.1 ∧ Tr.Is w'.heap.size w' m ∧ Bl (w.heap.size ≤ ·) m ∧ Below w.heap.size w w'
theorem deep_er (m : Nd) : deep (walk (er m)) = deep (walk m) := by rw [er_walk, deep_map]
theorem len_er (m : Nd) : (walk (er m)).length = (walk m).length := by rw [er_walk, List.length_map]
theorem pa_fin {w V : World} {p R : Nat} {s : ByteArray} {A : Nat → Addr} {st : S} (h : Rr w V p s A st) (hR : w.heap.size ≤ R) (hV : V.heap[R]? = some Z9) {k mn mx : Int} {x0 x1 x2 x3 nl c : Nat} {a : Option Addr} {t : List UInt8} {ks : List Nd} (hn : ks.length = nl) (hI : Tr.Is V.heap.size V (.mk k [x0, x1, x2, x3] mn mx t a c ks)) (hb : Bl (fun q => w.heap.size ≤ q ∧ q ≠ R) (.mk k [x0, x1, x2, x3] mn mx t a c ks)) (q e : Nat) :
    (put9 V R (.int .i64 k) (.int .u64 (x0 : Int)) (.int .u64 (x1 : Int)) (.int .u64 (x2 : Int)) (.int .u64 (x3 : Int)) (.slice a nl c) (.int .i64 mn) (.int .i64 mx) (.string (Str t))).heap[R]? = some (.cells #[.int .i64 k, .int .u64 (x0 : Int), .int .u64 (x1 : Int), .int .u64 (x2 : Int), .int .u64 (x3 : Int), .slice a nl c, .int .i64 mn, .int .i64 mx, .string (Str t)] 27 (0, 0)) ∧
    PaP w A (er (.mk k [x0, x1, x2, x3] mn mx t a c ks), q, e) (.returned (.tuple #[.agg #[.int .i64 k, .int .u64 (x0 : Int), .int .u64 (x1 : Int), .int .u64 (x2 : Int), .int .u64 (x3 : Int), .slice a nl c, .int .i64 mn, .int .i64 mx, .string (Str t)], .int .i64 (q : Int), ee A (e : Int)])) (put9 V R (.int .i64 k) (.int .u64 (x0 : Int)) (.int .u64 (x1 : Int)) (.int .u64 (x2 : Int)) (.int .u64 (x3 : Int)) (.slice a nl c) (.int .i64 mn) (.int .i64 mx) (.string (Str t))) := by
  subst hn
  have hm2 := put9_mod V R (.int .i64 k) (.int .u64 (x0 : Int)) (.int .u64 (x1 : Int)) (.int .u64 (x2 : Int)) (.int .u64 (x3 : Int)) (.slice a ks.length c) (.int .i64 mn) (.int .i64 mx) (.string (Str t))
  exact ⟨put9_block hV _ _ _ _ _ _ _ _ _, _, rfl, rfl, Is.mono hm2.size (Is.modB hm2 hI (hb.mono fun q hq => by simpa using hq.2)), hb.mono fun q hq => hq.1, h.B.trans (hm2.toBelow h.B.size (fun x hx => by simp at hx; omega))⟩
set_option maxRecDepth 100000 in
set_option maxHeartbeats 8000000 in
theorem parse_c (s : ByteArray) (hsz : s.size ≤ 900000) (A : Nat → Addr) (w : World) (hs : Sent 204 w A rgs) : Calls Tryd.prog 19 #[.string s] w (PaP w A (parse s.data.toList)) := by
  obtain ⟨W1, hW1⟩ : ∃ W1, w.alloc Z9 = W1 := ⟨_, rfl⟩
  have b1 : Below w.heap.size w W1 := by rw [← hW1]; exact (Below.refl _ _).alloc (Nat.le_refl _) _
  have z1 : W1.heap.size = w.heap.size + 1 := by rw [← hW1]; simp
  have s1 : W1.heap[w.heap.size]? = some Z9 := by rw [← hW1]; exact World.alloc_heap_new _ _
  obtain ⟨W2, hW2⟩ : ∃ W2, W1.alloc (.cells #[.string s, .int .i64 0, .nilIface] 67) = W2 := ⟨_, rfl⟩
  have b2 : Below W1.heap.size W1 W2 := by rw [← hW2]; exact (Below.refl _ _).alloc (Nat.le_refl _) _
  have z2 : W2.heap.size = w.heap.size + 2 := by rw [← hW2, World.size_alloc, z1]
  have s2 : W2.heap[W1.heap.size]? = some (.cells #[.string s, .int .i64 0, .nilIface] 67 (0, 0)) := by rw [← hW2]; exact World.alloc_heap_new _ _
  have hB2 := b1.trans (b2.mono b1.size)
  obtain ⟨p, hp⟩ : ∃ p, W1.heap.size = p := ⟨_, rfl⟩
  rw [hp] at s2
  have r2 : Rr w W2 p s A ⟨0, 0⟩ := ⟨s2, hB2, by omega, hs⟩
  have sR : W2.heap[w.heap.size]? = some Z9 := (b2.block _ (by omega)).trans s1
  have hcall := expr_c hsz (s.data.toList.length + 1) ⟨0, 0⟩ W2 r2 (Nat.zero_le _) (by rw [size_list]; simp only; omega)
  obtain ⟨n1, st2, hx⟩ : ∃ n1 st2, expr s.data.toList (s.data.toList.length + 1) ⟨0, 0⟩ = (n1, st2) := ⟨_, _, rfl⟩
  have hpar : parse s.data.toList = if (fin s.data.toList n1 st2).err ≠ 0 then (zero, (fin s.data.toList n1 st2).pos, (fin s.data.toList n1 st2).err) else (n1, s.size, 0) := by
    unfold parse
    simp only
    rw [hx, size_list]
  rw [hx] at hcall
  have hsl := size_list s
  have hmo : ∀ V st', Rr w V p s A st' → Calls Tryd.prog 48 #[.pointer (some ⟨p, 0, none⟩)] V fun r w' => r = .returned (.bool (more s.data.toList st')) ∧ ∃ n, w' = V.drewN n := fun V st' h' => more_c h'
  have hf : ∀ V st' (q e : Nat), e ≠ 0 → Rr w V p s A st' → Calls Tryd.prog 49 #[.pointer (some ⟨p, 0, none⟩), .int .i64 (q : Int), ee A (e : Int)] V fun r w' => r = .returned (.tuple #[]) ∧ Rr w w' p s A (fail st' q e) ∧ Mod [p] V w' := fun V st' q e he h' => fail_c q e he h'
  have hgF : ∀ V st', Rr w V p s A st' → V.cell? ⟨0, 0, none⟩ = some (ee A ((4 : Nat) : Int)) ∧ V.cell? ⟨1, 0, none⟩ = some (ee A ((7 : Nat) : Int)) ∧ V.cell? ⟨2, 0, none⟩ = some (ee A ((9 : Nat) : Int)) := fun V st' h' => ⟨h'.sent _ (by simp [rgs]), h'.sent _ (by simp [rgs]), h'.sent _ (by simp [rgs])⟩
  obtain ⟨EF, hEF⟩ : ∃ E, ee A ((4 : Nat) : Int) = E := ⟨_, rfl⟩
  obtain ⟨ED, hED⟩ : ∃ E, ee A ((7 : Nat) : Int) = E := ⟨_, rfl⟩
  obtain ⟨EL, hEL⟩ : ∃ E, ee A ((9 : Nat) : Int) = E := ⟨_, rfl⟩
  have hf4 := fun V st' q h' => hf V st' q 4 (by decide) h'
  have hf7 := fun V st' q h' => hf V st' q 7 (by decide) h'
  have hf9 := fun V st' q h' => hf V st' q 9 (by decide) h'
  rw [hEF] at hf4
  rw [hED] at hf7
  rw [hEL] at hf9
  rw [hEF, hED, hEL] at hgF
  obtain ⟨t, ht⟩ : ∃ t, s.data.toList = t := ⟨_, rfl⟩
  rw [ht] at hpar hmo hsl ⊢
  obtain ⟨R, hR⟩ : ∃ R, w.heap.size = R := ⟨_, rfl⟩
  rw [hR] at sR
  have hRp : R ≠ p := by omega
  have HB2 := Lib.hid hB2
  have HsR := Lib.hid sR
  have HC := Lib.hid hcall
  have HPar := Lib.hid hpar
  have HMo := Lib.hid hmo
  have HF4 := Lib.hid hf4
  have HF7 := Lib.hid hf7
  have HF9 := Lib.hid hf9
  have HG := Lib.hid hgF
  have HZ := Lib.hid (And.intro z1 (And.intro z2 (And.intro hp hR)))
  have HSl := Lib.hid hsl
  have HWW : Hid ((w.alloc (.cells #[.int .i64 0, .int .u64 0, .int .u64 0, .int .u64 0, .int .u64 0, .slice none 0 0, .int .i64 0, .int .i64 0, .string ⟨#[]⟩] 27)) = W1 ∧ W1.alloc (.cells #[.string s, .int .i64 0, .nilIface] 67) = W2) := Lib.hid ⟨hW1, hW2⟩
  clear hW1 b1 z1 s1 hW2 b2 z2 s2 hB2 r2 sR hcall hpar hmo hf hf4 hf7 hf9 hEF hED hEL hgF hsl ht hx hs hp
  go_enter Tryd.func19, Tryd.ntmps19
  go_upto_region 1 with (fail)
  rw [HWW.out.1]
  try rw [HZ.out.2.2.2]
  clear hR
  go_upto_region 2 with (fail)
  rw [HWW.out.2]
  try rw [HZ.out.2.2.1]
  go_wp2_with fail
  refine HC.out.mono ?_
  rintro _ w3 ⟨m, rfl, hme, hI, hb, hr, hm⟩
  obtain ⟨x0, x1, x2, x3, hs4⟩ := four hI.len
  have hdd := deep_er m
  have hcc := len_er m
  rw [hme] at hdd hcc
  obtain ⟨k', sx, mn, mx, tx, aa, cc, ks⟩ := m
  simp only [Nd.set] at hs4
  subst hs4
  obtain ⟨nl, hnl⟩ : ∃ nl, ks.length = nl := ⟨_, rfl⟩
  have hnv : nv (.mk k' [x0, x1, x2, x3] mn mx tx aa cc ks) = .agg #[.int .i64 k', .int .u64 (x0 : Int), .int .u64 (x1 : Int), .int .u64 (x2 : Int), .int .u64 (x3 : Int), .slice aa nl cc, .int .i64 mn, .int .i64 mx, .string (Str tx)] := by rw [← hnl]; rfl
  obtain ⟨W4, hW4⟩ : ∃ x, w3.alloc (.cells #[.int .i64 k', .int .u64 (x0 : Int), .int .u64 (x1 : Int), .int .u64 (x2 : Int), .int .u64 (x3 : Int), .slice aa nl cc, .int .i64 mn, .int .i64 mx, .string (Str tx)] 27) = x := ⟨_, rfl⟩
  have b4 : Below w3.heap.size w3 W4 := by rw [← hW4]; exact (Below.refl _ _).alloc (Nat.le_refl _) _
  have s4 : W4.heap[w3.heap.size]? = some (.cells #[.int .i64 k', .int .u64 (x0 : Int), .int .u64 (x1 : Int), .int .u64 (x2 : Int), .int .u64 (x3 : Int), .slice aa nl cc, .int .i64 mn, .int .i64 mx, .string (Str tx)] 27 (0, 0)) := by rw [← hW4]; exact World.alloc_heap_new _ _
  obtain ⟨X, hX⟩ : ∃ X, w3.heap.size = X := ⟨_, rfl⟩
  rw [hX] at s4
  have hpX : X ≠ p := by have := hr.blk; omega
  have HBx : Hid (∀ V, Mod [p] W4 V → V.heap[X]? = some (.cells #[.int .i64 k', .int .u64 (x0 : Int), .int .u64 (x1 : Int), .int .u64 (x2 : Int), .int .u64 (x3 : Int), .slice aa nl cc, .int .i64 mn, .int .i64 mx, .string (Str tx)] 27 (0, 0))) := Lib.hid (fun V hV => (hV.block X (block_lt s4) (by simpa using hpX)).trans s4)
  have hzz := HZ.out
  have hIs : ∀ V, Mod [p] W4 V → Tr.Is V.heap.size V (.mk k' [x0, x1, x2, x3] mn mx tx aa cc ks) := fun V hV => Is.mono (Nat.le_trans b4.size hV.size) (Is.modB hV (Is.below b4 hI) (hb.mono fun q (hq : _ ≤ q) => by simp; omega))
  have HZ9 : Hid (∀ V, Mod [p] W4 V → V.heap[R]? = some Z9) := Lib.hid (fun V hV => by
    have h3 : w3.heap[R]? = some Z9 := (hm.block R (block_lt HsR.out) (by simpa using hRp)).trans HsR.out
    have h4 : W4.heap[R]? = some Z9 := (b4.block R (block_lt h3)).trans h3
    exact (hV.block R (block_lt h4) (by simpa using hRp)).trans h4)
  have HDp : Hid (∀ V, Mod [p] W4 V → Calls Tryd.prog 50 #[.agg #[.int .i64 k', .int .u64 (x0 : Int), .int .u64 (x1 : Int), .int .u64 (x2 : Int), .int .u64 (x3 : Int), .slice aa nl cc, .int .i64 mn, .int .i64 mx, .string (Str tx)]] V fun e w' => e = .returned (.int .i64 ((deep (walk n1) : Nat) : Int)) ∧ Below V.heap.size V w') := Lib.hid (fun V hV => by
    have h9 := depth_c _ V (hIs V hV)
    rw [hnv, ← hdd] at h9
    exact h9)
  have HCn : Hid (∀ V, Mod [p] W4 V → Calls Tryd.prog 51 #[.agg #[.int .i64 k', .int .u64 (x0 : Int), .int .u64 (x1 : Int), .int .u64 (x2 : Int), .int .u64 (x3 : Int), .slice aa nl cc, .int .i64 mn, .int .i64 mx, .string (Str tx)]] V fun e w' => e = .returned (.int .i64 (((walk n1).length : Nat) : Int)) ∧ Below V.heap.size V w') := Lib.hid (fun V hV => by
    have h9 := count_c _ V (hIs V hV)
    rw [hnv, ← hcc] at h9
    exact h9)
  rw [hnv]
  have HI := Lib.hid hIs
  have HBl := Lib.hid hb
  have HMe := Lib.hid hme
  have H4 := Lib.hid (And.intro (hr.below b4) (hm.trans (Mod.of_below b4 [p]) (fun x hx => .inl hx)))
  have HW4 := Lib.hid (And.intro hW4 hX)
  have HNl := Lib.hid hnl
  clear hnv b4 s4 hI hb hr hm hme hW4 hIs hdd hcc hzz hnl
  go_upto_block 0 with (fail)
  try rw [HW4.out.1]
  try rw [HW4.out.2]
  clear hX
  obtain ⟨DD, hDD⟩ : ∃ D, deep (walk n1) = D := ⟨_, rfl⟩
  obtain ⟨CC, hCC⟩ : ∃ D, (walk n1).length = D := ⟨_, rfl⟩
  rw [hDD] at HDp
  rw [hCC] at HCn
  have HDC := Lib.hid (And.intro hDD hCC)
  clear hDD hCC
  go_cut [] (fun V => Rr w V p s A (fin t n1 st2) ∧ Mod [p] W4 V)
  case first =>
    have hmo := HMo.out _ _ H4.out.1
    obtain ⟨M, hM⟩ : ∃ M, more t st2 = M := ⟨_, rfl⟩
    rw [hM] at hmo
    have HM := Lib.hid hmo
    cases M with
    | true =>
      as_aux_lemma =>
        have HFin : Hid (fin t n1 st2 = fail st2 st2.pos 4) := Lib.hid (by unfold fin; rw [if_pos hM])
        clear hM hmo
        go_wp2_with fail
        refine HM.out.mono ?_
        rintro _ w5 ⟨rfl, q, hw5⟩
        have H5 : Hid (Rr w w5 p s A st2 ∧ Mod [p] W4 w5) := Lib.hid (by rw [hw5]; exact ⟨H4.out.1.drewN q, (Mod.refl _ _).drewN q⟩)
        clear hw5
        have SK : Hid (∀ V, Rr w V p s A st2 → V.cell? ⟨p, 1, none⟩ = some (.int .i64 (st2.pos : Int)) ∧ V.cell? ⟨0, 0, none⟩ = some EF) := Lib.hid (fun V h' => ⟨h'.cells.2.1, (HG.out V _ h').1⟩)
        have SK2 : Hid (∀ V, Rr w V p s A (fail st2 st2.pos 4) → V.cell? ⟨p, 1, none⟩ = some (.int .i64 (st2.pos : Int)) ∧ V.cell? ⟨0, 0, none⟩ = some EF) := Lib.hid (fun V h' => ⟨by rw [h'.cells.2.1, fail_pos], (HG.out V _ h').1⟩)
        go_wp2_with fail
        refine wp_region_noPanic ?_
        refine wp_region_held_drew (S := fun V => V.cell? ⟨p, 1, none⟩ = some (.int .i64 (st2.pos : Int)) ∧ V.cell? ⟨0, 0, none⟩ = some EF) (by kernel_rfl) (SK.out _ H5.out.1.drew) (fun hHeld => ?_)
        (refine wpAnyH_take (i := 0) (v := ?v0n1) (by simp only [List.getElem?_toArray, List.getElem?_cons_succ, List.getElem?_cons_zero]; rfl) (by kernel_rfl) (by kernel_rfl) (by kernel_rfl) (fun _ _ _ h => False.elim h) (Or.inl ⟨by rfl, ?hy0n1⟩) (by assumption) ?rest0n1; (case hy0n1 => (intro w hSw; (try dsimp only at hSw); go_simp; (try with_reducible rfl))); (try simp only [Act.put, List.setIfInBounds_toArray, List.set_cons_zero, List.set_cons_succ]))
        (refine wpAnyH_take (i := 1) (v := ?v1n2) (by simp only [List.getElem?_toArray, List.getElem?_cons_succ, List.getElem?_cons_zero]; rfl) (by kernel_rfl) (by kernel_rfl) (by kernel_rfl) (fun _ _ _ h => False.elim h) (Or.inl ⟨by rfl, ?hy1n2⟩) (by assumption) ?rest1n2; (case hy1n2 => (intro w hSw; (try dsimp only at hSw); go_simp; (try with_reducible rfl))); (try simp only [Act.put, List.setIfInBounds_toArray, List.set_cons_zero, List.set_cons_succ]))
        (refine wpAnyH_take (i := 2) (v := ?v2n3) (by simp only [List.getElem?_toArray, List.getElem?_cons_succ, List.getElem?_cons_zero]; rfl) (by kernel_rfl) (by kernel_rfl) (by kernel_rfl) (fun _ _ _ h => False.elim h) (Or.inl ⟨by rfl, ?hy2n3⟩) (by assumption) ?rest2n3; (case hy2n3 => (intro w hSw; (try dsimp only at hSw); go_simp; (try with_reducible rfl))); (try simp only [Act.put, List.setIfInBounds_toArray, List.set_cons_zero, List.set_cons_succ]))
        (refine wpAnyH_take (i := 3) (v := ?v3n4) (by simp only [List.getElem?_toArray, List.getElem?_cons_succ, List.getElem?_cons_zero]; rfl) (by kernel_rfl) (by kernel_rfl) (by kernel_rfl) (fun _ _ _ h => False.elim h) (Or.inl ⟨by rfl, ?hy3n4⟩) (by assumption) ?rest3n4; (case hy3n4 => (intro w hSw; (try dsimp only at hSw); go_simp; (try with_reducible rfl))); (try simp only [Act.put, List.setIfInBounds_toArray, List.set_cons_zero, List.set_cons_succ]))
        (refine wpAnyH_take (i := 4) (v := ?v4n5) (by simp only [List.getElem?_toArray, List.getElem?_cons_succ, List.getElem?_cons_zero]; rfl) (by kernel_rfl) (by kernel_rfl) (by kernel_rfl) (fun _ _ _ h => False.elim h) (Or.inl ⟨by rfl, ?hy4n5⟩) (by assumption) ?rest4n5; (case hy4n5 => (intro w hSw; (try dsimp only at hSw); go_simp; (try with_reducible rfl))); (try simp only [Act.put, List.setIfInBounds_toArray, List.set_cons_zero, List.set_cons_succ]))
        (refine wpAnyH_take (i := 5) (v := ?v5n6) (by simp only [List.getElem?_toArray, List.getElem?_cons_succ, List.getElem?_cons_zero]; rfl) (by kernel_rfl) (by kernel_rfl) (by kernel_rfl) (fun _ _ _ h => False.elim h) (Or.inl ⟨by rfl, ?hy5n6⟩) (by assumption) ?rest5n6; (case hy5n6 => (intro w hSw; (try dsimp only at hSw); go_simp; (try with_reducible rfl))); (try simp only [Act.put, List.setIfInBounds_toArray, List.set_cons_zero, List.set_cons_succ]))
        (refine wpAnyH_ready (rs := [6]) (by kernel_rfl) (by simp) ?_; refine AllReadyH.cons (o := _) (by simp only [List.getElem?_toArray, List.getElem?_cons_succ, List.getElem?_cons_zero]; rfl) (fun K hK => ?_) AllReadyH.nil; go_simp; ((with_reducible refine (HF4.out _ _ st2.pos H5.out.1.drew).mono ?_); rintro _ w7 ⟨rfl, hr7, hm7⟩); refine hK.out _ _ (by exact SK2.out _ hr7) (fun hHeld => ?_); clear hK K; (try simp only [Act.put, List.setIfInBounds_toArray, List.set_cons_zero, List.set_cons_succ]))
        refine wpAnyH_done (by kernel_rfl) ?_ _
        refine NoPanic.normal ?_
        have H7 := Lib.hid (And.intro hr7 (H5.out.2.drew.trans hm7 (fun x hx => .inl hx)))
        clear hr7 hm7 hHeld
        go_wp2
        go_meet
        rw [HFin.out]
        exact H7.out
    | false =>
      as_aux_lemma =>
        go_wp2_with fail
        refine HM.out.mono ?_
        rintro _ w5 ⟨rfl, q, hw5⟩
        have H5 : Hid (Rr w w5 p s A st2 ∧ Mod [p] W4 w5) := Lib.hid (by rw [hw5]; exact ⟨H4.out.1.drewN q, (Mod.refl _ _).drewN q⟩)
        clear hw5 hmo
        obtain ⟨k0, k1, k2, f1, f2⟩ := H5.out.1.cells
        by_cases he : st2.err = 0
        · have hev : ee A (st2.err : Int) = .nilIface := by rw [he]; rfl
          rw [hev] at k2
          have HD5 := Lib.hid (HDp.out _ H5.out.2)
          have hfd : 24 < DD → fin t n1 st2 = fail st2 0 7 := fun h => by
            unfold fin fail
            rw [hM, if_neg (by simp), if_neg (by simpa using he), HDC.out.1, if_pos h, if_pos he]
          have hfc : ¬ 24 < DD → 600 < CC → fin t n1 st2 = fail st2 0 9 := fun h h2 => by
            unfold fin fail
            rw [hM, if_neg (by simp), if_neg (by simpa using he), HDC.out.1, if_neg h, HDC.out.2, if_pos h2, if_pos he]
          have hfo : ¬ 24 < DD → ¬ 600 < CC → fin t n1 st2 = st2 := fun h h2 => by
            unfold fin
            rw [hM, if_neg (by simp), if_neg (by simpa using he), HDC.out.1, if_neg h, HDC.out.2, if_neg h2]
          have HFd := Lib.hid hfd
          have HFc := Lib.hid hfc
          have HFo := Lib.hid hfo
          obtain ⟨e0, e1, e2, e3, e4, e5, e6, e7, e8⟩ := nd_cells (HBx.out _ H5.out.2)
          clear hM hev hfd hfc hfo he
          go_wp2_with fail
          refine HD5.out.mono ?_
          rintro _ w6 ⟨rfl, hb6⟩
          have H6 := Lib.hid (And.intro (H5.out.1.below hb6) (H5.out.2.below hb6))
          clear hb6 e0 e1 e2 e3 e4 e5 e6 e7 e8 k0 k1 k2 f1 f2
          by_cases hd : 24 < DD
          · have hdi : (24 : Int) < (DD : Int) := by omega
            have g7 := (HG.out _ _ H6.out.1).2.1
            have H67 := HF7.out _ _ 0 H6.out.1
            rw [show ((0 : Nat) : Int) = 0 from rfl] at H67
            have H67 := Lib.hid H67
            go_wp2_with fail
            refine H67.out.mono ?_
            rintro _ w7 ⟨rfl, hr7, hm7⟩
            have H7 := Lib.hid (And.intro hr7 (H6.out.2.trans hm7 (fun x hx => .inl hx)))
            clear hr7 hm7
            go_wp2
            go_meet
            rw [HFd.out hd]
            exact H7.out
          · have hdi : ¬ (24 : Int) < (DD : Int) := by omega
            have HC6 := Lib.hid (HCn.out _ H6.out.2)
            obtain ⟨e0, e1, e2, e3, e4, e5, e6, e7, e8⟩ := nd_cells (HBx.out _ H6.out.2)
            go_wp2_with fail
            refine HC6.out.mono ?_
            rintro _ w7 ⟨rfl, hb7⟩
            have H7 := Lib.hid (And.intro (H6.out.1.below hb7) (H6.out.2.below hb7))
            clear hb7 e0 e1 e2 e3 e4 e5 e6 e7 e8
            by_cases hc : 600 < CC
            · have hci : (600 : Int) < (CC : Int) := by omega
              have g9 := (HG.out _ _ H7.out.1).2.2
              have H79 := HF9.out _ _ 0 H7.out.1
              rw [show ((0 : Nat) : Int) = 0 from rfl] at H79
              have H79 := Lib.hid H79
              go_wp2_with fail
              refine H79.out.mono ?_
              rintro _ w8 ⟨rfl, hr8, hm8⟩
              have H8 := Lib.hid (And.intro hr8 (H7.out.2.trans hm8 (fun x hx => .inl hx)))
              clear hr8 hm8
              go_wp2
              go_meet
              rw [HFc.out hd hc]
              exact H8.out
            · have hci : ¬ (600 : Int) < (CC : Int) := by omega
              go_wp2
              go_meet
              rw [HFo.out hd hc]
              exact H7.out
        · obtain ⟨ae, hev⟩ := ee_some A he
          have HFin : Hid (fin t n1 st2 = st2) := Lib.hid (by unfold fin; rw [hM, if_neg (by simp), if_pos he])
          rw [hev] at k2
          clear hM hev
          go_wp2
          go_meet
          rw [HFin.out]
          exact H5.out
  case rest =>
    obtain ⟨hr5, hm5⟩ := hcut
    have H5 := Lib.hid (And.intro hr5 hm5)
    clear hr5 hm5 H4
    obtain ⟨F, hF⟩ : ∃ F, fin t n1 st2 = F := ⟨_, rfl⟩
    rw [hF] at H5 HPar
    obtain ⟨k0, k1, k2, f1, f2⟩ := H5.out.1.cells
    by_cases he : F.err = 0
    · as_aux_lemma =>
        have hev : ee A (F.err : Int) = .nilIface := by rw [he]; rfl
        rw [hev] at k2
        have hpar := HPar.out
        rw [if_neg (by rw [he]; simp)] at hpar
        have hzz := HZ.out
        have hblt := HBl.out
        have hbb : Bl (fun q => w.heap.size ≤ q ∧ q ≠ R) (.mk k' [x0, x1, x2, x3] mn mx tx aa cc ks) := HBl.out.mono fun q (hq : _ ≤ q) => ⟨by omega, by omega⟩
        have hfin := pa_fin H5.out.1 (by omega) (HZ9.out _ H5.out.2) HNl.out (HI.out _ H5.out.2) hbb s.size 0
        rw [HMe.out] at hfin
        have HPb := Lib.hid hfin.1
        have HFin := Lib.hid hfin.2
        have HPr := Lib.hid hpar
        have HZ8 := Lib.hid (HZ9.out _ H5.out.2)
        obtain ⟨e0, e1, e2, e3, e4, e5, e6, e7, e8⟩ := nd_cells (HBx.out _ H5.out.2)
        clear hev hpar hzz hblt hbb hfin hF
        go_upto_region 12 with (fail)
        go_step
        go_step
        go_step
        go_step
        go_step
        go_step
        go_step
        go_step
        go_step
        go_step
        go_step
        refine wp_store9 rfl rfl rfl rfl HZ8.out ?_
        clear e0 e1 e2 e3 e4 e5 e6 e7 e8 k0 k1 k2 f1 f2
        go_wp2
        ((try simp only [Exit.inBlock, Exit.then]); refine bodyPost_ret (Kt.results_cell3_row rfl _ _ (R) 27 _ (0, 0) _ rfl (HPb.out) Tryd.underlying27 rfl ?hi1) rfl ?_; (case hi1 => kernel_rfl))
        rw [HPr.out]
        exact HFin.out
    · as_aux_lemma =>
        obtain ⟨ae, hev⟩ := ee_some A he
        have hpar := HPar.out
        rw [if_pos he] at hpar
        have hzz := HZ.out
        have hbb : Bl (fun q => w.heap.size ≤ q ∧ q ≠ R) zero := leaf_bl _ _ _ _ _ _ _ _ _
        have hfin : (put9 wc.drew R (.int .i64 0) (.int .u64 0) (.int .u64 0) (.int .u64 0) (.int .u64 0) (.slice none 0 0) (.int .i64 0) (.int .i64 0) (.string ⟨#[]⟩)).heap[R]? = some (.cells #[.int .i64 0, .int .u64 0, .int .u64 0, .int .u64 0, .int .u64 0, .slice none 0 0, .int .i64 0, .int .i64 0, .string ⟨#[]⟩] 27 (0, 0)) ∧
            PaP w A (zero, F.pos, F.err) (.returned (.tuple #[.agg #[.int .i64 0, .int .u64 0, .int .u64 0, .int .u64 0, .int .u64 0, .slice none 0 0, .int .i64 0, .int .i64 0, .string ⟨#[]⟩], .int .i64 (F.pos : Int), ee A (F.err : Int)])) (put9 wc.drew R (.int .i64 0) (.int .u64 0) (.int .u64 0) (.int .u64 0) (.int .u64 0) (.slice none 0 0) (.int .i64 0) (.int .i64 0) (.string ⟨#[]⟩)) :=
          pa_fin H5.out.1.drew (by omega) (HZ9.out wc.drew H5.out.2.drew) (k := 0) (mn := 0) (mx := 0) (x0 := 0) (x1 := 0) (x2 := 0) (x3 := 0) (nl := 0) (c := 0) (a := none) (t := []) (ks := []) rfl (leaf_is _ _ _ _ _ _ _ _ _ _) hbb F.pos F.err
        rw [hev] at k2 hfin
        have hput := H5.out.1.put (R := R) (by omega) (fun e => hRp e.symm) (.int .i64 0) (.int .u64 0) (.int .u64 0) (.int .u64 0) (.int .u64 0) (.slice none 0 0) (.int .i64 0) (.int .i64 0) (.string ⟨#[]⟩)
        have hput2 := H5.out.1.drew.put (R := R) (by omega) (fun e => hRp e.symm) (.int .i64 0) (.int .u64 0) (.int .u64 0) (.int .u64 0) (.int .u64 0) (.slice none 0 0) (.int .i64 0) (.int .i64 0) (.string ⟨#[]⟩)
        have HPr := Lib.hid hpar
        have SK : Hid (∀ V, Rr w V p s A F → V.cell? ⟨p, 1, none⟩ = some (.int .i64 (F.pos : Int)) ∧ V.cell? ⟨p, 2, none⟩ = some (.iface 204 (.pointer (some ae)))) := Lib.hid (fun V h' => ⟨h'.cells.2.1, by rw [h'.cells.2.2.1, hev]⟩)
        have HPut := Lib.hid (And.intro hput hput2)
        have HPb := Lib.hid hfin.1
        have HFin := Lib.hid hfin.2
        have HZ8 : Hid (wc.drew.heap[R]? = some Z9) := Lib.hid (HZ9.out wc.drew H5.out.2.drew)
        clear hev hpar hzz hbb hfin hF hput hput2
        go_upto_region 11 with (fail)
        clear k0 k1 k2 f1 f2
        refine wp_region_noPanic ?_
        refine wp_region_held_drew (S := fun V => V.cell? ⟨p, 1, none⟩ = some (.int .i64 (F.pos : Int)) ∧ V.cell? ⟨p, 2, none⟩ = some (.iface 204 (.pointer (some ae)))) (by kernel_rfl) (SK.out _ H5.out.1.drew) (fun hHeld => ?_)
        (refine wpAnyH_take (i := 0) (v := ?v0n7) (by simp only [List.getElem?_toArray, List.getElem?_cons_succ, List.getElem?_cons_zero]; rfl) (by kernel_rfl) (by kernel_rfl) (by kernel_rfl) (fun _ _ _ h => False.elim h) (Or.inl ⟨by rfl, ?hy0n7⟩) (by assumption) ?rest0n7; (case hy0n7 => (intro w hSw; (try dsimp only at hSw); go_simp; (try with_reducible rfl))); (try simp only [Act.put, List.setIfInBounds_toArray, List.set_cons_zero, List.set_cons_succ]))
        (refine wpAnyH_take (i := 1) (v := ?v1n8) (by simp only [List.getElem?_toArray, List.getElem?_cons_succ, List.getElem?_cons_zero]; rfl) (by kernel_rfl) (by kernel_rfl) (by kernel_rfl) (fun _ _ _ h => False.elim h) (Or.inl ⟨by rfl, ?hy1n8⟩) (by assumption) ?rest1n8; (case hy1n8 => (intro w hSw; (try dsimp only at hSw); go_simp; (try with_reducible rfl))); (try simp only [Act.put, List.setIfInBounds_toArray, List.set_cons_zero, List.set_cons_succ]))
        (refine wpAnyH_take (i := 2) (v := ?v2n9) (by simp only [List.getElem?_toArray, List.getElem?_cons_succ, List.getElem?_cons_zero]; rfl) (by kernel_rfl) (by kernel_rfl) (by kernel_rfl) (fun _ _ _ h => False.elim h) (Or.inl ⟨by rfl, ?hy2n9⟩) (by assumption) ?rest2n9; (case hy2n9 => (intro w hSw; (try dsimp only at hSw); go_simp; (try with_reducible rfl))); (try simp only [Act.put, List.setIfInBounds_toArray, List.set_cons_zero, List.set_cons_succ]))
        (refine wpAnyH_take (i := 3) (v := ?v3n10) (by simp only [List.getElem?_toArray, List.getElem?_cons_succ, List.getElem?_cons_zero]; rfl) (by kernel_rfl) (by kernel_rfl) (by kernel_rfl) (fun _ _ _ h => False.elim h) (Or.inl ⟨by rfl, ?hy3n10⟩) (by assumption) ?rest3n10; (case hy3n10 => (intro w hSw; (try dsimp only at hSw); go_simp; (try with_reducible rfl))); (try simp only [Act.put, List.setIfInBounds_toArray, List.set_cons_zero, List.set_cons_succ]))
        (refine wpAnyH_take (i := 4) (v := ?v4n11) (by simp only [List.getElem?_toArray, List.getElem?_cons_succ, List.getElem?_cons_zero]; rfl) (by kernel_rfl) (by kernel_rfl) (by kernel_rfl) (fun _ _ _ h => False.elim h) (Or.inl ⟨by rfl, ?hy4n11⟩) (by assumption) ?rest4n11; (case hy4n11 => (intro w hSw; (try dsimp only at hSw); go_simp; (try with_reducible rfl))); (try simp only [Act.put, List.setIfInBounds_toArray, List.set_cons_zero, List.set_cons_succ]))
        (refine wpAnyH_take (i := 5) (v := ?v5n12) (by simp only [List.getElem?_toArray, List.getElem?_cons_succ, List.getElem?_cons_zero]; rfl) (by kernel_rfl) (by kernel_rfl) (by kernel_rfl) (fun _ _ _ h => False.elim h) (Or.inl ⟨by rfl, ?hy5n12⟩) (by assumption) ?rest5n12; (case hy5n12 => (intro w hSw; (try dsimp only at hSw); go_simp; (try with_reducible rfl))); (try simp only [Act.put, List.setIfInBounds_toArray, List.set_cons_zero, List.set_cons_succ]))
        (refine wpAnyH_take (i := 6) (v := ?v6n13) (by simp only [List.getElem?_toArray, List.getElem?_cons_succ, List.getElem?_cons_zero]; rfl) (by kernel_rfl) (by kernel_rfl) (by kernel_rfl) (fun _ _ _ h => False.elim h) (Or.inl ⟨by rfl, ?hy6n13⟩) (by assumption) ?rest6n13; (case hy6n13 => (intro w hSw; (try dsimp only at hSw); go_simp; (try with_reducible rfl))); (try simp only [Act.put, List.setIfInBounds_toArray, List.set_cons_zero, List.set_cons_succ]))
        (refine wpAnyH_take (i := 7) (v := ?v7n14) (by simp only [List.getElem?_toArray, List.getElem?_cons_succ, List.getElem?_cons_zero]; rfl) (by kernel_rfl) (by kernel_rfl) (by kernel_rfl) (fun _ _ _ h => False.elim h) (Or.inl ⟨by rfl, ?hy7n14⟩) (by assumption) ?rest7n14; (case hy7n14 => (intro w hSw; (try dsimp only at hSw); go_simp; (try with_reducible rfl))); (try simp only [Act.put, List.setIfInBounds_toArray, List.set_cons_zero, List.set_cons_succ]))
        (refine wpAnyH_take (i := 8) (v := ?v8n15) (by simp only [List.getElem?_toArray, List.getElem?_cons_succ, List.getElem?_cons_zero]; rfl) (by kernel_rfl) (by kernel_rfl) (by kernel_rfl) (fun _ _ _ h => False.elim h) (Or.inl ⟨by rfl, ?hy8n15⟩) (by assumption) ?rest8n15; (case hy8n15 => (intro w hSw; (try dsimp only at hSw); go_simp; (try with_reducible rfl))); (try simp only [Act.put, List.setIfInBounds_toArray, List.set_cons_zero, List.set_cons_succ]))
        (refine wpAnyH_ready (rs := [9]) (by kernel_rfl) (by simp) ?_; refine AllReadyH.cons (o := _) (by simp only [List.getElem?_toArray, List.getElem?_cons_succ, List.getElem?_cons_zero]; rfl) (fun K hK => ?_) AllReadyH.nil; ((rw [if_pos (by kernel_rfl)]; refine wp_store9 (x0 := 0) (x1 := 0) (x2 := 0) (x3 := 0) (t := []) rfl rfl rfl rfl HZ8.out ?_)); refine hK.out _ _ (by first | exact SK.out _ HPut.out.2 | exact SK.out _ HPut.out.1.drew | exact SK.out _ HPut.out.1) (fun hHeld => ?_); clear hK K; (try simp only [Act.put, List.setIfInBounds_toArray, List.set_cons_zero, List.set_cons_succ]))
        (refine wpAnyH_take (i := 10) (v := ?v10n16) (by simp only [List.getElem?_toArray, List.getElem?_cons_succ, List.getElem?_cons_zero]; rfl) (by kernel_rfl) (by kernel_rfl) (by kernel_rfl) (fun _ _ _ h => False.elim h) (Or.inl ⟨by rfl, ?hy10n16⟩) (by assumption) ?rest10n16; (case hy10n16 => (intro w hSw; (try dsimp only at hSw); go_simp; (try with_reducible rfl))); (try simp only [Act.put, List.setIfInBounds_toArray, List.set_cons_zero, List.set_cons_succ]))
        (refine wpAnyH_take (i := 11) (v := ?v11n17) (by simp only [List.getElem?_toArray, List.getElem?_cons_succ, List.getElem?_cons_zero]; rfl) (by kernel_rfl) (by kernel_rfl) (by kernel_rfl) (fun _ _ _ h => False.elim h) (Or.inl ⟨by rfl, ?hy11n17⟩) (by assumption) ?rest11n17; (case hy11n17 => (intro w hSw; (try dsimp only at hSw); go_simp; (try with_reducible rfl))); (try simp only [Act.put, List.setIfInBounds_toArray, List.set_cons_zero, List.set_cons_succ]))
        refine wpAnyH_done (by kernel_rfl) ?_ _
        refine NoPanic.normal ?_
        clear hHeld
        go_wp2
        ((try simp only [Exit.inBlock, Exit.then]); refine bodyPost_ret (Kt.results_cell3_row rfl _ _ (R) 27 _ (0, 0) _ rfl (HPb.out) Tryd.underlying27 rfl ?hi2) rfl ?_; (case hi2 => kernel_rfl))
        rw [HPr.out]
        exact HFin.out
end Rx
end Go.Proofs.YtoeeddfinmfnoaaDoor

/- The law's alive: the chapter's examples are read. Condition: the sentinels read as laid. -/
namespace Go.Proofs.YtoeeddfinmfnoaaDoor
open Go Go.RowKit Kt Sp St Bk Bo Tr
namespace Rx
theorem ex1 : (parse [97, 124, 98, 42]).2.2 = 0 ∧ (parse [97, 124, 98, 42]).1.kind = 3 ∧ (parse [97, 124, 98, 42]).1.kids.length = 2 := ⟨rfl, rfl, rfl⟩
theorem ex2 : (parse [97, 42, 42]).2.2 = 0 ∧ (parse [97, 42, 42]).1.kind = 4 ∧ (parse [97, 42, 42]).1.kids.length = 1 ∧ ((parse [97, 42, 42]).1.kids.headD default).kind = 4 := ⟨rfl, rfl, rfl, rfl⟩
set_option maxRecDepth 100000 in
set_option maxHeartbeats 4000000 in
theorem alive_c (A : Nat → Addr) (w : World) (hs : Sent 204 w A rgs) : Calls Tryd.prog 12 #[] w fun e w' => e = .returned (.bool true) ∧ Below w.heap.size w w' := by
  have c1 := parse_c ⟨#[97, 124, 98, 42]⟩ (by decide) A w hs
  have c2 : ∀ V, Below w.heap.size w V → Calls Tryd.prog 19 #[.string ⟨#[97, 42, 42]⟩] V (PaP V A (parse [97, 42, 42])) := fun V hV => parse_c ⟨#[97, 42, 42]⟩ (by decide) A V (hs.keep hV)
  have x1 := ex1
  have x2 := ex2
  rw [show (⟨#[97, 124, 98, 42]⟩ : ByteArray).data.toList = [97, 124, 98, 42] from rfl] at c1
  obtain ⟨r1, hr1⟩ : ∃ r, parse [97, 124, 98, 42] = r := ⟨_, rfl⟩
  obtain ⟨r2, hr2⟩ : ∃ r, parse [97, 42, 42] = r := ⟨_, rfl⟩
  rw [hr1] at c1 x1
  rw [hr2] at c2 x2
  obtain ⟨n1, q1, g1⟩ := r1
  obtain ⟨n2, q2, g2⟩ := r2
  simp only at x1 x2
  obtain ⟨rfl, k1, l1⟩ := x1
  obtain ⟨rfl, k2, l2, d2⟩ := x2
  have HC1 := Lib.hid c1
  have HC2 := Lib.hid c2
  have HX := Lib.hid (And.intro k1 (And.intro l1 (And.intro k2 (And.intro l2 d2))))
  clear c1 c2 hr1 hr2 k1 l1 k2 l2 d2 hs
  go_enter Tryd.func12, Tryd.ntmps12
  go_wp2_with fail
  refine HC1.out.mono ?_
  rintro _ w1 ⟨m1, rfl, hme1, hI1, hb1, hB1⟩
  have hk1 : m1.kind = 3 ∧ m1.kids.length = 2 := by
    have h1 := HX.out.1
    have h2 := HX.out.2.1
    simp only at hme1
    rw [← hme1] at h1 h2
    rw [er_kind] at h1
    obtain ⟨k, sx, mn, mx, t, a, c, ks⟩ := m1
    simp only [er, Nd.kids, ers_len] at h2 ⊢
    exact ⟨h1, h2⟩
  obtain ⟨x0, x1, x2, x3, hs4⟩ := four hI1.len
  obtain ⟨k, sx, mn, mx, t, a, c, ks⟩ := m1
  simp only [Nd.set, Nd.kind, Nd.kids] at hs4 hk1
  obtain ⟨hk0, hk2⟩ := hk1
  subst hs4 hk0
  have hnv : nv (.mk 3 [x0, x1, x2, x3] mn mx t a c ks) = .agg #[.int .i64 3, .int .u64 (x0 : Int), .int .u64 (x1 : Int), .int .u64 (x2 : Int), .int .u64 (x3 : Int), .slice a 2 c, .int .i64 mn, .int .i64 mx, .string (Str t)] := by rw [← hk2]; rfl
  rw [hnv]
  have hev : ee A (((n1, q1, (0 : Nat)).2.2 : Nat) : Int) = .nilIface := rfl
  rw [hev]
  clear hnv hev hme1 hI1 hb1 hk2
  obtain ⟨W2, hW2⟩ : ∃ x, w1.alloc (.cells #[.int .i64 3, .int .u64 (x0 : Int), .int .u64 (x1 : Int), .int .u64 (x2 : Int), .int .u64 (x3 : Int), .slice a 2 c, .int .i64 mn, .int .i64 mx, .string (Str t)] 27) = x := ⟨_, rfl⟩
  have b2 : Below w1.heap.size w1 W2 := by rw [← hW2]; exact (Below.refl _ _).alloc (Nat.le_refl _) _
  have s2 : W2.heap[w1.heap.size]? = some (.cells #[.int .i64 3, .int .u64 (x0 : Int), .int .u64 (x1 : Int), .int .u64 (x2 : Int), .int .u64 (x3 : Int), .slice a 2 c, .int .i64 mn, .int .i64 mx, .string (Str t)] 27 (0, 0)) := by rw [← hW2]; exact World.alloc_heap_new _ _
  have hB2 := hB1.trans (b2.mono hB1.size)
  obtain ⟨X1, hX1⟩ : ∃ X, w1.heap.size = X := ⟨_, rfl⟩
  rw [hX1] at s2
  have HW2 := Lib.hid (And.intro hW2 hX1)
  have HB2 := Lib.hid hB2
  have HS2 := Lib.hid s2
  clear hW2 b2 s2 hB2 hB1
  go_upto_region 2 with (fail)
  try rw [HW2.out.1]
  try rw [HW2.out.2]
  clear hX1
  go_wp2_with fail
  refine (HC2.out W2 HB2.out).mono ?_
  rintro _ w3 ⟨m2, rfl, hme2, hI2, hb2, hB3⟩
  have hk2 : m2.kind = 4 ∧ ∃ q, m2.kids = [q] ∧ q.kind = 4 := by
    have h1 := HX.out.2.2.1
    have h2 := HX.out.2.2.2.1
    have h3 := HX.out.2.2.2.2
    simp only at hme2
    rw [← hme2] at h1 h2 h3
    rw [er_kind] at h1
    obtain ⟨k, sx, mn, mx, t, a, c, ks⟩ := m2
    simp only [er, Nd.kids, ers_len] at h2 h3 ⊢
    obtain ⟨q, rfl⟩ := List.length_eq_one_iff.1 h2
    refine ⟨h1, q, rfl, ?_⟩
    rw [ers_map] at h3
    simp only [List.map_cons, List.headD_cons] at h3
    rw [er_kind] at h3
    exact h3
  obtain ⟨y0, y1, y2, y3, hs4⟩ := four hI2.len
  obtain ⟨k2, sx2, mn2, mx2, t2, a2, c2, ks2⟩ := m2
  simp only [Nd.set, Nd.kind, Nd.kids] at hs4 hk2
  obtain ⟨hk0, q, rfl, hqk⟩ := hk2
  subst hs4 hk0
  obtain ⟨_, _, _, _, hrd, _, _⟩ := hI2
  obtain ⟨g, o, ha2, hc2⟩ := hrd 0 (.int .i64 q.kind) (by obtain ⟨k9, s9, mn9, mx9, t9, a9, c9, ks9⟩ := q; rfl)
  rw [show q.kind = 4 from hqk, Nat.add_zero] at hc2
  subst ha2
  have hnv : nv (.mk 4 [y0, y1, y2, y3] mn2 mx2 t2 (some ⟨g, o, none⟩) c2 [q]) = .agg #[.int .i64 4, .int .u64 (y0 : Int), .int .u64 (y1 : Int), .int .u64 (y2 : Int), .int .u64 (y3 : Int), .slice (some ⟨g, o, none⟩) 1 c2, .int .i64 mn2, .int .i64 mx2, .string (Str t2)] := rfl
  rw [hnv]
  have hev : ee A (((n2, q2, (0 : Nat)).2.2 : Nat) : Int) = .nilIface := rfl
  rw [hev]
  obtain ⟨W4, hW4⟩ : ∃ x, w3.alloc (.cells #[.int .i64 4, .int .u64 (y0 : Int), .int .u64 (y1 : Int), .int .u64 (y2 : Int), .int .u64 (y3 : Int), .slice (some ⟨g, o, none⟩) 1 c2, .int .i64 mn2, .int .i64 mx2, .string (Str t2)] 27) = x := ⟨_, rfl⟩
  have b4 : Below w3.heap.size w3 W4 := by rw [← hW4]; exact (Below.refl _ _).alloc (Nat.le_refl _) _
  have s4 : W4.heap[w3.heap.size]? = some (.cells #[.int .i64 4, .int .u64 (y0 : Int), .int .u64 (y1 : Int), .int .u64 (y2 : Int), .int .u64 (y3 : Int), .slice (some ⟨g, o, none⟩) 1 c2, .int .i64 mn2, .int .i64 mx2, .string (Str t2)] 27 (0, 0)) := by rw [← hW4]; exact World.alloc_heap_new _ _
  have hB4 := HB2.out.trans ((hB3.trans (b4.mono hB3.size)).mono HB2.out.size)
  have s2' : W4.heap[X1]? = _ := ((hB3.trans (b4.mono hB3.size)).block X1 (block_lt HS2.out)).trans HS2.out
  obtain ⟨e0, _, _, _, _, e5, _, _, _⟩ := nd_cells s2'
  obtain ⟨f0, _, _, _, _, f5, _, _, _⟩ := nd_cells s4
  have hc4 := (b4.cell (p := ⟨g, o, none⟩) (lt_of_cell hc2)).trans hc2
  obtain ⟨X2, hX2⟩ : ∃ X, w3.heap.size = X := ⟨_, rfl⟩
  rw [hX2] at f0 f5
  have HW4 := Lib.hid (And.intro hW4 hX2)
  have HB4 := Lib.hid hB4
  clear hnv hev hme2 hb2 hW4 b4 s4 hB4 s2' hrd hqk hc2 hB3
  go_upto_region 3 with (fail)
  try rw [HW4.out.1]
  try rw [HW4.out.2]
  clear hX2
  go_wp2
  go_ret
  exact ⟨by first | rfl | (simp; done), HB4.out⟩
end Rx
end Go.Proofs.YtoeeddfinmfnoaaDoor
