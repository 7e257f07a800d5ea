import Derived.Test.YtoeeddfinmfnoaaDoorQRxLeaf
import Derived.Test.YtoeeddfinmfnoaaDoorQActNm
import Derived.Deep.RegionHeld3
/- The walks of package regex's reader: name. -/
namespace Go.Proofs.YtoeeddfinmfnoaaDoor
namespace Kt
end Kt
namespace Sp
end Sp
namespace St
end St
namespace Bk
end Bk
namespace Bo
end Bo
namespace Tr
end Tr
open Go Go.RowKit Kt Sp St Bk Bo Tr
namespace Rx
variable {w0 W W' : World} {p : Nat} {s : ByteArray} {A : Nat → Addr} {st : S}
set_option maxRecDepth 100000 in
set_option maxHeartbeats 8000000 in
theorem name_c (hsz : s.size ≤ 1000000) (h : Rr w0 W p s A st) (hlt : st.pos < s.size) : Calls Tryd.prog 151 #[.pointer (some ⟨p, 0, none⟩)] W (NdP w0 W p s A (name s.data.toList st)) := by
  have hfS : ∀ V st' (q : Nat), Rr w0 V p s A st' → Calls Tryd.prog 49 #[.pointer (some ⟨p, 0, none⟩), .int .i64 (q : Int), Er.ev A 4] V fun r w' => r = .returned (.tuple #[]) ∧ Rr w0 w' p s A (fail st' q 2) ∧ Mod [p] V w' := fun V st' q h' => by rw [ee_short]; exact fail_c q 2 (by decide) h'
  have hfN : ∀ V st' (q : Nat), Rr w0 V p s A st' → Calls Tryd.prog 49 #[.pointer (some ⟨p, 0, none⟩), .int .i64 (q : Int), Er.ev A 6] V fun r w' => r = .returned (.tuple #[]) ∧ Rr w0 w' p s A (fail st' q 5) ∧ Mod [p] V w' := fun V st' q h' => by rw [ee_name]; exact fail_c q 5 (by decide) h'
  have hgS : ∀ V st', Rr w0 V p s A st' → V.cell? ⟨4, 0, none⟩ = some (Er.ev A 4) := fun V st' h' => h'.sent _ (by simp [Er.egs])
  have hgN : ∀ V st', Rr w0 V p s A st' → V.cell? ⟨6, 0, none⟩ = some (Er.ev A 6) := fun V st' h' => h'.sent _ (by simp [Er.egs])
  obtain ⟨ES, hES⟩ : ∃ E, Er.ev A 4 = E := ⟨_, rfl⟩
  obtain ⟨EN, hEN⟩ : ∃ E, Er.ev A 6 = E := ⟨_, rfl⟩
  rw [hES] at hfS hgS
  rw [hEN] at hfN hgN
  obtain ⟨W1, hW1⟩ : ∃ W1, W.alloc Z9 = W1 := ⟨_, rfl⟩
  have b1 : Below W.heap.size W W1 := by rw [← hW1]; exact (Below.refl _ _).alloc (Nat.le_refl _) _
  have s1 : W1.heap[W.heap.size]? = some Z9 := by rw [← hW1]; exact World.alloc_heap_new _ _
  have h1 := h.below b1
  have m1 : Mod [p] W W1 := Mod.of_below b1 _
  obtain ⟨k0, k1, k2, f1, f2⟩ := h1.cells
  have hsl := size_list s
  have u1 : IntKind.i64.wrap ((st.pos : Int) + 1) = ((st.pos + 1 : Nat) : Int) := by rw [IntKind.wrap_i64]; omega
  have u2 : (st.pos : Int) + 1 = ((st.pos + 1 : Nat) : Int) := by omega
  obtain ⟨F, hF⟩ : ∃ F, st.pos + 1 = F := ⟨_, rfl⟩
  have hF2 : F ≤ s.size := by omega
  have hx1 := slice_from s F hF2
  have hnm : name s.data.toList st = (if brace s.data.toList F < 0 then (zero, fail st s.size 2) else if Ac.nm ((s.data.toList.drop F).take (brace s.data.toList F).toNat) = false then (zero, fail st F 5) else (.mk 5 [0, 0, 0, 0] 0 0 ((s.data.toList.drop F).take (brace s.data.toList F).toNat) none 0 [], ⟨F + (brace s.data.toList F).toNat + 1, st.err⟩)) := by
    unfold name
    rw [hF, ← hsl]
  rw [hF] at u1 u2
  obtain ⟨K, hK⟩ : ∃ K, brace s.data.toList F = K := ⟨_, rfl⟩
  have hK0 : -1 ≤ K := by rw [← hK]; exact Lib.indexByte_ge _ _
  have hix := fun V => Sp.ix_c (s.data.toList.drop F) 125 K hK V
  obtain ⟨D, hD⟩ : ∃ D, Str (s.data.toList.drop F) = D := ⟨_, rfl⟩
  rw [hD] at hix hx1
  have hc125 : (((125 : UInt8).toNat : Nat) : Int) = 125 := rfl
  rw [hc125] at hix
  have H := Lib.hid h
  have H1 := Lib.hid h1
  have M1 := Lib.hid m1
  have HS1 := Lib.hid s1
  have HW1 := Lib.hid (show W.alloc (.cells #[.int .i64 0, .int .u64 0, .int .u64 0, .int .u64 0, .int .u64 0, .slice none 0 0, .int .i64 0, .int .i64 0, .string ⟨#[]⟩] 27) = W1 from hW1)
  have HfS := Lib.hid hfS
  have HfN := Lib.hid hfN
  have HgS := Lib.hid hgS
  have HgN := Lib.hid hgN
  have HIx := Lib.hid hix
  have HNm := Lib.hid hnm
  have hRp : W.heap.size ≠ p := by have := h.blk; omega
  obtain ⟨R, hR⟩ : ∃ R, W.heap.size = R := ⟨_, rfl⟩
  rw [hR] at HS1 hRp
  have HR := Lib.hid hR
  have hFi : (F : Int) ≤ (s.size : Int) := by omega
  have hFi0 : (0 : Int) ≤ (F : Int) := by omega
  have HBr : Hid (0 ≤ K → F + K.toNat < s.size) := Lib.hid (fun hk => by
    have := brace_lt (t := s.data.toList) (frm := F) (by rw [hK]; omega)
    rw [hK, ← hsl] at this
    exact this)
  have HD := Lib.hid hD
  rw [hK] at HNm
  clear h h1 m1 s1 b1 hW1 hfS hfN hgS hgN hix hnm hES hEN hF hK hD hsl
  go_enter Tryd.func151, Tryd.ntmps151
  go_upto_region 1 with (fail)
  rw [HW1.out]
  try rw [HR.out]
  clear hR
  go_wp2_with fail
  refine (HIx.out _).mono ?_
  rintro _ _ ⟨rfl, rfl⟩
  by_cases hk : K < 0
  · have hnm := HNm.out
    rw [if_pos hk] at hnm
    have HN := Lib.hid hnm
    have SK : Hid (∀ V st', Rr w0 V p s A st' → V.cell? ⟨p, 0, none⟩ = some (.string s) ∧ V.cell? ⟨4, 0, none⟩ = some ES) := Lib.hid (fun V st' h' => ⟨h'.cells.1, HgS.out V st' h'⟩)
    clear hnm HNm k0 k1 k2 f1 f2
    go_wp2_with fail
    refine wp_region_noPanic ?_
    refine wp_region_held_drew (S := fun V => V.cell? ⟨p, 0, none⟩ = some (.string s) ∧ V.cell? ⟨4, 0, none⟩ = some ES) (by kernel_rfl) (SK.out _ _ H1.out.drew) (fun hHeld => ?_)
    (refine wpAnyH_take (i := 0) (v := ?v0n1) (by simp only [List.getElem?_toArray, List.getElem?_cons_succ, List.getElem?_cons_zero]; rfl) (by kernel_rfl) (by kernel_rfl) (by kernel_rfl) (fun _ _ _ h => False.elim h) (Or.inl ⟨by rfl, ?hy0n1⟩) (by assumption) ?rest0n1; (case hy0n1 => (intro w hSw; (try dsimp only at hSw); go_simp; (try with_reducible rfl))); (try simp only [Act.put, List.setIfInBounds_toArray, List.set_cons_zero, List.set_cons_succ]))
    (refine wpAnyH_take (i := 1) (v := ?v1n2) (by simp only [List.getElem?_toArray, List.getElem?_cons_succ, List.getElem?_cons_zero]; rfl) (by kernel_rfl) (by kernel_rfl) (by kernel_rfl) (fun _ _ _ h => False.elim h) (Or.inl ⟨by rfl, ?hy1n2⟩) (by assumption) ?rest1n2; (case hy1n2 => (intro w hSw; (try dsimp only at hSw); go_simp; (try with_reducible rfl))); (try simp only [Act.put, List.setIfInBounds_toArray, List.set_cons_zero, List.set_cons_succ]))
    (refine wpAnyH_take (i := 2) (v := ?v2n3) (by simp only [List.getElem?_toArray, List.getElem?_cons_succ, List.getElem?_cons_zero]; rfl) (by kernel_rfl) (by kernel_rfl) (by kernel_rfl) (fun _ _ _ h => False.elim h) (Or.inl ⟨by rfl, ?hy2n3⟩) (by assumption) ?rest2n3; (case hy2n3 => (intro w hSw; (try dsimp only at hSw); go_simp; (try with_reducible rfl))); (try simp only [Act.put, List.setIfInBounds_toArray, List.set_cons_zero, List.set_cons_succ]))
    (refine wpAnyH_take (i := 3) (v := ?v3n4) (by simp only [List.getElem?_toArray, List.getElem?_cons_succ, List.getElem?_cons_zero]; rfl) (by kernel_rfl) (by kernel_rfl) (by kernel_rfl) (fun _ _ _ h => False.elim h) (Or.inl ⟨by rfl, ?hy3n4⟩) (by assumption) ?rest3n4; (case hy3n4 => (intro w hSw; (try dsimp only at hSw); go_simp; (try with_reducible rfl))); (try simp only [Act.put, List.setIfInBounds_toArray, List.set_cons_zero, List.set_cons_succ]))
    (refine wpAnyH_take (i := 4) (v := ?v4n5) (by simp only [List.getElem?_toArray, List.getElem?_cons_succ, List.getElem?_cons_zero]; rfl) (by kernel_rfl) (by kernel_rfl) (by kernel_rfl) (fun _ _ _ h => False.elim h) (Or.inl ⟨by rfl, ?hy4n5⟩) (by assumption) ?rest4n5; (case hy4n5 => (intro w hSw; (try dsimp only at hSw); go_simp; (try with_reducible rfl))); (try simp only [Act.put, List.setIfInBounds_toArray, List.set_cons_zero, List.set_cons_succ]))
    (refine wpAnyH_take (i := 5) (v := ?v5n6) (by simp only [List.getElem?_toArray, List.getElem?_cons_succ, List.getElem?_cons_zero]; rfl) (by kernel_rfl) (by kernel_rfl) (by kernel_rfl) (fun _ _ _ h => False.elim h) (Or.inl ⟨by rfl, ?hy5n6⟩) (by assumption) ?rest5n6; (case hy5n6 => (intro w hSw; (try dsimp only at hSw); go_simp; (try with_reducible rfl))); (try simp only [Act.put, List.setIfInBounds_toArray, List.set_cons_zero, List.set_cons_succ]))
    (refine wpAnyH_take (i := 6) (v := ?v6n7) (by simp only [List.getElem?_toArray, List.getElem?_cons_succ, List.getElem?_cons_zero]; rfl) (by kernel_rfl) (by kernel_rfl) (by kernel_rfl) (fun _ _ _ h => False.elim h) (Or.inl ⟨by rfl, ?hy6n7⟩) (by assumption) ?rest6n7; (case hy6n7 => (intro w hSw; (try dsimp only at hSw); go_simp; (try with_reducible rfl))); (try simp only [Act.put, List.setIfInBounds_toArray, List.set_cons_zero, List.set_cons_succ]))
    (refine wpAnyH_ready (rs := [7]) (by kernel_rfl) (by simp) ?_; refine AllReadyH.cons (o := _) (by simp only [List.getElem?_toArray, List.getElem?_cons_succ, List.getElem?_cons_zero]; rfl) (fun K hK => ?_) AllReadyH.nil; go_simp; ((with_reducible refine (HfS.out _ _ s.size H1.out.drew).mono ?_); rintro _ w6 ⟨rfl, hr6, hm6⟩); refine hK.out _ _ (by exact SK.out _ _ hr6) (fun hHeld => ?_); clear hK K; (try simp only [Act.put, List.setIfInBounds_toArray, List.set_cons_zero, List.set_cons_succ]))
    refine wpAnyH_done (by kernel_rfl) ?_ _
    refine NoPanic.normal ?_
    have hV : w6.heap[R]? = some Z9 := (hm6.block R (block_lt HS1.out) (by simpa using hRp)).trans HS1.out
    have hf := zero_fin H.out (by rw [HR.out]; exact Nat.le_refl _) hV hr6 (M1.out.drew.trans hm6 (fun x hx => .inl hx))
    obtain ⟨⟨d0, d1, d2, d3, d4, d5, d6, d7, d8⟩, g0, g1, g2, g3, g4, g5, g6, g7, g8⟩ := z9_cells hV
    have HPb := Lib.hid hf.1
    have HFin := Lib.hid hf.2
    clear hf hV hr6 hm6 hHeld
    go_wp2
    ((try simp only [Exit.inBlock, Exit.then]); refine bodyPost_ret (results_cell_row rfl _ _ (R) 27 _ (0, 0) _ rfl (HPb.out) Tryd.underlying27 rfl ?hi1) rfl ?_; (case hi1 => kernel_rfl))
    rw [HN.out]
    exact HFin.out
  · have hnm := HNm.out
    rw [if_neg hk] at hnm
    obtain ⟨k, rfl⟩ : ∃ k : Nat, K = (k : Int) := ⟨K.toNat, by omega⟩
    rw [Int.toNat_natCast] at hnm
    have hbr := HBr.out (by omega)
    rw [Int.toNat_natCast] at hbr
    have hx2 := slice_two s F k
    have u3 : IntKind.i64.wrap ((F : Int) + (k : Int)) = ((F + k : Nat) : Int) := by rw [IntKind.wrap_i64]; omega
    have u4 : (F : Int) + (k : Int) = ((F + k : Nat) : Int) := by omega
    have u5 : IntKind.i64.wrap (((F + k : Nat) : Int) + 1) = ((F + k + 1 : Nat) : Int) := by rw [IntKind.wrap_i64]; omega
    have u6 : ((F + k : Nat) : Int) + 1 = ((F + k + 1 : Nat) : Int) := by omega
    obtain ⟨w, hw⟩ : ∃ w, (s.data.toList.drop F).take k = w := ⟨_, rfl⟩
    rw [hw] at hnm hx2
    have hwl : w.length ≤ 9223372036854775807 := by
      rw [← hw, List.length_take]
      omega
    have hin := fun V => Ac.isname_c w hwl V
    obtain ⟨B, hB⟩ : ∃ b, Ac.nm w = b := ⟨_, rfl⟩
    rw [hB] at hnm hin
    have HIn := Lib.hid hin
    have HN := Lib.hid hnm
    have HBk := Lib.hid hbr
    have i1 : (F : Int) ≤ ((F + k : Nat) : Int) := by omega
    have i2 : ((F + k : Nat) : Int) ≤ (s.size : Int) := by omega
    obtain ⟨Q, hQ⟩ : ∃ Q, F + k = Q := ⟨_, rfl⟩
    rw [hQ] at u3 u4 u5 u6 hx2 i1 i2
    obtain ⟨Q2, hQ2⟩ : ∃ Q2, Q + 1 = Q2 := ⟨_, rfl⟩
    rw [hQ2] at u5 u6
    have hki : ¬ (k : Int) < 0 := by omega
    have HQ : Hid (F + k + 1 = Q2) := Lib.hid (by omega)
    clear hnm HNm hw hwl hin hB hbr HBr HIx hQ hQ2 hk HD hK0
    go_wp2_with fail
    refine (HIn.out _).mono ?_
    rintro _ _ ⟨rfl, rfl⟩
    cases B with
    | false =>
      have HN2 : Hid (name s.data.toList st = (zero, fail st F 5)) := Lib.hid (by rw [HN.out]; rfl)
      have g3 := HgN.out _ _ H1.out
      go_wp2_with fail
      refine (HfN.out _ _ F H1.out).mono ?_
      rintro _ w6 ⟨rfl, hr6, hm6⟩
      have hV : w6.heap[R]? = some Z9 := (hm6.block R (block_lt HS1.out) (by simpa using hRp)).trans HS1.out
      have hf := zero_fin H.out (by rw [HR.out]; exact Nat.le_refl _) hV hr6 (M1.out.trans hm6 (fun x hx => .inl hx))
      obtain ⟨⟨d0, d1, d2, d3, d4, d5, d6, d7, d8⟩, e0, e1, e2, e3, e4, e5, e6, e7, e8⟩ := z9_cells hV
      have HPb := Lib.hid hf.1
      have HFin := Lib.hid hf.2
      clear hf hV hr6 hm6 k0 k1 k2 f1 f2 g3
      go_wp2
      ((try simp only [Exit.inBlock, Exit.then]); refine bodyPost_ret (results_cell_row rfl _ _ (R) 27 _ (0, 0) _ rfl (HPb.out) Tryd.underlying27 rfl ?hi2) rfl ?_; (case hi2 => kernel_rfl))
      rw [HN2.out]
      exact HFin.out
    | true =>
      have HN2 : Hid (name s.data.toList st = (.mk 5 [0, 0, 0, 0] 0 0 w none 0 [], ⟨Q2, st.err⟩)) := Lib.hid (by rw [HN.out, HQ.out]; rfl)
      have hp2 := H1.out.setPos Q2
      obtain ⟨w5, hw5⟩ : ∃ x, W1.setCell ⟨p, 1, none⟩ (.int .i64 (Q2 : Int)) = x := ⟨_, rfl⟩
      rw [hw5] at hp2
      have hV : w5.heap[R]? = some Z9 := (hp2.2.block R (block_lt HS1.out) (by simpa using hRp)).trans HS1.out
      have hf := leaf_fin H.out (by rw [HR.out]; exact Nat.le_refl _) hV hp2.1 (M1.out.trans hp2.2 (fun x hx => .inl hx)) 5 0 0 0 0 0 0 w
      obtain ⟨⟨d0, d1, d2, d3, d4, d5, d6, d7, d8⟩, e0, e1, e2, e3, e4, e5, e6, e7, e8⟩ := z9_cells hV
      have q0 := hp2.1.cells.1
      have HPb := Lib.hid hf.1
      have HFin := Lib.hid hf.2
      clear hf hV hp2
      go_upto_region 10 with (fail)
      try rw [hw5]
      clear k0 k1 k2 f1 f2 hw5
      go_wp2
      ((try simp only [Exit.inBlock, Exit.then]); refine bodyPost_ret (results_cell_row rfl _ _ (R) 27 _ (0, 0) _ rfl (HPb.out) Tryd.underlying27 rfl ?hi3) rfl ?_; (case hi3 => kernel_rfl))
      rw [HN2.out]
      exact HFin.out
end Rx
end Go.Proofs.YtoeeddfinmfnoaaDoor
