/- dofferlaw07: the chapter's example; TreeNames. Condition: the table of TrailingZeros64 reads as laid. -/
import Derived.Test.YteekonojmpihlaaDoorQTreeText
namespace Go.Proofs.YteekonojmpihlaaDoor
open Go Go.RowKit Kt St Sp Bk
namespace Tr
theorem zero_set : IsSet [0, 0, 0, 0] (Mk.has [0, 0, 0, 0]) := isSet_self rfl (by simp)
theorem rgt_name (s : List UInt8) : rgt (.mk 5 [0, 0, 0, 0] 0 0 s none 0 []) = Ac.nm s := by
  simp [rgt, walk, full, fulls, one, bare, Nd.kind, Nd.set, Nd.mn, Nd.mx, Nd.text, Nd.kids]
theorem rgt_ex (x0 x1 x2 x3 : Nat) (b : Nat) : rgt (.mk 4 [0, 0, 0, 0] 0 (-1) [] (some ⟨b, 0, none⟩) 1 [.mk 1 [x0, x1, x2, x3] 0 0 [] none 0 []]) = true := by
  simp [rgt, walk, full, fulls, one, bare, Nd.kind, Nd.set, Nd.mn, Nd.mx, Nd.text, Nd.kids]
theorem all_one {ws : List Nat} {c : Nat} (hc : c < 256) (h : IsSet ws (fun q => decide (q = c))) : Mk.all ws = [c] := by
  have h1 : Mk.all ws = (List.range 256).filter fun q => decide (q = c) := by
    unfold Mk.all
    rw [h.len]
    exact List.filter_congr fun q hq => h.at' q (by simpa using hq)
  rw [h1]
  have : ∀ c : Fin 256, (List.range 256).filter (fun q => decide (q = c.val)) = [c.val] := by decide +kernel
  exact this ⟨c, hc⟩
theorem is_leaf (B : Nat) (W : World) (k : Int) (x0 x1 x2 x3 : Nat) (mn mx : Int) (t : List UInt8) : Is B W (.mk k [x0, x1, x2, x3] mn mx t none 0 []) :=
  ⟨rfl, Nat.le_refl _, by decide, fun _ => rfl, Rd.nil _ _, (fun p hp => by cases hp), trivial⟩
theorem txt_ex {x0 x1 x2 x3 : Nat} (h : IsSet [x0, x1, x2, x3] (fun q => decide (q = 97))) (b : Nat) : txt (.mk 4 [0, 0, 0, 0] 0 (-1) [] (some ⟨b, 0, none⟩) 1 [.mk 1 [x0, x1, x2, x3] 0 0 [] none 0 []]) = [97, 42] := by
  have ha := all_one (by decide) h
  have hs : tset [x0, x1, x2, x3] = [97] := by
    unfold tset
    rw [if_pos (by rw [ha]; rfl), ha]
    decide
  simp [txt, txts, wraps, Nd.kind, hs, Lib.join_one, often]
set_option maxHeartbeats 2000000 in
set_option maxRecDepth 100000 in
theorem alive_c (w : World) (hT : Bt.Tab w) : Calls Tryd.prog 49 #[] w fun e w' => e = .returned (.bool true) ∧ Below w.heap.size w w' := by
  have HO := Lib.hid (fun w => (show Calls Tryd.prog 53 #[.int .u8 97] w _ from St.one_c 97 (by omega) w))
  have HT := Lib.hid hT
  clear hT
  go_enter Tryd.func49, Tryd.ntmps49
  go_wp2_with fail
  refine (HO.out _).mono ?_
  rintro e w1 ⟨rs, rfl, hset, hb1⟩
  obtain ⟨x0, x1, x2, x3, rfl⟩ := four hset.len
  simp only [sv, vals, List.map_cons, List.map_nil]
  have b2 := hb1.alloc hb1.size (.cells #[.int .i64 1, .int .u64 (x0 : Int), .int .u64 (x1 : Int), .int .u64 (x2 : Int), .int .u64 (x3 : Int), .slice none 0 0, .int .i64 0, .int .i64 0, .string ⟨#[]⟩] 37)
  have hrd : Rd (w1.alloc (.cells #[.int .i64 1, .int .u64 (x0 : Int), .int .u64 (x1 : Int), .int .u64 (x2 : Int), .int .u64 (x3 : Int), .slice none 0 0, .int .i64 0, .int .i64 0, .string ⟨#[]⟩] 37)) (some ⟨w1.heap.size, 0, none⟩) ([Nd.mk 1 [x0, x1, x2, x3] 0 0 [] none 0 []].flatMap cells) := Rd.new _ _ _ _ _ rfl
  obtain ⟨W2, hW2⟩ : ∃ W2, w1.alloc (.cells #[.int .i64 1, .int .u64 (x0 : Int), .int .u64 (x1 : Int), .int .u64 (x2 : Int), .int .u64 (x3 : Int), .slice none 0 0, .int .i64 0, .int .i64 0, .string ⟨#[]⟩] 37) = W2 := ⟨_, rfl⟩
  have hz2 : W2.heap.size = w1.heap.size + 1 := by rw [← hW2]; simp
  rw [hW2] at b2 hrd
  have hIs : Is W2.heap.size W2 (.mk 4 [0, 0, 0, 0] 0 (-1) [] (some ⟨w1.heap.size, 0, none⟩) 1 [.mk 1 [x0, x1, x2, x3] 0 0 [] none 0 []]) := by
    refine ⟨rfl, Nat.le_refl _, by decide, (fun h => by cases h), hrd, (fun p hp _ => by cases hp; show w1.heap.size < _; omega), is_leaf _ _ _ _ _ _ _ _ _ _, trivial⟩
  have hx := Text_c _ (by simp [walk, full, fulls, Nd.text]) (show wd (.mk 4 [0, 0, 0, 0] 0 (-1) [] (some ⟨w1.heap.size, 0, none⟩) 1 [.mk 1 [x0, x1, x2, x3] 0 0 [] none 0 []]) from ⟨zero_set, ⟨isSet_self rfl hset.lt, trivial⟩, trivial⟩) W2 (HT.out.below b2) hIs
  rw [rgt_ex, if_pos rfl, txt_ex hset] at hx
  have hx2 : Calls Tryd.prog 52 #[.agg #[.int .i64 4, .int .u64 0, .int .u64 0, .int .u64 0, .int .u64 0, .slice (some ⟨w1.heap.size, 0, none⟩) 1 1, .int .i64 0, .int .i64 (-1), .string ⟨#[]⟩]] W2 fun e w' => e = .returned (.string ⟨#[97, 42]⟩) ∧ Below W2.heap.size W2 w' := hx
  have HX := Lib.hid hx2
  have HB := Lib.hid b2
  have HW2 := Lib.hid hW2
  clear hx hx2 b2 hrd hIs hb1 hset hW2
  go_wp2_with fail
  rw [HW2.out]
  with_reducible refine HX.out.mono ?_
  rintro e w3 ⟨rfl, hb3⟩
  go_wp2
  go_ret
  exact ⟨by first | rfl | (simp; done), HB.out.trans (hb3.mono HB.out.size)⟩
set_option maxHeartbeats 2000000 in
set_option maxRecDepth 100000 in
theorem names_law (s : List UInt8) (w : World) (hT : Bt.Tab w) : Calls Tryd.prog 10 #[.string (Str s)] w fun e w' => e = .returned (.bool true) ∧ Below w.heap.size w w' := by
  have hsz := Str_size s
  have HT := Lib.hid hT
  have HA := Lib.hid (alive_c w hT)
  by_cases h100 : 100 < s.length
  · have hd : decide ((100 : Int) < (s.length : Int)) = true := by simp; omega
    clear hT h100
    go_enter Tryd.func10, Tryd.ntmps10
    go_wp2_with fail
    refine HA.out.mono ?_
    rintro e w1 ⟨rfl, hb1⟩
    go_wp2
    go_ret
    exact ⟨rfl, hb1⟩
  · have hd : decide ((100 : Int) < (s.length : Int)) = false := by simp; omega
    have hn1 := fun W => Ac.risname_c s (by omega) W
    have hn2 := fun W => Ac.isname_c s (by omega) W
    have hIs : ∀ W : World, Is W.heap.size W (.mk 5 [0, 0, 0, 0] 0 0 s none 0 []) := fun W => is_leaf _ _ _ _ _ _ _ _ _ _
    have hr := fun W => right_c _ (by simp [walk, full, fulls, Nd.text]; omega) W (hIs W)
    have hx := fun W hT => Text_c _ (by simp [walk, full, fulls, Nd.text]; omega) (show wd (.mk 5 [0, 0, 0, 0] 0 0 s none 0 []) from ⟨zero_set, trivial⟩) W hT (hIs W)
    rw [rgt_name] at hr
    rw [rgt_name] at hx
    rw [show txt (.mk 5 [0, 0, 0, 0] 0 0 s none 0 []) = 123 :: (s ++ [125]) by simp [txt]] at hx
    have hr2 : ∀ W, Calls Tryd.prog 30 #[.agg #[.int .i64 5, .int .u64 0, .int .u64 0, .int .u64 0, .int .u64 0, .slice none 0 0, .int .i64 0, .int .i64 0, .string (Str s)]] W fun e w' => e = .returned (.bool (Ac.nm s)) ∧ Below W.heap.size W w' := hr
    obtain ⟨Y, hY⟩ : ∃ Y, 123 :: s = Y := ⟨_, rfl⟩
    obtain ⟨Z, hZ⟩ : ∃ Z, 123 :: (s ++ [125]) = Z := ⟨_, rfl⟩
    have a1 : ∀ w, (Op.stringOp .add ⟨#[123]⟩ (Str s)).run Tryd.prog w = .ok (.string (Str Y)) w := add_to (a := [123]) (by simpa using hY) (by rw [← hY]; simp; omega)
    have a2 : ∀ w, (Op.stringOp .add (Str Y) ⟨#[125]⟩).run Tryd.prog w = .ok (.string (Str Z)) w := add_to (b := [125]) (by rw [← hY, ← hZ]; rfl) (by rw [← hZ]; simp; omega)
    rw [hZ] at hx
    have hx2 : ∀ W, Bt.Tab W → Calls Tryd.prog 52 #[.agg #[.int .i64 5, .int .u64 0, .int .u64 0, .int .u64 0, .int .u64 0, .slice none 0 0, .int .i64 0, .int .i64 0, .string (Str s)]] W fun e w' => e = .returned (.string (Str (if Ac.nm s then Z else []))) ∧ Below W.heap.size W w' := hx
    have e1 : ((Str (if Ac.nm s then Z else [])).toList == (Str Z).toList) = Ac.nm s := by
      rw [Str_beq]
      cases Ac.nm s with
      | true => simp
      | false => simp [← hZ]
    obtain ⟨T, hTT⟩ : ∃ T, (if Ac.nm s then Z else []) = T := ⟨_, rfl⟩
    rw [hTT] at hx2 e1
    generalize Ac.nm s = bb at *
    have H1 := Lib.hid hn1
    have H2 := Lib.hid hn2
    have HR := Lib.hid hr2
    have HX := Lib.hid hx2
    clear hn1 hn2 hr hr2 hx hx2 hIs hT hTT hY hZ h100
    go_enter Tryd.func10, Tryd.ntmps10
    go_wp2_with fail
    refine HA.out.mono ?_
    rintro e w1 ⟨rfl, hb1⟩
    go_wp2_with fail
    have hB2 := hb1.alloc hb1.size (.cells #[.int .i64 5, .int .u64 0, .int .u64 0, .int .u64 0, .int .u64 0, .slice none 0 0, .int .i64 0, .int .i64 0, .string (Str s)] 37)
    have hs2 := heap_alloc_new w1 (.cells #[.int .i64 5, .int .u64 0, .int .u64 0, .int .u64 0, .int .u64 0, .slice none 0 0, .int .i64 0, .int .i64 0, .string (Str s)] 37)
    obtain ⟨W2, hW2⟩ : ∃ W2, w1.alloc (.cells #[.int .i64 5, .int .u64 0, .int .u64 0, .int .u64 0, .int .u64 0, .slice none 0 0, .int .i64 0, .int .i64 0, .string (Str s)] 37) = W2 := ⟨_, rfl⟩
    rw [hW2] at hs2 hB2 ⊢
    have hcl := fun (W : World) (hb : Below W2.heap.size W2 W) => by
      have h := (hb.block _ (block_lt hs2)).trans hs2
      exact (⟨cell_block h 0, cell_block h 1, cell_block h 2, cell_block h 3, cell_block h 4, cell_block h 5, cell_block h 6, cell_block h 7, cell_block h 8⟩ : W.cell? ⟨w1.heap.size, 0, none⟩ = some (.int .i64 5) ∧ W.cell? ⟨w1.heap.size, 1, none⟩ = some (.int .u64 0) ∧ W.cell? ⟨w1.heap.size, 2, none⟩ = some (.int .u64 0) ∧ W.cell? ⟨w1.heap.size, 3, none⟩ = some (.int .u64 0) ∧ W.cell? ⟨w1.heap.size, 4, none⟩ = some (.int .u64 0) ∧ W.cell? ⟨w1.heap.size, 5, none⟩ = some (.slice none 0 0) ∧ W.cell? ⟨w1.heap.size, 6, none⟩ = some (.int .i64 0) ∧ W.cell? ⟨w1.heap.size, 7, none⟩ = some (.int .i64 0) ∧ W.cell? ⟨w1.heap.size, 8, none⟩ = some (.string (Str s)))
    obtain ⟨z0, z1, z2, z3, z4, z5, z6, z7, z8⟩ := hcl W2 (Below.refl _ _)
    have HB := Lib.hid hB2
    have HC := Lib.hid hcl
    clear hB2 hs2 hcl hW2 hb1
    refine (H1.out _).mono ?_
    rintro e w3 ⟨rfl, rfl⟩
    go_wp2_with fail
    refine (H2.out _).mono ?_
    rintro e w3 ⟨rfl, rfl⟩
    have hbe : (bb == bb) = true := by simp
    go_wp2_with fail
    with_reducible refine (HR.out _).mono ?_
    rintro e w4 ⟨rfl, hb4⟩
    obtain ⟨v0, v1, v2, v3, v4, v5, v6, v7, v8⟩ := HC.out _ hb4
    have hT4 := HT.out.below (HB.out.trans (hb4.mono HB.out.size))
    go_wp2_with fail
    with_reducible refine (HX.out _ hT4).mono ?_
    rintro e w5 ⟨rfl, hb5⟩
    go_wp2
    go_ret
    exact ⟨by first | rfl | (simp; done), (HB.out.trans (hb4.mono HB.out.size)).trans (hb5.mono (by have := hb4.size; have := HB.out.size; omega))⟩
end Tr
end Go.Proofs.YteekonojmpihlaaDoor
