import Derived.Test.YteekonojmpihlaaDoorQTreeText
/- dofferlaw07: the chapter's example; TreeNames. Condition: the table of TrailingZeros64 reads as laid. -/
namespace Go.Proofs.YteekonojmpihlaaDoor
open Go Go.RowKit Kt St Sp Bk
namespace Tr
theorem zero_set : IsSet [0, 0, 0, 0] (Mk.has [0, 0, 0, 0]) := isSet_self rfl (by simp)
theorem rgt_ex (x0 x1 x2 x3 : Nat) (b : Nat) : rgt (.mk 4 [0, 0, 0, 0] 0 (-1) [] (some ⟨b, 0, none⟩) 1 [.mk 1 [x0, x1, x2, x3] 0 0 [] none 0 []]) = true := by
  simp [rgt, walk, full, fulls, one, bare, Nd.kind, Nd.set, Nd.mn, Nd.mx, Nd.text, Nd.kids]
theorem all_one {ws : List Nat} {c : Nat} (hc : c < 256) (h : IsSet ws (fun q => decide (q = c))) : Mk.all ws = [c] := by
  have h1 : Mk.all ws = (List.range 256).filter fun q => decide (q = c) := by
    unfold Mk.all
    rw [h.len]
    exact List.filter_congr fun q hq => h.at' q (by simpa using hq)
  rw [h1]
  have : ∀ c : Fin 256, (List.range 256).filter (fun q => decide (q = c.val)) = [c.val] := by decide +kernel
  exact this ⟨c, hc⟩
theorem is_leaf (B : Nat) (W : World) (k : Int) (x0 x1 x2 x3 : Nat) (mn mx : Int) (t : List UInt8) : Is B W (.mk k [x0, x1, x2, x3] mn mx t none 0 []) :=
  ⟨rfl, Nat.le_refl _, by decide, fun _ => rfl, Rd.nil _ _, (fun p hp => by cases hp), trivial⟩
theorem txt_ex {x0 x1 x2 x3 : Nat} (h : IsSet [x0, x1, x2, x3] (fun q => decide (q = 97))) (b : Nat) : txt (.mk 4 [0, 0, 0, 0] 0 (-1) [] (some ⟨b, 0, none⟩) 1 [.mk 1 [x0, x1, x2, x3] 0 0 [] none 0 []]) = [97, 42] := by
  have ha := all_one (by decide) h
  have hs : tset [x0, x1, x2, x3] = [97] := by
    unfold tset
    rw [if_pos (by rw [ha]; rfl), ha]
    decide
  simp [txt, txts, wraps, Nd.kind, hs, Lib.join_one, often]
set_option maxHeartbeats 2000000 in
set_option maxRecDepth 100000 in
theorem alive_c (w : World) (hT : Bt.Tab w) : Calls Tryd.prog 49 #[] w fun e w' => e = .returned (.bool true) ∧ Below w.heap.size w w' := by
  have HO := Lib.hid (fun w => (show Calls Tryd.prog 53 #[.int .u8 97] w _ from St.one_c 97 (by omega) w))
  have HT := Lib.hid hT
  clear hT
  go_enter Tryd.func49, Tryd.ntmps49
  go_wp2_with fail
  refine (HO.out _).mono ?_
  rintro e w1 ⟨rs, rfl, hset, hb1⟩
  obtain ⟨x0, x1, x2, x3, rfl⟩ := four hset.len
  simp only [sv, vals, List.map_cons, List.map_nil]
  have b2 := hb1.alloc hb1.size (.cells #[.int .i64 1, .int .u64 (x0 : Int), .int .u64 (x1 : Int), .int .u64 (x2 : Int), .int .u64 (x3 : Int), .slice none 0 0, .int .i64 0, .int .i64 0, .string ⟨#[]⟩] 37)
  have hrd : Rd (w1.alloc (.cells #[.int .i64 1, .int .u64 (x0 : Int), .int .u64 (x1 : Int), .int .u64 (x2 : Int), .int .u64 (x3 : Int), .slice none 0 0, .int .i64 0, .int .i64 0, .string ⟨#[]⟩] 37)) (some ⟨w1.heap.size, 0, none⟩) ([Nd.mk 1 [x0, x1, x2, x3] 0 0 [] none 0 []].flatMap cells) := Rd.new _ _ _ _ _ rfl
  obtain ⟨W2, hW2⟩ : ∃ W2, w1.alloc (.cells #[.int .i64 1, .int .u64 (x0 : Int), .int .u64 (x1 : Int), .int .u64 (x2 : Int), .int .u64 (x3 : Int), .slice none 0 0, .int .i64 0, .int .i64 0, .string ⟨#[]⟩] 37) = W2 := ⟨_, rfl⟩
  have hz2 : W2.heap.size = w1.heap.size + 1 := by rw [← hW2]; simp
  rw [hW2] at b2 hrd
  have hIs : Is W2.heap.size W2 (.mk 4 [0, 0, 0, 0] 0 (-1) [] (some ⟨w1.heap.size, 0, none⟩) 1 [.mk 1 [x0, x1, x2, x3] 0 0 [] none 0 []]) := by
    refine ⟨rfl, Nat.le_refl _, by decide, (fun h => by cases h), hrd, (fun p hp _ => by cases hp; show w1.heap.size < _; omega), is_leaf _ _ _ _ _ _ _ _ _ _, trivial⟩
  have hx := Text_c _ (by simp [walk, full, fulls, Nd.text]) (show wd (.mk 4 [0, 0, 0, 0] 0 (-1) [] (some ⟨w1.heap.size, 0, none⟩) 1 [.mk 1 [x0, x1, x2, x3] 0 0 [] none 0 []]) from ⟨zero_set, ⟨isSet_self rfl hset.lt, trivial⟩, trivial⟩) W2 (HT.out.below b2) hIs
  rw [rgt_ex, if_pos rfl, txt_ex hset] at hx
  have hx2 : Calls Tryd.prog 52 #[.agg #[.int .i64 4, .int .u64 0, .int .u64 0, .int .u64 0, .int .u64 0, .slice (some ⟨w1.heap.size, 0, none⟩) 1 1, .int .i64 0, .int .i64 (-1), .string ⟨#[]⟩]] W2 fun e w' => e = .returned (.string ⟨#[97, 42]⟩) ∧ Below W2.heap.size W2 w' := hx
  have HX := Lib.hid hx2
  have HB := Lib.hid b2
  have HW2 := Lib.hid hW2
  clear hx hx2 b2 hrd hIs hb1 hset hW2
  go_wp2_with fail
  rw [HW2.out]
  with_reducible refine HX.out.mono ?_
  rintro e w3 ⟨rfl, hb3⟩
  go_wp2
  go_ret
  exact ⟨by first | rfl | (simp; done), HB.out.trans (hb3.mono HB.out.size)⟩
end Tr
end Go.Proofs.YteekonojmpihlaaDoor
