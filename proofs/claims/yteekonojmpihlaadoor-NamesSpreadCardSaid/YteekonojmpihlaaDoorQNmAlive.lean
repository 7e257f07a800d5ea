import Derived.Test.YteekonojmpihlaaDoorQNmAdd
import Derived.Test.YteekonojmpihlaaDoorQNmSpAll
/- dofferlaw11.alive: the chapter's example. Condition: the sentinels read as laid. -/
namespace Go.Proofs.YteekonojmpihlaaDoor
namespace Kt
end Kt
namespace St
end St
namespace Sp
end Sp
namespace Bk
end Bk
namespace Tr
end Tr
open Go Go.RowKit Kt St Sp Bk Tr
namespace Bo
/-- A name alone. -/
def nme (c : UInt8) : Nd := .mk 5 [0, 0, 0, 0] 0 0 [c] none 0 []
theorem is_nme (c : UInt8) (w : World) : Is w.heap.size w (nme c) := ⟨rfl, Nat.le_refl _, by decide, fun _ => rfl, Rd.nil _ _, (fun p hp => by cases hp), trivial⟩
theorem bl_nme (c : UInt8) (P : Nat → Prop) : Bl P (nme c) := ⟨fun p hp => (by cases hp), trivial⟩
theorem walk_nme (c : UInt8) : walk (nme c) = [(nme c, 1)] := by simp [walk, nme, full, fulls]
theorem text_nme (c : UInt8) : ∀ y ∈ walk (nme c), y.1.text.length ≤ 9223372036854775807 := by
  intro y hy
  rw [walk_nme] at hy
  simp only [List.mem_singleton] at hy
  subst hy
  simp [nme, Nd.text]
theorem rgt_nme (c : UInt8) (h : Ac.nm [c] = true) : rgt (nme c) = true := by
  rw [rgt, walk_nme]
  simp [Tr.one, Tr.bare, nme, Nd.kind, Nd.set, Nd.mn, Nd.mx, Nd.text, Nd.kids, h]
theorem nm_a : Ac.nm [97] = true := by decide
theorem nm_b : Ac.nm [98] = true := by decide
theorem er_nme (c : UInt8) : er (nme c) = nme c := rfl
theorem al1 : addE [] [97] (nme 98) = 0 := by simp [addE, nm_a, rgt_nme 98 nm_b, lkS]
theorem al1' : add [] [97] (nme 98) = [([97], nme 98)] := by rw [add, if_pos al1]; rfl
theorem al2 : addE [([97], nme 98)] [98] (nme 97) = 0 := by simp [addE, nm_b, rgt_nme 97 nm_a, lkS]
theorem al2' : add [([97], nme 98)] [98] (nme 97) = [([97], nme 98), ([98], nme 97)] := by rw [add, if_pos al2]; rfl
theorem al3 : shE [([97], nme 98), ([98], nme 97)] (nme 97) = 8 := by
  rw [shE, if_neg (by rw [rgt_nme 97 nm_a]; decide), er_nme]
  simp [spr, nme, Nd.kind, Nd.text, lkS]
set_option maxRecDepth 100000 in
set_option maxHeartbeats 1000000 in
theorem alive_c (E : Nat → Addr) (w : World) (hse : Sent 204 w E Er.egs) : Calls Tryd.prog 14 #[] w fun e w' => e = .returned (.bool true) ∧ Below w.heap.size w w' := by
  have HNew := Lib.hid (new_c [] w)
  have HSe := Lib.hid hse
  clear hse
  go_enter Tryd.func14, Tryd.ntmps14
  go_wp2_with fail
  with_reducible refine HNew.out.mono ?_
  rintro e w1 ⟨p, L0, rfl, bk1, hL0, hb1⟩
  have ha1 := add_c E p L0 [] [] [97] (by decide) (nme 98) (text_nme 98) w1 (is_nme 98 w1) (bl_nme 98 _) bk1 (by simp) (HSe.out.keep hb1)
  have hn1 : nv (nme 98) = .agg #[.int .i64 5, .int .u64 0, .int .u64 0, .int .u64 0, .int .u64 0, .slice none 0 0, .int .i64 0, .int .i64 0, .string ⟨#[98]⟩] := rfl
  rw [hn1, show Str [97] = ⟨#[97]⟩ from rfl] at ha1
  have HA1 := Lib.hid ha1
  have HL0 := Lib.hid hL0
  have HB1 := Lib.hid hb1
  clear ha1 hn1 bk1 hL0 hb1
  go_wp2_with fail
  with_reducible refine HA1.out.mono ?_
  rintro e w2 ⟨rfl, L1, bk2, m1, f1⟩
  rw [al1, al1'] at *
  have hb2 : Below w.heap.size w w2 := HB1.out.trans (m1.toBelow HB1.out.size HL0.out)
  have hL1 : ∀ b ∈ L1, w.heap.size ≤ b := fun b hb => by
    rcases f1 b hb with h | h
    · exact HL0.out b h
    · have := HB1.out.size; omega
  have ha2 := add_c E p L1 [] _ [98] (by decide) (nme 97) (text_nme 97) w2 (is_nme 97 w2) (bl_nme 97 _) bk2 (by simp) (HSe.out.keep hb2)
  have hn2 : nv (nme 97) = .agg #[.int .i64 5, .int .u64 0, .int .u64 0, .int .u64 0, .int .u64 0, .slice none 0 0, .int .i64 0, .int .i64 0, .string ⟨#[97]⟩] := rfl
  rw [hn2, show Str [98] = ⟨#[98]⟩ from rfl] at ha2
  have HA2 := Lib.hid ha2
  have HL1 := Lib.hid hL1
  have HB2 := Lib.hid hb2
  clear ha2 hn2 bk2 hL1 hb2 m1 f1
  go_wp2_with fail
  with_reducible refine HA2.out.mono ?_
  rintro e w3 ⟨rfl, L2, bk3, m2, f2⟩
  rw [al2, al2'] at *
  have hb3 : Below w.heap.size w w3 := HB2.out.trans (m2.toBelow HB2.out.size HL1.out)
  have hsp := Spread_c E p L2 [] _ (nme 97) (text_nme 97) w3 (is_nme 97 w3) bk3 (HSe.out.keep hb3)
  have hn2 : nv (nme 97) = .agg #[.int .i64 5, .int .u64 0, .int .u64 0, .int .u64 0, .int .u64 0, .slice none 0 0, .int .i64 0, .int .i64 0, .string ⟨#[97]⟩] := rfl
  rw [hn2] at hsp
  have HSp := Lib.hid hsp
  have HB3 := Lib.hid hb3
  clear hsp hn2 bk3 hb3 m2 f2
  go_wp2_with fail
  with_reducible refine HSp.out.mono ?_
  rintro e w4 ⟨m, rfl, _, hm0, _, _, hb4⟩
  rw [al3] at *
  obtain rfl := hm0 (by decide)
  have hb5 := HB3.out.trans (hb4.mono HB3.out.size)
  have hz : nv nil0 = .agg #[.int .i64 0, .int .u64 0, .int .u64 0, .int .u64 0, .int .u64 0, .slice none 0 0, .int .i64 0, .int .i64 0, .string ⟨#[]⟩] := rfl
  rw [hz, show ee E 0 = .nilIface from rfl]
  have hnum := fun (V : World) (hb : Below w.heap.size w V) => num_ee E 8 (by decide) (by decide) V (HSe.out.keep hb)
  obtain ⟨v8, hv8⟩ : ∃ v, ee E 8 = .iface 204 (.pointer (some v)) := ⟨_, rfl⟩
  rw [hv8] at hnum ⊢
  have HNum := Lib.hid hnum
  have HB5 := Lib.hid hb5
  clear hnum hb5 hb4 hz hv8
  go_wp2_with fail
  with_reducible refine (HNum.out _ (HB5.out.alloc HB5.out.size _)).mono ?_
  rintro e w5 ⟨rfl, hb6⟩
  have hfin := (HB5.out.alloc HB5.out.size (.cells #[.int .i64 0, .int .u64 0, .int .u64 0, .int .u64 0, .int .u64 0, .slice none 0 0, .int .i64 0, .int .i64 0, .string ⟨#[]⟩] 37)).trans (hb6.mono (HB5.out.alloc HB5.out.size _).size)
  go_wp2
  go_ret
  exact ⟨rfl, hfin⟩
end Bo
end Go.Proofs.YteekonojmpihlaaDoor
