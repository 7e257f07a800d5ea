/- dofferlaw22.alive: the chapter's example. -/
import Derived.Test.YtfkjijjmphbglaaDoorClsOf
namespace Go.Proofs.YtfkjijjmphbglaaDoor
open Go Go.RowKit Kt
namespace Cl
open Sb
set_option maxRecDepth 100000 in
theorem elRow : Kt.El Tryd.prog 22 35 (.agg Tryd.zeroCells35) 256 2048 := ⟨Tryd.underlying22, info_parts (by kernel_rfl), by first | exact Z_size | rfl, by decide⟩
theorem made_zrow : (madeCells (Value.agg Tryd.zeroCells35).cells (1 * 256)).toList = [zrow].flatMap i64s := by kernel_rfl
theorem ex_good : Sb.Good [zrow] [-1] [0] where
  many := by simp
  ru := rfl
  en := by simp
  leads := fun r hr => by
    simp only [List.mem_singleton] at hr
    subst hr
    exact List.any_eq_false.2 fun x hx => by
      have : x = 0 := List.eq_of_mem_replicate hx
      subst this
      decide
  strange := by decide
  entry := by decide
  first := rfl
  none := rfl
theorem one_class {κ : Type} [DecidableEq κ] (key : Nat → κ) (n : Nat) (hn : 0 < n) (h : ∀ b, b < n → key b = key 0) : (st key n).2.length = 1 := by
  have ok := ok_st key n
  obtain ⟨j, f, _, h2, _, _⟩ := ok.lt 0 hn
  have h0 := (List.getElem?_eq_some_iff.1 h2).1
  have h1 : (st key n).2.length ≤ 1 := by
    by_cases hl : 1 < (st key n).2.length
    · have a0 : (st key n).2[0]? = some _ := List.getElem?_eq_getElem (by omega)
      have a1 : (st key n).2[1]? = some _ := List.getElem?_eq_getElem hl
      have := ok.inj 0 1 _ _ a0 a1 ((h _ (ok.fst 0 _ a0).1).trans (h _ (ok.fst 1 _ a1).1).symm)
      omega
    · omega
  omega
theorem ex_many : (fsts [zrow] 256).length = 1 := one_class _ 256 (by omega) fun b _ => by
  have hz : ∀ b, zrow.getD b 0 = 0 := fun b => by
    unfold zrow
    rw [List.getD_eq_getElem?_getD, List.getElem?_replicate]
    split <;> rfl
  have h1 : ∀ b, colb [zrow] b = two b zrow := fun b => by unfold colb; rw [List.flatMap_cons, List.flatMap_nil, List.append_nil]
  rw [h1, h1]
  unfold two
  rw [hz, hz]
theorem mapL_many (rows : List (List Int)) : (i64s (mapL rows)).toArray[256]? = some (.int .i64 ((fsts rows 256).length : Int)) := by
  have hl : (Mk.ints (cl rows 256)).length = 256 := by simp [Mk.ints, cl_len]
  have : (mapL rows)[256]? = some ((fsts rows 256).length : Int) := by
    unfold mapL
    rw [List.getElem?_append_right (by omega), hl]
    rfl
  simp [i64s, this]
set_option maxHeartbeats 2000000 in
set_option maxRecDepth 100000 in
theorem alive_c (w : World) : Calls Tryd.prog 15 #[] w fun e w' => e = .returned (.bool true) ∧ Below w.heap.size w w' := by
  obtain ⟨w2, hmk, own, gr⟩ := elRow.make w.heap.size w .i64 .i64 1 1 rfl (by omega) (by unfold maxLen; omega) (Nat.le_refl _)
  have hb1 : Below w.heap.size w w2 := below_made gr (Nat.le_refl _)
  rw [made_zrow] at own
  have hr1 := Rd.own own
  have n1 := Rd.new w2 #[.int .i64 (-1)] 3 (0, 0) (i64s [-1]) rfl
  have b2 := (Below.refl w2.heap.size w2).alloc (Nat.le_refl _) (.cells #[.int .i64 (-1)] 3)
  have n2 := Rd.new (w2.alloc (.cells #[.int .i64 (-1)] 3)) #[.int .i64 0] 3 (0, 0) (i64s [0]) rfl
  have b3 := (Below.refl _ (w2.alloc (.cells #[.int .i64 (-1)] 3))).alloc (Nat.le_refl _) (.cells #[.int .i64 0] 3)
  have hDf : Df ((w2.alloc (.cells #[.int .i64 (-1)] 3)).alloc (.cells #[.int .i64 0] 3)) (some ⟨w.heap.size, 0, none⟩) (some ⟨w2.heap.size, 0, none⟩) (some ⟨w2.heap.size + 1, 0, none⟩) [zrow] [-1] [0] := by
    refine ⟨fun r hr => by simp only [List.mem_singleton] at hr; subst hr; exact zrow_len, (hr1.keep b2).keep b3, n1.keep b3, ?_⟩
    rw [World.size_alloc] at n2
    exact n2
  have hof := cof_c (some ⟨w.heap.size, 0, none⟩) (some ⟨w2.heap.size, 0, none⟩) (some ⟨w2.heap.size + 1, 0, none⟩) 1 1 1 1 1 1 [zrow] [-1] [0] rfl rfl rfl (by omega) (by omega) ex_good _ hDf
  have HOf := Lib.hid hof
  have HB := Lib.hid ((hb1.trans (b2.mono hb1.size)).trans (b3.mono (Nat.le_trans hb1.size b2.size)))
  clear hof hDf own gr hr1 n1 b2 n2 b3 hb1
  go_enter Tryd.func15, Tryd.ntmps15
  go_wp2_with fail
  refine HOf.out.mono ?_
  rintro e w3 ⟨rfl, hb3⟩
  have hln : (i64s (mapL [zrow])).length = 257 := by rw [i64s_length]; exact mapL_len _
  have hst := store_map_new w3 (mapL_len [zrow])
  have hnew := heap_alloc_new w3 (.cells (i64s (mapL [zrow])).toArray 30)
  have hm := mapL_many [zrow]
  rw [ex_many] at hm
  have k0 := cell_block hnew 256
  rw [hm] at k0
  simp at k0
  have HB4 := Lib.hid ((HB.out.trans (hb3.mono HB.out.size)).alloc (HB.out.trans (hb3.mono HB.out.size)).size (.cells (i64s (mapL [zrow])).toArray 30))
  clear hb3 hm hnew
  generalize mapL [zrow] = L at *
  have hq : ∀ h, (i64s L)[256]'h = .int .i64 1 := fun h => Option.some.inj ((List.getElem?_eq_getElem h).symm.trans k0)
  go_wp2
  go_ret
  exact ⟨by first | rfl | simp, HB4.out⟩
end Cl
end Go.Proofs.YtfkjijjmphbglaaDoor
