/- dofferlaw22.ClassesParts returns true. Condition: the table of TrailingZeros64 reads as laid. -/
import Derived.Test.YtfkjijjmphbglaaDoorClsFew
import Derived.Test.YtfkjijjmphbglaaDoorClsBytes
import Derived.Test.YtfkjijjmphbglaaDoorClsParts0
import Derived.Test.YtfkjijjmphbglaaDoorSetsN
namespace Go.Proofs.YtfkjijjmphbglaaDoor
open Go Go.RowKit Kt
namespace Cl
open Sb St
theorem cl_getD (rows : List (List Int)) (c : Nat) (hc : c < 256) : (Mk.ints (cl rows 256)).getD c 0 = ((klass rows c : Nat) : Int) := by
  have h2 : c < (cl rows 256).length := by rw [cl_len]; exact hc
  unfold klass Mk.ints
  simp [List.getD_eq_getElem?_getD, h2]
theorem all_byts {rows : List (List Int)} {k : Int} {rs : List Nat} (h : IsSet rs (fun c => decide ((Mk.ints (cl rows 256)).getD c 0 = k))) : Mk.all rs = byts rows k := by
  rw [all_spec h]
  unfold byts
  exact List.filter_congr fun c hc => by rw [cl_getD rows c (by simpa using hc)]
/-- How many bytes the first k classes have. -/
def sumB (rows : List (List Int)) (k : Nat) : Nat := ((List.range k).map fun (j : Nat) => (byts rows (j : Int)).length).sum
theorem sumB_step (rows : List (List Int)) (k : Nat) : sumB rows (k + 1) = sumB rows k + (byts rows (k : Int)).length := by
  unfold sumB
  rw [List.range_succ, List.map_append, List.sum_append]
  simp
theorem sumB_le (rows : List (List Int)) (k : Nat) : sumB rows k ≤ 256 := by
  unfold sumB
  rw [byts_sum]
  exact Nat.le_trans (List.length_filter_le _ _) (by rw [List.length_range]; exact Nat.le_refl _)
/-- The least byte of the class before. -/
def lastB (rows : List (List Int)) : Nat → Int
  | 0 => -1
  | k + 1 => (((fsts rows 256).getD k 0 : Nat) : Int)
theorem lastB_lt (rows : List (List Int)) (k : Nat) (hk : k < (fsts rows 256).length) : lastB rows k < (((fsts rows 256).getD k 0 : Nat) : Int) := by
  cases k with
  | zero => show (-1 : Int) < _; omega
  | succ k =>
    have := fsts_rise rows (i := k) (j := k + 1) (by omega) hk
    show (((fsts rows 256).getD k 0 : Nat) : Int) < _
    rw [List.getD_eq_getElem?_getD, List.getD_eq_getElem?_getD, List.getElem?_eq_getElem hk, List.getElem?_eq_getElem (by omega)]
    simp only [Option.getD_some]
    omega
set_option maxRecDepth 100000 in
theorem nth_byts (rows : List (List Int)) (k : Nat) (hk : k < (fsts rows 256).length) : nthOf (byts rows (k : Int)) 0 = (((fsts rows 256).getD k 0 : Nat) : Int) := by
  have h := byts_head rows k hk
  rw [List.getElem?_eq_getElem hk] at h
  rw [List.getD_eq_getElem?_getD, List.getElem?_eq_getElem hk, Option.getD_some]
  cases hb : byts rows (k : Int) with
  | nil => rw [hb] at h; cases h
  | cons x l =>
    rw [hb] at h
    simp only [List.head?_cons, Option.some.injEq] at h
    rw [← h]
    exact nth_in (x :: l) 0 x rfl
def PaR (w : World) (D M : Nat) (dv : Array Value) (rows : List (List Int)) (N : Nat) (many last i : Value) (W : World) : Prop :=
  ∃ k : Nat, k ≤ N ∧ i = .int .i64 (k : Int) ∧ many = .int .i64 (sumB rows k : Nat) ∧ last = .int .i64 (lastB rows k) ∧ Fw w D M dv (mapL rows) W
set_option maxHeartbeats 8000000 in
set_option maxRecDepth 100000 in
theorem parts_c (ra ua ea : Option Addr) (rn rc un uc en ec : Nat) (rows : List (List Int)) (rule entry : List Int) (hrn : rows.length = rn) (hun : rule.length = un) (hen : entry.length = en) (h1 : rn ≤ 9223372036854775807) (h2 : un ≤ 9223372036854775807) (h3 : en ≤ 9223372036854775807) (w : World) (h : Df w ra ua ea rows rule entry) (hT : Bt.Tab w) :
    Calls Tryd.prog 6 #[.agg #[.slice ra rn rc, .slice ua un uc, .slice ea en ec]] w fun e w' => e = .returned (.bool true) ∧ Below w.heap.size w w' := by
  obtain ⟨dv, hdv⟩ : ∃ dv : Array Value, dv = #[.slice ra rn rc, .slice ua un uc, .slice ea en ec] := ⟨_, rfl⟩
  have hD0 := heap_alloc_new w (.cells #[.slice ra rn rc, .slice ua un uc, .slice ea en ec] 25)
  have hB0 := (Below.refl w.heap.size w).alloc (Nat.le_refl _) (.cells #[.slice ra rn rc, .slice ua un uc, .slice ea en ec] 25)
  have HA := Lib.hid (alive_c (w.alloc (.cells #[.slice ra rn rc, .slice ua un uc, .slice ea en ec] 25)))
  have H := Lib.hid h
  have Hrn := Lib.hid hrn
  have Hun := Lib.hid hun
  have Hen := Lib.hid hen
  have HD0 := Lib.hid hD0
  have HB0 := Lib.hid hB0
  have Hdv := Lib.hid hdv
  have HT := Lib.hid hT
  clear h hrn hun hen hD0 hB0 hdv hT
  go_enter Tryd.func6, Tryd.ntmps6
  go_wp2_with fail
  refine HA.out.mono ?_
  rintro e w2 ⟨rfl, hb2⟩
  have hD2 := (hb2.block _ (block_lt HD0.out)).trans HD0.out
  have hB2 := HB0.out.trans (hb2.mono HB0.out.size)
  have i0 := cell_block hD2 0
  have i1 := cell_block hD2 1
  have i2 := cell_block hD2 2
  simp at i0 i1 i2
  have HD2 := Lib.hid hD2
  have HB2 := Lib.hid hB2
  clear hb2 hD2 hB2 HA
  by_cases h30 : rn ≤ 30
  · have hd : decide (30 < (rn : Int)) = false := by simp; omega
    have hrg := right_c ra ua ea rn rc un uc en ec rows rule entry Hrn.out Hun.out Hen.out h1 h2 h3 _ (H.out.below HB2.out)
    have HR := Lib.hid hrg
    clear hrg
    go_wp2_with fail
    refine HR.out.mono ?_
    rintro e w3 ⟨⟨v, rfl, hv⟩, hb3⟩
    have hD3 := (hb3.block _ (block_lt HD2.out)).trans HD2.out
    have hB3 := HB2.out.trans (hb3.mono HB2.out.size)
    have i0 := cell_block hD3 0
    have i1 := cell_block hD3 1
    have i2 := cell_block hD3 2
    simp at i0 i1 i2
    have HD3 := Lib.hid hD3
    have HB3 := Lib.hid hB3
    have Hv := Lib.hid hv
    clear hb3 hD3 hB3 HR hv
    cases v with
    | false =>
      go_wp2
      go_ret
      exact ⟨rfl, HB3.out⟩
    | true =>
      have hG := Hv.out.1 rfl
      have hof := cof_c ra ua ea rn rc un uc en ec rows rule entry Hrn.out Hun.out Hen.out h2 h3 hG _ (H.out.below HB3.out)
      have HOf := Lib.hid hof
      clear hof hG Hv
      go_wp2_with fail
      refine HOf.out.mono ?_
      rintro e w4 ⟨rfl, hb4⟩
      have hD4 := (hb4.block _ (block_lt HD3.out)).trans HD3.out
      have hB4 := HB3.out.trans (hb4.mono HB3.out.size)
      have hln : (i64s (mapL rows)).length = 257 := by rw [i64s_length]; exact mapL_len _
      have hst := store_map_new w4 (mapL_len rows)
      have hnew := heap_alloc_new w4 (.cells (i64s (mapL rows)).toArray 30)
      have hF0 : Fw w w.heap.size w4.heap.size dv (mapL rows) (w4.alloc (.cells (i64s (mapL rows)).toArray 30)) := ⟨by rw [Hdv.out]; exact block_alloc hD4, hnew, hB4.alloc hB4.size _⟩
      obtain ⟨N, hN⟩ : ∃ N, (fsts rows 256).length = N := ⟨_, rfl⟩
      have hmm := mapL_many rows
      rw [hN] at hmm
      have k0 := cell_block hnew 256
      rw [hmm] at k0
      have hN256 : N ≤ 256 := by rw [← hN]; exact fsts_many rows
      have hmany : mapL rows = Mk.ints (cl rows 256) ++ [(N : Int)] := by unfold mapL; rw [hN]
      have hlenC : (Mk.ints (cl rows 256)).length = 256 := by simp [Mk.ints, cl_len]
      have hby := fun cls W => bytes_c (Mk.ints (cl rows 256)) (N : Int) cls hlenC W
      rw [← hmany] at hby
      have HBy := Lib.hid hby
      have HF0 := Lib.hid hF0
      have HN := Lib.hid hN
      have Hst := Lib.hid hst
      have Hln := Lib.hid (mapL_len rows)
      obtain ⟨W5, hW5⟩ : ∃ W5, w4.alloc (.cells (i64s (mapL rows)).toArray 30) = W5 := ⟨_, rfl⟩
      have HW5 := Lib.hid hW5
      have hq : ∀ h, (i64s (mapL rows))[256]'h = .int .i64 (N : Int) := fun h => Option.some.inj ((List.getElem?_eq_getElem h).symm.trans (by simpa using hmm))
      clear hb4 hD4 hB4 hF0 i0 i1 i2 HOf hN hmany hlenC hnew hmm hW5 hby
      go_wp2
      rw [HW5.out]
      have HF5 := HF0.out
      rw [HW5.out] at HF5
      have HF5 := Lib.hid HF5
      go_loopw [5, 6, 7, 8, 29] (fun many last _ _ i W => PaR w w.heap.size w4.heap.size dv rows N many last i W) (fun _ _ _ _ i _ => N - (intOf i).toNat)
      case atStart => exact ⟨0, by omega, rfl, rfl, rfl, HF5.out⟩
      case round =>
        clear hst hq hln k0 HF5 HF0 Hst
        obtain ⟨k, hk, rfl, rfl, rfl, hF⟩ := hrel
        have hs := sumB_le rows k
        by_cases hlt : k < N
        · have hd : decide ((k : Int) < (N : Int)) = true := by simp; omega
          have hkf : k < (fsts rows 256).length := by rw [HN.out]; exact hlt
          have hl := load_map Hln.out hF.m
          have hne := byts_ne rows k hkf
          have hnth := nth_byts rows k hkf
          have hlast := lastB_lt rows k hkf
          have hstep := sumB_step rows k
          have hs2 := sumB_le rows (k + 1)
          have hnx : lastB rows (k + 1) = (((fsts rows 256).getD k 0 : Nat) : Int) := rfl
          have HF := Lib.hid hF
          have Hne := Lib.hid hne
          have Hnth := Lib.hid hnth
          have Hnx := Lib.hid hnx
          have Hstep := Lib.hid hstep
          clear hF hne hnth hnx hstep
          generalize ((fsts rows 256).getD k 0 : Nat) = F at *
          generalize hLa : lastB rows k = la at *
          generalize hS1 : sumB rows k = s1 at *
          generalize hS2 : sumB rows (k + 1) = s2 at *
          have HS2 := Lib.hid hS2
          have hsl : s1 + (byts rows (k : Int)).length ≤ 256 := by rw [← Hstep.out]; exact hs2
          clear hLa hS1 hS2
          go_wp2_with fail
          refine wp_load_run hl rfl rfl ?_
          go_wp2_with fail
          refine (HBy.out _ _).mono ?_
          rintro e w6 ⟨rs, rfl, hrs, hb6⟩
          have hall := all_byts hrs
          have hF6 := HF.out.step hb6
          have hTw := fun W (hb : Below w.heap.size w W) => HT.out.below hb
          have HE := Lib.hid fun W => empty_c rs _ hrs W
          have HLe := Lib.hid fun W (hb : Below w.heap.size w W) => least_c rs _ hrs W (hTw W hb)
          have HLn := Lib.hid fun W => len_c rs _ hrs W
          rw [hall] at HE HLe HLn
          rw [Hnth.out] at HLe
          have hdn : decide (byts rows (k : Int) = []) = false := by simpa using Hne.out
          rw [hdn] at HE
          obtain ⟨r0, r1, r2, r3, rfl⟩ := four hrs.len
          simp only [sv, St.vals, List.map_cons, List.map_nil] at HE HLe HLn ⊢
          have hnewS := heap_alloc_new w6 (.cells #[.int .u64 (r0 : Int), .int .u64 (r1 : Int), .int .u64 (r2 : Int), .int .u64 (r3 : Int)] 56)
          have hF7 := hF6.step ((Below.refl w6.heap.size w6).alloc (Nat.le_refl _) (.cells #[.int .u64 (r0 : Int), .int .u64 (r1 : Int), .int .u64 (r2 : Int), .int .u64 (r3 : Int)] 56))
          obtain ⟨W7, hW7⟩ : ∃ W7, w6.alloc (.cells #[.int .u64 (r0 : Int), .int .u64 (r1 : Int), .int .u64 (r2 : Int), .int .u64 (r3 : Int)] 56) = W7 := ⟨_, rfl⟩
          rw [hW7] at hF7 hnewS
          have hul := block_lt hnewS
          have sk : ∀ W, Below W7.heap.size W7 W → (W.heap[w6.heap.size]? = some (.cells #[.int .u64 (r0 : Int), .int .u64 (r1 : Int), .int .u64 (r2 : Int), .int .u64 (r3 : Int)] 56 (0, 0))) := fun W hb => (hb.block _ hul).trans hnewS
          have SK := Lib.hid sk
          have HW7 := Lib.hid hW7
          have HF7 := Lib.hid hF7
          have i0 := cell_block (SK.out _ (Below.refl _ _)) 0
          have i1 := cell_block (SK.out _ (Below.refl _ _)) 1
          have i2 := cell_block (SK.out _ (Below.refl _ _)) 2
          have i3 := cell_block (SK.out _ (Below.refl _ _)) 3
          simp at i0 i1 i2 i3
          clear hb6 hF6 hTw hrs hall hnewS hF7 hW7 hul sk hdn hl Hne Hnth
          generalize (byts rows (k : Int)).length = ln at *
          have hle : decide ((F : Int) ≤ la) = false := by simp; omega
          go_wp2_with fail
          rw [HW7.out]
          go_wp2_with fail
          refine (HE.out _).mono ?_
          rintro e w8 ⟨rfl, hb8⟩
          have i0 := cell_block (SK.out _ hb8) 0
          have i1 := cell_block (SK.out _ hb8) 1
          have i2 := cell_block (SK.out _ hb8) 2
          have i3 := cell_block (SK.out _ hb8) 3
          simp at i0 i1 i2 i3
          go_wp2_with fail
          refine (HLe.out _ (HF7.out.step hb8).below).mono ?_
          rintro e w9 ⟨rfl, hb9⟩
          have hb9 := hb8.trans (hb9.mono hb8.size)
          have i0 := cell_block (SK.out _ hb9) 0
          have i1 := cell_block (SK.out _ hb9) 1
          have i2 := cell_block (SK.out _ hb9) 2
          have i3 := cell_block (SK.out _ hb9) 3
          simp at i0 i1 i2 i3
          go_wp2_with fail
          refine (HLe.out _ (HF7.out.step hb9).below).mono ?_
          rintro e w10 ⟨rfl, hb10⟩
          have hb10 := hb9.trans (hb10.mono hb9.size)
          have i0 := cell_block (SK.out _ hb10) 0
          have i1 := cell_block (SK.out _ hb10) 1
          have i2 := cell_block (SK.out _ hb10) 2
          have i3 := cell_block (SK.out _ hb10) 3
          simp at i0 i1 i2 i3
          go_wp2_with fail
          refine (HLn.out _).mono ?_
          rintro e w11 ⟨rfl, hb11⟩
          have hb11 := hb10.trans (hb11.mono hb10.size)
          go_wp2
          go_roundw
          case rel =>
            refine ⟨k + 1, hlt, ?_, ?_, ?_, ?_⟩
            · go_num
            · rw [HS2.out, Hstep.out, Int.natCast_add]
            · rw [Hnx.out]
            · exact HF7.out.step hb11
          case measure => simp [intOf]; omega
        · have hkN : k = N := by omega
          subst hkN
          have hd : decide ((k : Int) < (k : Int)) = false := by simp
          have hsum : sumB rows k = 256 := by
            unfold sumB
            rw [← HN.out]
            exact byts_all rows
          have hl := load_map Hln.out hF.m
          have hmm := mapL_many rows
          rw [HN.out] at hmm
          have k0 := cell_block hF.m 256
          rw [hmm] at k0
          have hq : ∀ h, (i64s (mapL rows))[256]'h = .int .i64 (k : Int) := fun h => Option.some.inj ((List.getElem?_eq_getElem h).symm.trans (by simpa using hmm))
          have HF := Lib.hid hF
          have o1 := byts_out rows (k : Int) (.inr (by rw [HN.out]; omega))
          have o2 := byts_out rows (-1) (.inl (by omega))
          have Ho1 := Lib.hid o1
          have Ho2 := Lib.hid o2
          rw [hsum]
          clear hF hsum hs hmm o1 o2
          go_wp2_with fail
          refine wp_load_run hl rfl rfl ?_
          go_wp2_with fail
          refine (HBy.out _ _).mono ?_
          rintro e w6 ⟨rs, rfl, hrs, hb6⟩
          have HE := Lib.hid (empty_c rs _ hrs w6)
          rw [all_byts hrs, Ho1.out] at HE
          clear hrs
          go_wp2_with fail
          refine HE.out.mono ?_
          rintro e w7 ⟨rfl, hb7⟩
          have hb7 := hb6.trans (hb7.mono hb6.size)
          have hl := load_map Hln.out (HF.out.step hb7).m
          go_wp2_with fail
          refine wp_load_run hl rfl rfl ?_
          go_wp2_with fail
          refine (HBy.out _ _).mono ?_
          rintro e w8 ⟨rs, rfl, hrs, hb8⟩
          have hb8 := hb7.trans (hb8.mono hb7.size)
          have HE := Lib.hid (empty_c rs _ hrs w8)
          rw [all_byts hrs, Ho2.out] at HE
          clear hrs
          go_wp2_with fail
          refine HE.out.mono ?_
          rintro e w9 ⟨rfl, hb9⟩
          have hb9 := hb8.trans (hb9.mono hb8.size)
          go_wp2
          go_ret
          exact ⟨by first | rfl | simp, (HF.out.step hb9).below⟩
  · have hd : decide (30 < (rn : Int)) = true := by simp; omega
    go_wp2
    go_ret
    exact ⟨rfl, HB2.out⟩
end Cl
end Go.Proofs.YtfkjijjmphbglaaDoor
