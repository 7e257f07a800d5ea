import Derived.Test.YtpjimmdpcpcmoaaDoorQMarks
import Derived.Laws.OwnMore
import Derived.Test.YtpjimmdpcpcmoaaDoorQMod
import Derived.Test.YtpjimmdpcpcmoaaDoorRows
import Derived.Test.YtpjimmdpcpcmoaaDoorQLib
/- The walks of package marks: New, Len, After. -/
namespace Go.Proofs.YtpjimmdpcpcmoaaDoor
open Go Go.RowKit Kt
namespace Mk
variable {w w' : World} {p b n : Nat} {ws : List Nat}
theorem elU64 : El Tryd.prog 120 123 (.int .u64 0) 1 8 := ⟨Tryd.underlying120, info_parts (by kernel_rfl), rfl, by decide⟩
theorem has_zero (c m : Nat) : has (List.replicate c 0) m = false := by
  unfold has
  rw [List.getD_eq_getElem?_getD, List.getElem?_replicate]
  split <;> simp
set_option maxHeartbeats 1000000 in
set_option maxRecDepth 100000 in
theorem new_c (n c : Nat) (hn : n ≤ 65536) (hc : (n + 63) / 64 = c) (w : World) : Calls Tryd.prog 46 #[.int .i64 (n : Int)] w fun e w' => ∃ p b, e = .returned (.tuple #[.pointer (some ⟨p, 0, none⟩), .nilIface]) ∧ w.heap.size ≤ p ∧ w.heap.size ≤ b ∧ Is w' p b n (List.replicate c 0) ∧ Below w.heap.size w w' := by
  have hc1024 : c ≤ 1024 := by omega
  obtain ⟨w1, hmk, own, gr⟩ := elU64.make w.heap.size w .i64 .i64 (c : Int) c rfl (by omega) (by unfold maxLen; omega) (Nat.le_refl _)
  have hb1 : Below w.heap.size w w1 := below_made gr (Nat.le_refl _)
  have hbk : w1.heap[w.heap.size]? = some (.cells (vals (List.replicate c 0)).toArray 123 (0, 0)) := by
    rcases own.2 with ⟨h, _⟩ | ⟨g, cap, cur, hv, _, h2, h3, _, h5, h6⟩
    · cases h
    · cases hv
      rw [h2]
      congr 2
      apply Array.toList_inj.1
      have e1 : cur.toList.length = c * 1 := by simpa using h5
      rw [List.take_of_length_le (by omega)] at h6
      rw [h6]
      have e2 : ((Value.int IntKind.u64 0).cells) = #[.int .u64 0] := rfl
      rw [e2, toList_madeCells_one]
      simp [vals]
  have hlt := block_lt hbk
  have hI : Is (w1.alloc (.cells #[.slice (some ⟨w.heap.size, 0, none⟩) c c, .int .i64 (n : Int)] 122)) w1.heap.size w.heap.size n (List.replicate c 0) := by
    refine ⟨⟨c, ?_⟩, ⟨[], by rw [List.append_nil]; exact block_alloc hbk⟩, by omega, ?_, ?_, fun m _ => has_zero c m⟩
    · rw [List.length_replicate]; exact heap_alloc_new w1 _
    · intro x hx; rw [List.mem_replicate] at hx; omega
    · rw [List.length_replicate]; omega
  have hB := hb1.alloc hb1.size (.cells #[.slice (some ⟨w.heap.size, 0, none⟩) c c, .int .i64 (n : Int)] 122)
  have hs := hb1.size
  have HI := Lib.hid hI
  have HB := Lib.hid hB
  have hq : ((n : Int) + 64 - 1) / 64 = (c : Int) := by omega
  clear own gr hb1 hbk hI hB hc
  go_enter Tryd.func46, Tryd.ntmps46
  go_wp2
  go_ret2
  exact ⟨_, _, rfl, hs, Nat.le_refl _, HI.out, HB.out⟩
theorem shl_small {x s y : Nat} (hx : x < 18446744073709551616) (hy : x / 2 ^ s * 2 ^ s = y) : y < 18446744073709551616 ∧ IntKind.u64.wrap ((x : Int) / 2 ^ s * 2 ^ s) = (y : Int) := by
  have h1 : y ≤ x := by rw [← hy]; exact Nat.div_mul_le_self x (2 ^ s)
  have h2 : (x : Int) / 2 ^ s * 2 ^ s = ((x / 2 ^ s * 2 ^ s : Nat) : Int) := by rw [Int.natCast_mul, Int.natCast_ediv, Int.natCast_pow]; rfl
  rw [h2, hy, IntKind.wrap_u64]
  omega
set_option maxHeartbeats 1000000 in
set_option maxRecDepth 100000 in
/-- After(j - 1). -/
theorem after_any (i : Int) (j : Nat) (hmx : max i (-1) = (j : Int) - 1) (w : World) (h : Is w p b n ws) (hj : j ≤ 100000) (hT : Bt.Tab w) : Calls Tryd.prog 49 #[.pointer (some ⟨p, 0, none⟩), .int .i64 i] w fun e w' => (∃ r, e = .returned (.int .i64 r) ∧ Nx ws j r) ∧ w = w' := by
  have hs := size_c w h
  have ho := own_c w h
  have hL := h.fit.2.1
  obtain ⟨cap, h1⟩ := h.hp
  have c1 := cell_block h1 0
  simp at c1
  have hj1 : (j : Int) - 1 + 1 = (j : Int) := by omega
  obtain ⟨L, hLe⟩ : ∃ L, ws.length = L := ⟨_, rfl⟩
  rw [hLe] at ho hL c1
  have HL := Lib.hid hLe
  have HS := Lib.hid hs
  have HO := Lib.hid ho
  have HI := Lib.hid h
  have HT := Lib.hid hT
  clear h1 h hs ho hT hLe
  by_cases hjn : j ≤ n
  · have hin : decide ((n : Int) ≤ i) = false := by simp; omega
    obtain ⟨k0, hk0⟩ : ∃ k0, j / 64 = k0 := ⟨_, rfl⟩
    have hk0' : (j : Int) / 64 = (k0 : Int) := by omega
    have Hk0 := Lib.hid hk0
    clear hk0
    go_enter Tryd.func49, Tryd.ntmps49
    go_wp2_with fail
    refine HS.out.mono ?_
    rintro e w1 ⟨rfl, rfl⟩
    have HM := Lib.hid hmx
    clear hmx
    go_upto_region 3 with (fail)
    go_cut [1] (fun v W => v = .int .i64 (j : Int) ∧ w = W)
    case first =>
      have hmx := HM.out
      go_wp2
      all_goals
        go_meet
        case rel => exact ⟨by first | rfl | (congr 1; omega), rfl⟩
    case rest =>
    obtain ⟨rfl, rfl⟩ := hcut
    go_wp2
    go_loop [5, 6] (fun i _ => ∃ k : Nat, k ≤ 4000 ∧ j / 64 ≤ k ∧ i = .int .i64 k ∧ ∀ m, j ≤ m → m < 64 * k → has ws m = false) (fun i _ => 4000 - (intOf i).toNat)
    case atStart => exact ⟨j / 64, by omega, Nat.le_refl _, by rw [Hk0.out], fun m h1 h2 => by omega⟩
    case round =>
      obtain ⟨k, hk, hjk, rfl, hno⟩ := hrel
      have Hno := Lib.hid hno
      clear hno
      by_cases hlt : k < L
      · have hkl : k < ws.length := by rw [HL.out]; exact hlt
        have cw := HI.out.word k hkl
        have hx := HI.out.lt _ (List.getElem_mem hkl)
        have hgd : ws.getD k 0 = ws[k] := by rw [List.getD_eq_getElem?_getD, List.getElem?_eq_getElem hkl]; rfl
        by_cases hkj : k = k0
        · subst hkj
          obtain ⟨V, hV⟩ : ∃ V, ws[k] / 2 ^ (j % 64) * 2 ^ (j % 64) = V := ⟨_, rfl⟩
          obtain ⟨hV64, hshl⟩ := shl_small hx hV
          have hVd : V = if k = j / 64 then ws.getD k 0 / 2 ^ (j % 64) * 2 ^ (j % 64) else ws.getD k 0 := by rw [if_pos Hk0.out.symm, hgd, hV]
          by_cases h0 : V = 0
          · have hon := nx_on (by omega) Hno.out hVd h0
            have Hon := Lib.hid hon
            subst h0
            clear hV hVd hgd hon
            generalize ws[k] = x at *
            go_wp2_with fail
            refine HO.out.mono ?_
            rintro e w1 ⟨⟨cap, rfl⟩, rfl⟩
            go_wp2
            go_round
            case rel => exact ⟨k + 1, by omega, by omega, by go_num, Hon.out⟩
            case measure => simp [intOf]; omega
          · have hf := nx_found hkl (by rw [Hk0.out]; exact Nat.le_refl _) Hno.out hVd h0 hV64
            have HF := Lib.hid hf
            have HC := Lib.hid (Bt.ctz_c V hV64 h0 w HT.out)
            have hv0 : ((V : Int) == 0) = false := by simp; omega
            have hc := (ctz_bits h0 hV64).1
            clear hV hVd hgd hf
            generalize Lib.ctz 64 V = z at *
            generalize ws[k] = x at *
            go_wp2_with fail
            refine HO.out.mono ?_
            rintro e w1 ⟨⟨cap, rfl⟩, rfl⟩
            go_wp2_with fail
            refine HC.out.mono ?_
            rintro e w1 ⟨rfl, rfl⟩
            go_wp2
            go_ret
            exact ⟨⟨_, rfl, HF.out⟩, rfl⟩
        · have hVd : ws[k] = if k = j / 64 then ws.getD k 0 / 2 ^ (j % 64) * 2 ^ (j % 64) else ws.getD k 0 := by rw [if_neg (by rw [Hk0.out]; exact hkj), hgd]
          have hkk : ((k : Int) == (k0 : Int)) = false := by simp; omega
          by_cases h0 : ws[k] = 0
          · have hon := nx_on hjk Hno.out hVd h0
            have Hon := Lib.hid hon
            rw [h0] at cw
            clear hVd hgd hon
            go_wp2_with fail
            refine HO.out.mono ?_
            rintro e w1 ⟨⟨cap, rfl⟩, rfl⟩
            go_wp2
            go_round
            case rel => exact ⟨k + 1, by omega, by omega, by go_num, Hon.out⟩
            case measure => simp [intOf]; omega
          · have hf := nx_found hkl hjk Hno.out hVd h0 hx
            have HF := Lib.hid hf
            have HC := Lib.hid (Bt.ctz_c ws[k] hx h0 w HT.out)
            have hv0 : ((ws[k] : Int) == 0) = false := by simp; omega
            have hc := (ctz_bits h0 hx).1
            clear hVd hgd hf
            generalize ws[k] = x at *
            generalize Lib.ctz 64 x = z at *
            go_wp2_with fail
            refine HO.out.mono ?_
            rintro e w1 ⟨⟨cap, rfl⟩, rfl⟩
            go_wp2_with fail
            refine HC.out.mono ?_
            rintro e w1 ⟨rfl, rfl⟩
            go_wp2
            go_ret
            exact ⟨⟨_, rfl, HF.out⟩, rfl⟩
      · go_wp2_with fail
        refine HO.out.mono ?_
        rintro e w1 ⟨⟨cap', rfl⟩, rfl⟩
        go_wp2
        go_ret
        exact ⟨⟨_, rfl, .inl ⟨rfl, fun m h1 => by
          by_cases hm : m < 64 * k
          · exact Hno.out m h1 hm
          · exact has_out (by rw [HL.out]; omega)⟩⟩, rfl⟩
  · have hge : decide ((n : Int) ≤ i) = true := by simp; omega
    have hclr := HI.out.clear
    have HCL := Lib.hid hclr
    clear hclr
    go_enter Tryd.func49, Tryd.ntmps49
    go_wp2_with fail
    refine HS.out.mono ?_
    rintro e w1 ⟨rfl, rfl⟩
    go_wp2
    go_ret
    exact ⟨⟨_, rfl, .inl ⟨rfl, fun m hm => HCL.out m (by omega)⟩⟩, rfl⟩
end Mk
end Go.Proofs.YtpjimmdpcpcmoaaDoor

/- The walks of package marks: List, Key, Same. -/
namespace Go.Proofs.YtpjimmdpcpcmoaaDoor
open Go Go.RowKit Kt
namespace Mk
variable {w w' : World} {p b n : Nat} {ws : List Nat}
theorem elI : El Tryd.prog 38 3 (.int .i64 0) 1 8 := ⟨Tryd.underlying38, info_parts (by kernel_rfl), rfl, by decide⟩
end Mk
end Go.Proofs.YtpjimmdpcpcmoaaDoor
