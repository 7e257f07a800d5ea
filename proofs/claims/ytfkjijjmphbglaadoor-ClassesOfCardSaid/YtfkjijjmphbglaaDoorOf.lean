/- classes.of: a right DFA's classes, and a byte of each. -/
import Derived.Test.YtfkjijjmphbglaaDoorOf0
namespace Go.Proofs.YtfkjijjmphbglaaDoor
open Go Go.RowKit Kt
namespace Cl
open Sb
/-- The classes of the bytes below c. -/
def cl (rows : List (List Int)) (c : Nat) : List Nat := (st (colb rows) c).1
/-- The first byte of each class. -/
def fsts (rows : List (List Int)) (c : Nat) : List Nat := (st (colb rows) c).2
theorem cl_len (rows : List (List Int)) (c : Nat) : (cl rows c).length = c := (ok_st (colb rows) c).len
theorem fsts_len (rows : List (List Int)) (c : Nat) : (fsts rows c).length ≤ c := (ok_st (colb rows) c).many
/-- m's cells when c bytes are over. -/
def mL (rows : List (List Int)) (c : Nat) : List Int := Mk.ints (cl rows c) ++ List.replicate (257 - c) 0
theorem mL_len (rows : List (List Int)) (c : Nat) (hc : c ≤ 257) : (mL rows c).length = 257 := by simp [mL, Mk.ints, cl_len]; omega
theorem mL_set (rows : List (List Int)) (c j : Nat) (hc : c < 257) (h : cl rows (c + 1) = cl rows c ++ [j]) : (mL rows c).set c (j : Int) = mL rows (c + 1) := by
  have hl : (Mk.ints (cl rows c)).length = c := by simp [Mk.ints, cl_len]
  unfold mL
  rw [List.set_append_right _ _ (by omega), hl, Nat.sub_self, show 257 - c = (257 - (c + 1)) + 1 by omega, List.replicate_succ, List.set_cons_zero, h]
  simp [Mk.ints]
/-- A DFA's Map. -/
def mapL (rows : List (List Int)) : List Int := Mk.ints (cl rows 256) ++ [((fsts rows 256).length : Int)]
theorem mapL_eq (rows : List (List Int)) : (mL rows 256).set 256 ((fsts rows 256).length : Int) = mapL rows := by
  have hl : (Mk.ints (cl rows 256)).length = 256 := by simp [Mk.ints, cl_len]
  unfold mL mapL
  rw [List.set_append_right _ _ (by omega), hl]
  rfl
theorem mapL_len (rows : List (List Int)) : (mapL rows).length = 257 := by simp [mapL, Mk.ints, cl_len]
/-- The loop of of. -/
def OfR (w : World) (dv : Array Value) (rows : List (List Int)) (o i : Value) (W : World) : Prop := ∃ (c n : Nat) (a : Option Addr) (k cap : Nat), c ≤ 256 ∧ n ≤ c ∧ i = .int .i64 (c : Int) ∧ o = .slice a k cap ∧
  Os w dv (mL rows c) (known (colb rows) c) n (fsts rows c) a k cap W
set_option maxHeartbeats 8000000 in
set_option maxRecDepth 100000 in
theorem of_c (ra ua ea : Option Addr) (rn rc un uc en ec : Nat) (rows : List (List Int)) (rule entry : List Int) (hrn : rows.length = rn) (h200 : rn ≤ 200) (hto : ∀ r ∈ rows, r.any (oth rows.length) = false) (w : World) (h : Df w ra ua ea rows rule entry) :
    Calls Tryd.prog 82 #[.agg #[.slice ra rn rc, .slice ua un uc, .slice ea en ec]] w fun e w' => ∃ a cap, e = .returned (.tuple #[.agg (i64s (mapL rows)).toArray, .slice a (fsts rows 256).length cap]) ∧ Rd w' a (i64s (Mk.ints (fsts rows 256))) ∧ Below w.heap.size w w' := by
  obtain ⟨dv, hdv⟩ : ∃ dv : Array Value, dv = #[.slice ra rn rc, .slice ua un uc, .slice ea en ec] := ⟨_, rfl⟩
  have H0 : Hid (Os w dv (mL rows 0) (known (colb rows) 0) 0 (fsts rows 0) none 0 0 ((((w.alloc (.cells #[.slice ra rn rc, .slice ua un uc, .slice ea en ec] 25)).alloc (.cells Tryd.zeroCells30 30)).alloc (.cells Tryd.zeroCells30 30)).alloc (.map #[] 0))) := by
    refine Lib.hid ?_
    have b1 := heap_alloc_new w (.cells #[.slice ra rn rc, .slice ua un uc, .slice ea en ec] 25)
    have b2 := heap_alloc_new (w.alloc (.cells #[.slice ra rn rc, .slice ua un uc, .slice ea en ec] 25)) (.cells Tryd.zeroCells30 30)
    have b3 := heap_alloc_new ((w.alloc (.cells #[.slice ra rn rc, .slice ua un uc, .slice ea en ec] 25)).alloc (.cells Tryd.zeroCells30 30)) (.cells Tryd.zeroCells30 30)
    have b4 := MapS.made (((w.alloc (.cells #[.slice ra rn rc, .slice ua un uc, .slice ea en ec] 25)).alloc (.cells Tryd.zeroCells30 30)).alloc (.cells Tryd.zeroCells30 30)) Tryd.prog 9 3
    (try simp only [World.size_alloc] at b2 b3 b4)
    refine ⟨?_, block_alloc (block_alloc b2), ?_, b4, rfl, ⟨rfl, .inl ⟨rfl, rfl⟩⟩, ?_⟩
    · rw [hdv]; exact block_alloc (block_alloc (block_alloc b1))
    · have e : (i64s (mL rows 0)).toArray = Tryd.zeroCells30 := by rw [zc30]; rfl
      rw [e]
      exact block_alloc b3
    · exact ((((Below.refl _ w).alloc (Nat.le_refl _) _).alloc (by simp) _).alloc (by simp; omega) _).alloc (by simp; omega) _
  have H := Lib.hid h
  have Hrn := Lib.hid hrn
  have Hto := Lib.hid hto
  have Hdv := Lib.hid hdv
  clear h hrn hto hdv
  go_enter Tryd.func82, Tryd.ntmps82
  have hmm := @run_makeMap Tryd.prog
  go_wp2
  clear hmm

  go_loopw [5, 7, 8, 9, 10, 12] (fun o _ _ _ _ i W => OfR w dv rows o i W) (fun _ _ _ _ _ i _ => 256 - (intOf i).toNat)
  case atStart => exact ⟨0, 0, none, 0, 0, by omega, Nat.le_refl _, rfl, rfl, H0.out⟩
  case round =>
    clear H0
    obtain ⟨c, n, a, k, cap, hc, hn, rfl, rfl, hO⟩ := hrel
    by_cases hlt : c < 256
    · have hd : decide ((c : Int) < 256) = true := by simp; omega
      have hcI : (c : Int) < 256 := by omega
      have hkc : k ≤ 256 := by have := hO.len; have := fsts_len rows c; omega
      have hdd := hO.d
      rw [Hdv.out] at hdd
      have i0 := cell_block hdd 0
      have i1 := cell_block hdd 1
      have i2 := cell_block hdd 2
      simp at i0 i1 i2
      have hcol := column_c ra ua ea rn rc un uc en ec rows rule entry Hrn.out h200 Hto.out c hlt wr (H.out.below hO.below)
      have HC := Lib.hid hcol
      have HO := Lib.hid hO
      clear hcol hO hdd
      go_wp2_with fail
      refine HC.out.mono ?_
      rintro e w2 ⟨rfl, hb2⟩
      have hO2 := HO.out.step hb2
      have hsl : (colb rows c).length ≤ maxLen := by rw [colb_len, Hrn.out]; unfold maxLen; omega
      have hlk := hO2.kn.get Tryd.underlying186 Tryd.underlying9 Tryd.underlying3 (by simp [go_sem]) (colb rows c) hsl
      cases hg : known (colb rows) c (colb rows c) with
      | some j =>
        rw [hg] at hlk
        have e1 := known_some hg
        have hcl : cl rows (c + 1) = cl rows c ++ [j] := by unfold cl; rw [e1]
        have hfs : fsts rows (c + 1) = fsts rows c := by unfold fsts; rw [e1]
        have hset := hO2.cls c j
        rw [mL_set rows c j (by omega) hcl, ← hfs, ← known_same hg] at hset
        have k0 := cell_block hO2.m c
        have k1 := frozen_block hO2.m c
        have k2 : (i64s (mL rows c)).toArray[c]? = some (.int .i64 ((mL rows c)[c]'(by rw [mL_len _ _ (by omega)]; omega))) := by
          simp [i64s, mL_len rows c (by omega)]
        rw [k2] at k0
        generalize (mL rows c)[c]'(by rw [mL_len _ _ (by omega)]; omega) = old at k0
        have HS := Lib.hid hset
        clear hO2 hset hcl hfs e1 hg HC HO hb2 i0 i1 i2 k2 hsl
        simp only [Option.getD_some, Option.isSome_some] at hlk
        go_wp2
        go_roundw
        case rel => first | exact ⟨c + 1, n, a, k, cap, by omega, by omega, by go_num, rfl, HS.out⟩ | ((repeat apply Exists.intro); refine ⟨?r, ?f⟩; (case f => (and_intros <;> rfl)); exact ⟨c + 1, n, a, k, cap, by omega, by omega, by go_num, rfl, HS.out⟩)
        case measure => simp [intOf]; omega
      | none =>
        rw [hg] at hlk
        have e1 := known_none hg
        have hkl : (st (colb rows) c).2.length = k := hO2.len
        rw [hkl] at e1
        have hcl : cl rows (c + 1) = cl rows c ++ [k] := by unfold cl; rw [e1]
        have hfs : fsts rows (c + 1) = fsts rows c ++ [c] := by unfold fsts; rw [e1]
        have hkn := known_new hg
        rw [hkl] at hkn
        obtain ⟨w3, hup, hO3⟩ := hO2.known (by omega) (colb rows c) hsl k (by omega)
        rw [← hkn] at hO3
        obtain ⟨a4, c4, w4, hrun, hO4⟩ := hO3.push (by omega) c
        rw [← hfs] at hO4
        have hset := hO4.cls c k
        rw [mL_set rows c k (by omega) hcl] at hset
        have k0 := cell_block hO4.m c
        have k1 := frozen_block hO4.m c
        have k2 : (i64s (mL rows c)).toArray[c]? = some (.int .i64 ((mL rows c)[c]'(by rw [mL_len _ _ (by omega)]; omega))) := by
          simp [i64s, mL_len rows c (by omega)]
        rw [k2] at k0
        generalize (mL rows c)[c]'(by rw [mL_len _ _ (by omega)]; omega) = old at k0
        have HS := Lib.hid hset
        clear hO2 hO3 hO4 hset hcl hfs e1 hg HC HO hb2 i0 i1 i2 k2 hsl hkn hkl
        simp only [Option.getD_none, Option.isSome_none] at hlk
        go_wp2_with (at_builtin; (with_reducible apply wpList_append_run hrun); rfl; rfl; rfl; rfl; rfl)
        go_roundw
        case rel => first | exact ⟨c + 1, n + 1, a4, k + 1, c4, by omega, by omega, by go_num, rfl, HS.out⟩ | ((repeat apply Exists.intro); refine ⟨?r, ?f⟩; (case f => (and_intros <;> rfl)); exact ⟨c + 1, n + 1, a4, k + 1, c4, by omega, by omega, by go_num, rfl, HS.out⟩)
        case measure => simp [intOf]; omega
    · have hcc : c = 256 := by omega
      subst hcc
      have hd : decide (((256 : Nat) : Int) < 256) = false := by decide
      have hlen := hO.len
      have hset := hO.cls 256 k
      have e1 : (mL rows 256).set 256 (k : Int) = mapL rows := by rw [← hlen]; exact mapL_eq rows
      rw [e1] at hset
      have k0 := cell_block hO.m 256
      have k1 := frozen_block hO.m 256
      have k2 : (i64s (mL rows 256)).toArray[256]? = some (.int .i64 ((mL rows 256)[256]'(by rw [mL_len _ _ (by omega)]; omega))) := by
        simp [i64s, mL_len rows 256 (by omega)]
      rw [k2] at k0
      generalize (mL rows 256)[256]'(by rw [mL_len _ _ (by omega)]; omega) = old at k0
      obtain ⟨W5, hW5⟩ : ∃ W5, wr.setCell ⟨w.heap.size + 1 + 1, 256, none⟩ (.int .i64 (k : Int)) = W5 := ⟨_, rfl⟩
      rw [hW5] at hset
      have hl := hset.load (mapL_len rows)
      have hln : (i64s (mapL rows)).length = 257 := by rw [i64s_length]; exact mapL_len rows
      have hst := store_map hset.res (by rw [zc30]; simp [i64s_length]) (mapL_len rows)
      have hrb := setRow_heap W5 _ _ (i64s (mapL rows)).toArray _ _ hset.res
      have hB6 := below_setRow hset.below (Nat.le_succ _) (i64s (mapL rows)).toArray
      have hfr : Rd (W5.setRow (w.heap.size + 1) (i64s (mapL rows)).toArray) a (i64s (Mk.ints (fsts rows 256))) := by
        have := Rd.own hset.own
        refine this.mod (S := [w.heap.size + 1]) ⟨hB6.os.trans hset.below.os.symm, hB6.tape.trans hset.below.tape.symm, hB6.output.trans hset.below.output.symm, by simp [World.setRow], fun q hq hn => setRow_other _ _ _ _ (by simpa using hn)⟩ (fun p hp hm => by
          have := (hset.own.lt p.block (by rw [hp]; rfl)).1
          simp at hm
          omega)
      have hlv := run_loadVar_row (P := Tryd.prog) _ _ _ 30 _ _ _ hrb Tryd.underlying30 rfl (by rw [info30]; simp [i64s_length, mapL_len])
      have HLv := Lib.hid hlv
      have HW5 := Lib.hid hW5
      have HFr := Lib.hid hfr
      have HB6 := Lib.hid hB6
      have Hlen := Lib.hid hlen
      clear hset hfr hB6 hrb hW5 hO e1 k2 hlv hlen
      go_wp2_with fail
      rw [HW5.out]
      refine wp_load_run hl rfl rfl ?_
      go_wp2
      (try simp only [Exit.inBlock, Exit.then])
      refine bodyPost_ret (v := .tuple #[.agg (i64s (mapL rows)).toArray, .slice a k cap]) ?_ rfl ?_
      · rw [results_cell_tmp (p := 2) (u := 3) (ty := 30) rfl]
        simp [asAddr, HLv.out, Result.andThen]
      · exact ⟨a, cap, by rw [Hlen.out], HFr.out, HB6.out⟩
end Cl
end Go.Proofs.YtfkjijjmphbglaaDoor
