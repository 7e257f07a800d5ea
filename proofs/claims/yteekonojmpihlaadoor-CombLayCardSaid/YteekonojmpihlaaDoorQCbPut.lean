/- Package comb: put. -/
import Derived.Test.YteekonojmpihlaaDoorQCbPut3
import Derived.Test.YteekonojmpihlaaDoorQRegT
import Derived.BigRegion
import Derived.Deep.RegionHeld3
namespace Go.Proofs.YteekonojmpihlaaDoor
namespace Kt
end Kt
open Go Go.RowKit Kt
namespace Cb
/-- The number in a cell. -/
def cellN (W : World) (b : Nat) : Nat := match W.cell? ⟨b, 0, none⟩ with | some (.int _ x) => x.toNat | _ => 0
/-- The length of the slice in a cell. -/
def cellL (W : World) (b i : Nat) : Nat := match W.cell? ⟨b, i, none⟩ with | some (.slice _ n _) => n | _ => 0
/-- What is laid when k of a row's places are. -/
def putS (st : Ly) (i b : Nat) (nums : List Int) (ps : List Nat) : Ly := { base := st.base.set i (b : Int), check := (putL st.check st.next i b nums ps).1, next := (putL st.check st.next i b nums ps).2 }
theorem layS_eq (rows : List (List Int)) (st : Ly) (i : Nat) : layS rows st i = putS st i (baseOf st.check (ownL (rows.getD i []))) (rows.getD i []) (ownL (rows.getD i [])) := rfl
theorem putS_snoc (st : Ly) (i b : Nat) (nums : List Int) (ps : List Nat) (p : Nat) : putS st i b nums (ps ++ [p]) = { base := st.base.set i (b : Int), check := (padI (putS st i b nums ps).check (b + p + 1) (-1)).set (b + p) (i : Int), next := (padI (putS st i b nums ps).next (b + p + 1) 0).set (b + p) (nums.getD p 0) } := by
  unfold putS
  rw [putL_snoc]
  rfl
set_option maxRecDepth 100000 in
set_option maxHeartbeats 8000000 in
theorem put_c (w2 : World) (C B n : Nat) (wd : Int) (dv : Value) (st : Ly) (m : Nat) (a3 : Option Addr) (c3 : Nat) (a4 : Option Addr) (c4 : Nat) (W : World) (i : Nat) (hi : i < n) (hm : m ≤ 60000) (nums : List Int) (na : Option Addr) (nl nc : Nat) (hnl : nums.length = nl) (ps : List Nat) (pa : Option Addr) (pl pc : Nat) (hpl : ps.length = pl) (hpl2 : pl ≤ 1000)
    (hps : ∀ p ∈ ps, p < 256 ∧ p < nl) (hrn : ∀ V, Mod [C, B] w2 V → Rd V na (i64s nums)) (hrp : ∀ V, Mod [C, B] w2 V → Rd V pa (i64s (ints ps))) (h : Pm w2 C B n wd dv [] st m a3 c3 a4 c4 W) :
    Calls Tryd.prog 78 #[.pointer (some ⟨C, 0, none⟩), .int .i64 (i : Int), .slice na nl nc, .slice pa pl pc] W fun e w' => e = .returned (.tuple #[]) ∧ ∃ m' a3' c3' a4' c4', m' ≤ m + 256 ∧ Pm w2 C B n wd dv [] (putS st i (baseOf st.check ps) nums ps) m' a3' c3' a4' c4' w' := by
  obtain ⟨bb, hbb⟩ : ∃ bb, baseOf st.check ps = bb := ⟨_, rfl⟩
  rw [hbb]
  have HBB := Lib.hid hbb
  clear hbb
  obtain ⟨W2, hW2⟩ : ∃ W2, (W.alloc (.cells #[.pointer (some ⟨C, 0, none⟩)] 152 (0, 0))).alloc (.cells #[.int .i64 0] 3 (0, 0)) = W2 := ⟨_, rfl⟩
  have b2 : Below W.heap.size W W2 := by rw [← hW2]; exact ((Below.refl _ _).alloc (Nat.le_refl _) _).alloc (by simp) _
  have s0 : W2.heap[W.heap.size]? = some (.cells #[.pointer (some ⟨C, 0, none⟩)] 152 (0, 0)) := by rw [← hW2]; exact block_alloc (heap_alloc_new W _)
  have s1 : W2.heap[W.heap.size + 1]? = some (.cells #[.int .i64 0] 3 (0, 0)) := by
    rw [← hW2]
    have h := heap_alloc_new (W.alloc (.cells #[.pointer (some ⟨C, 0, none⟩)] 152 (0, 0))) (.cells #[.int .i64 0] 3 (0, 0))
    rw [World.size_alloc] at h
    exact h
  have hsz : W2.heap.size = W.heap.size + 2 := by rw [← hW2]; simp
  obtain ⟨P0, hP0⟩ : ∃ P, W.heap.size = P := ⟨_, rfl⟩
  obtain ⟨P1, hP1⟩ : ∃ P, P0 + 1 = P := ⟨_, rfl⟩
  have hp2 : Pm w2 C B n wd dv ([P0, P1] ++ []) st m a3 c3 a4 c4 W2 := h.more b2 (fun y hy => by simp at hy; omega)
  rw [List.append_nil] at hp2
  rw [hP0] at s0
  rw [hP0, hP1] at s1
  have h01 : P0 ≠ P1 := by omega
  have HW2 := Lib.hid hW2
  have HP2 := Lib.hid hp2
  have HS0 := Lib.hid s0
  have HS1 := Lib.hid s1
  have HB2 := Lib.hid b2
  have HRN := Lib.hid hrn
  have HRP := Lib.hid hrp
  have HPS := Lib.hid hps
  have HNL := Lib.hid hnl
  have HPL := Lib.hid hpl
  have HP0 := Lib.hid hP0
  have HP1 := Lib.hid hP1
  have H01 := Lib.hid h01
  clear hW2 hp2 s0 s1 b2 hrn hrp hps hnl hpl h hsz h01 hP0 hP1
  go_enter Tryd.func78, Tryd.ntmps78
  go_upto_region 1 with (fail)
  go_wp2
  rw [HW2.out, HP0.out, HP1.out]
  go_loopw [] (fun V => ∃ b : Nat, b ≤ m ∧ V.heap[P1]? = some (.cells #[.int .i64 (b : Int)] 3 (0, 0)) ∧ Mod [P1] W2 V ∧ ∀ k, k < b → fits st.check ps k = false) (fun V => m - cellN V P1)
  case atStart => exact ⟨0, Nat.zero_le _, HS1.out, Mod.refl _ _, fun k hk => absurd hk (Nat.not_lt_zero k)⟩
  case round =>
    obtain ⟨b, hb, hs1, hM, hno⟩ := hrel
    have hp := HP2.out.other (hM.sub (by simp))
    obtain ⟨z0, z1, z2, z3, z4⟩ := box5 hp.box
    have h0 : wr.heap[P0]? = _ := (hM.block P0 (block_lt HS0.out) (by simpa using H01.out)).trans HS0.out
    have k0 := cell_block h0 0
    have k1 := cell_block hs1 0
    have f1 := frozen_block hs1 0
    simp at k0 k1
    have hcall := pf_any pa pc pl (ints ps) P0 P1 b st.check wr (by rw [ints_len]; exact HPL.out) (by omega) (HRP.out wr hp.mod) (fun x hx => by
      obtain ⟨p, hp1, rfl⟩ := List.mem_map.1 hx
      exact tk_c C P0 P1 b a4 c4 st.check m hp.l4 (by omega) (by omega) p (by omega) (by have := (HPS.out p hp1).1; omega) wr z4 (Rd.own hp.own4) k0 k1)
    rw [any_tk] at hcall
    have hend : b = m → fits st.check ps b = true := fun e => by
      subst e
      have := fits_end st.check ps
      rw [hp.l4] at this
      exact this
    have HCl := Lib.hid hcall
    have HPm := Lib.hid hp
    have HM := Lib.hid hM
    have HNo := Lib.hid hno
    have H1 := Lib.hid hs1
    have HE := Lib.hid hend
    have H0 := Lib.hid h0
    clear hcall hp hM hno hs1 hend h0
    cases hf : fits st.check ps b with
    | false =>
      rw [hf] at HCl HE
      have hlt : b < m := by
        rcases Nat.lt_or_ge b m with h | h
        · exact h
        · have := HE.out (by omega)
          cases this
      have HF := Lib.hid hf
      have hwr1 : IntKind.i64.wrap ((b : Int) + 1) = (b : Int) + 1 := by rw [IntKind.wrap_i64]; omega
      clear hf HE
      go_wp2_with (go_at_call 104; (with_reducible refine HCl.out.mono ?_); rintro _ _ ⟨rfl, rfl⟩)
      go_roundw
      case rel => exact ⟨b + 1, hlt, by rw [block_setCell H1.out]; rfl, HM.out.setCell (.inl (by simp)) _, fun k hk => by
        rcases Nat.lt_succ_iff_lt_or_eq.1 hk with h | h
        · exact HNo.out k h
        · subst h
          exact HF.out⟩
      case measure =>
        have e1 : cellN wr P1 = b := by unfold cellN; rw [cell_block H1.out]; rfl
        have e2 : cellN (wr.setCell ⟨P1, 0, none⟩ (.int .i64 ((b : Int) + 1))) P1 = b + 1 := by unfold cellN; rw [cell_block (block_setCell H1.out _)]; simp
        rw [e1, e2]
        omega
    | true =>
      rw [hf] at HCl
      obtain rfl : bb = b := HBB.out.symm.trans (baseOf_spec hf HNo.out)
      have fB := HPm.out.row.fr i
      have cB := HPm.out.row.cell i (by rw [i64s_length, HPm.out.lb]; exact hi)
      clear hf HE HNo HBB
      have hii : (i : Int) < (n : Int) := by omega
      go_wp2_with (go_at_call 104; (with_reducible refine HCl.out.mono ?_); rintro _ _ ⟨rfl, rfl⟩)
      have hpb := (HPm.out.setBase i (bb : Int)).drew
      obtain ⟨W5, hW5⟩ : ∃ W5, (wr.setCell ⟨B, i, none⟩ (.int .i64 (bb : Int))).drew = W5 := ⟨_, rfl⟩
      rw [hW5] at hpb
      have hMB : Mod [B] wr W5 := by rw [← hW5]; exact ((Mod.refl [B] wr).setCell (.inl (by simp)) _).drew
      have hbp : B < w2.heap.size ∧ w2.heap.size ≤ P0 := ⟨HPm.out.hB, (HPm.out.hX P0 (by simp)).2⟩
      have h01' := HP1.out
      have h05 := (hMB.block P0 (block_lt H0.out) (by simp; omega)).trans H0.out
      have h15 := (hMB.block P1 (block_lt H1.out) (by simp; omega)).trans H1.out
      have HB5 := Lib.hid hpb
      have H05 := Lib.hid h05
      have H15 := Lib.hid h15
      have HW5 := Lib.hid hW5
      clear hpb hMB hbp h01' h05 h15 hW5
      go_region
      rw [HW5.out]
      clear z0 z1 z2 z3 z4 k0 k1 f1 fB cB HPm HM H1 H0 HCl HW5
      go_wp2
      obtain ⟨W5c, hW5c⟩ : ∃ x, W5 = x := ⟨_, rfl⟩
      subst hW5c
      go_loopw [10, 25] (fun _ iv V => ∃ (k mk : Nat) (a3k : Option Addr) (c3k : Nat) (a4k : Option Addr) (c4k : Nat), k ≤ pl ∧ iv = .int .i64 (k : Int) ∧ mk ≤ m + 256 ∧ Pm w2 C B n wd dv [P0, P1] (putS st i bb nums (ps.take k)) mk a3k c3k a4k c4k V ∧ V.heap[P0]? = some (.cells #[.pointer (some ⟨C, 0, none⟩)] 152 (0, 0)) ∧ V.heap[P1]? = some (.cells #[.int .i64 (bb : Int)] 3 (0, 0))) (fun _ iv _ => pl - (intOf iv).toNat)
      case atStart => exact ⟨0, m, a3, c3, a4, c4, Nat.zero_le _, rfl, by omega, HB5.out, H05.out, H15.out⟩
      case round =>
        clear HB5 H05 H15
        obtain ⟨k, mk, a3k, c3k, a4k, c4k, hk, rfl, hmk, hpk, hk0, hk1⟩ := hrel
        by_cases hlt : k < pl
        · have hkl : k < ps.length := by rw [HPL.out]; exact hlt
          obtain ⟨pb, po, hpa, hpc⟩ := rd_i64 (HRP.out _ hpk.mod) k (by rw [ints_len]; exact hkl)
          have hge : (ints ps).getD k 0 = (ps[k] : Int) := by
            unfold ints
            rw [List.getD_eq_getElem?_getD, List.getElem?_map, List.getElem?_eq_getElem hkl]
            rfl
          rw [hge] at hpc
          have hpr := HPS.out _ (List.getElem_mem hkl)
          have htk : ps.take (k + 1) = ps.take k ++ [ps[k]] := (List.take_append_getElem hkl).symm
          have hsn := putS_snoc st i bb nums (ps.take k) ps[k]
          rw [← htk] at hsn
          generalize ps[k] = p at *
          obtain ⟨hp256, hpnl⟩ := hpr
          have hSb : (putS st i bb nums (ps.take k)).base = st.base.set i (bb : Int) := rfl
          generalize hS : putS st i bb nums (ps.take k) = S at *
          have HSb := Lib.hid hSb
          clear hSb
          have HSn := Lib.hid hsn
          have HPk := Lib.hid hpk
          have HK0 := Lib.hid hk0
          have HK1 := Lib.hid hk1
          have hki : (k : Int) < (pl : Int) := by omega
          have hki0 : (0 : Int) ≤ (k : Int) := by omega
          have HPA := Lib.hid hpa
          subst hpa
          clear hpk hk0 hk1 hge htk hsn hkl hS
          go_wp2
          go_loopw [] (fun V => ∃ (mj : Nat) (a3j : Option Addr) (c3j : Nat) (a4j : Option Addr) (c4j : Nat), mk ≤ mj ∧ mj ≤ max mk (bb + p + 1) ∧ Pm w2 C B n wd dv [P0, P1] { base := S.base, check := padI S.check mj (-1), next := padI S.next mj 0 } mj a3j c3j a4j c4j V ∧ V.heap[P0]? = some (.cells #[.pointer (some ⟨C, 0, none⟩)] 152 (0, 0)) ∧ V.heap[P1]? = some (.cells #[.int .i64 (bb : Int)] 3 (0, 0))) (fun V => bb + p + 1 - cellL V C 4)
          case atStart =>
            refine ⟨mk, a3k, c3k, a4k, c4k, Nat.le_refl _, Nat.le_max_left _ _, ?_, HK0.out, HK1.out⟩
            rw [padI_self _ (by rw [HPk.out.l4]; exact Nat.le_refl _), padI_self _ (by rw [HPk.out.l3]; exact Nat.le_refl _)]
            exact HPk.out
          case round =>
            clear hpc
            obtain ⟨mj, a3j, c3j, a4j, c4j, hmj0, hmj, hpj, hj0, hj1⟩ := hrel
            have hmjb : mj ≤ 60512 := by omega
            obtain ⟨z0, z1, z2, z3, z4⟩ := box5 hpj.box
            have k0 := cell_block hj0 0
            have k1 := cell_block hj1 0
            simp at k0 k1
            have hws : IntKind.i64.wrap ((bb : Int) + (p : Int)) = (bb : Int) + (p : Int) := by rw [IntKind.wrap_i64]; omega
            have HPj := Lib.hid hpj
            have HJ0 := Lib.hid hj0
            have HJ1 := Lib.hid hj1
            clear hpj hj0 hj1
            by_cases hle : mj ≤ bb + p
            · have d1 : decide ((mj : Int) ≤ (bb : Int) + (p : Int)) = true := by simp; omega
              have d2 : decide (mj ≤ bb + p) = true := by simp; omega
              go_wp2_with fail
              go_quiet (fail)
              go_wp2_with fail
              obtain ⟨Wq, hWq⟩ : ∃ Wq, wr.drewN nq = Wq := ⟨_, rfl⟩
              have hpq := HPj.out.drewN nq
              rw [hWq] at hpq
              have hq0 : Wq.heap[P0]? = some (.cells #[.pointer (some ⟨C, 0, none⟩)] 152 (0, 0)) := by rw [← hWq]; exact HJ0.out
              have hq1 : Wq.heap[P1]? = some (.cells #[.int .i64 (bb : Int)] 3 (0, 0)) := by rw [← hWq]; exact HJ1.out
              have sk : ∀ V, Mod (bk a3j ++ bk a4j) Wq V → V.heap[P0]? = some (.cells #[.pointer (some ⟨C, 0, none⟩)] 152 (0, 0)) ∧ V.heap[P1]? = some (.cells #[.int .i64 (bb : Int)] 3 (0, 0)) ∧ V.heap[C]? = some (.cells #[.int .i64 wd, .slice (some ⟨B, 0, none⟩) n n, dv, .slice a3j mj c3j, .slice a4j mj c4j] 71 (0, 0)) := fun V hV => by
                have hnot : ∀ x, x ∈ [P0, P1] ∨ x < w2.heap.size → x ∉ bk a3j ++ bk a4j := fun x hx hm => by
                  rcases List.mem_append.1 hm with h1 | h1
                  · have h2 := (mem_bk hpq.own3).1 h1
                    rcases hx with h3 | h3
                    · exact hpq.av _ (.inl h2) h3
                    · have := (hpq.b3 x (by rw [h2]; rfl)).1; omega
                  · have h2 := (mem_bk hpq.own4).1 h1
                    rcases hx with h3 | h3
                    · exact hpq.av _ (.inr h2) h3
                    · have := (hpq.b4 x (by rw [h2]; rfl)).1; omega
                exact ⟨(hV.block P0 (block_lt hq0) (hnot P0 (.inl (by simp)))).trans hq0, (hV.block P1 (block_lt hq1) (hnot P1 (.inl (by simp)))).trans hq1, (hV.block C (block_lt hpq.box) (hnot C (.inr hpq.hC))).trans hpq.box⟩
              have z5 : (Wq.alloc (.cells #[.int .i64 (-1)] 3)).heap.size = Wq.heap.size + 1 := by simp
              have z5' : (Wq.alloc (.cells #[.int .i64 0] 3)).heap.size = Wq.heap.size + 1 := by simp
              have bA : Below Wq.heap.size Wq (Wq.alloc (.cells #[.int .i64 (-1)] 3)).drew := ((Below.refl _ _).alloc (Nat.le_refl _) _).drew
              have bX : Below Wq.heap.size Wq (Wq.alloc (.cells #[.int .i64 0] 3)).drew := ((Below.refl _ _).alloc (Nat.le_refl _) _).drew
              have bB : Below Wq.heap.size Wq ((Wq.alloc (.cells #[.int .i64 (-1)] 3)).alloc (.cells #[.int .i64 0] 3)).drew := (((Below.refl _ _).alloc (Nat.le_refl _) _).alloc (by simp) _).drew
              have bC : Below Wq.heap.size Wq ((Wq.alloc (.cells #[.int .i64 0] 3)).alloc (.cells #[.int .i64 (-1)] 3)).drew := (((Below.refl _ _).alloc (Nat.le_refl _) _).alloc (by simp) _).drew
              have hmj2 : mj ≤ 200000 := by omega
              obtain ⟨gA, kA, wA, runA, pmA, modA⟩ := hpq.growA hmj2 _ bA Wq.heap.size (Rd.new Wq #[.int .i64 (-1)] 3 (0, 0) _ rfl)
              obtain ⟨hA, lA, wA2, runA2, pmA2, modA2⟩ := pmA.growB (wA.alloc (.cells #[.int .i64 0] 3)) ((Below.refl _ _).alloc (Nat.le_refl _) _) wA.heap.size (Rd.new wA #[.int .i64 0] 3 (0, 0) _ rfl)
              have rdB : Rd ((Wq.alloc (.cells #[.int .i64 (-1)] 3)).alloc (.cells #[.int .i64 0] 3)).drew (some ⟨Wq.heap.size + 1, 0, none⟩) [.int .i64 0] := by
                have := Rd.new (Wq.alloc (.cells #[.int .i64 (-1)] 3)) #[.int .i64 0] 3 (0, 0) [.int .i64 0] rfl
                rw [z5] at this
                exact this
              obtain ⟨gB, kB, wB, runB, pmB, modB⟩ := hpq.growA hmj2 _ bB Wq.heap.size ((Rd.new Wq #[.int .i64 (-1)] 3 (0, 0) [.int .i64 (-1)] rfl).alloc _)
              obtain ⟨hB, lB, wB2, runB2, pmB2, modB2⟩ := pmB.growB wB (Below.refl _ _) (Wq.heap.size + 1) (rdB.mod modB (fun p hp hm => by
                cases hp
                exact absurd (show Wq.heap.size + 1 < Wq.heap.size from (hpq.b4 (Wq.heap.size + 1) (by rw [(mem_bk hpq.own4).1 hm]; rfl)).2) (by omega)))
              have rdC : Rd ((Wq.alloc (.cells #[.int .i64 0] 3)).alloc (.cells #[.int .i64 (-1)] 3)).drew (some ⟨Wq.heap.size + 1, 0, none⟩) [.int .i64 (-1)] := by
                have := Rd.new (Wq.alloc (.cells #[.int .i64 0] 3)) #[.int .i64 (-1)] 3 (0, 0) [.int .i64 (-1)] rfl
                rw [z5'] at this
                exact this
              have rdC0 : Rd ((Wq.alloc (.cells #[.int .i64 0] 3)).alloc (.cells #[.int .i64 (-1)] 3)).drew (some ⟨Wq.heap.size, 0, none⟩) [.int .i64 0] := (Rd.new Wq #[.int .i64 0] 3 (0, 0) [.int .i64 0] rfl).alloc _
              obtain ⟨gC, kC, wC, runC, pmC, modC⟩ := hpq.growA hmj2 _ bC (Wq.heap.size + 1) rdC
              obtain ⟨hC, lC, wC2, runC2, pmC2, modC2⟩ := pmC.growB wC (Below.refl _ _) Wq.heap.size (rdC0.mod modC (fun p hp hm => by
                cases hp
                exact absurd (show Wq.heap.size < Wq.heap.size from (hpq.b4 Wq.heap.size (by rw [(mem_bk hpq.own4).1 hm]; rfl)).2) (by omega)))
              have hW := fun V (hb : Below Wq.heap.size Wq V) => sk V (Mod.of_below hb _)
              have mA1 : Mod (bk a3j ++ bk a4j) Wq wA := pmA.mod.sub (fun k hk => List.mem_append_right _ hk)
              have mB1 : Mod (bk a3j ++ bk a4j) Wq wB := pmB.mod.sub (fun k hk => List.mem_append_right _ hk)
              have mC1 : Mod (bk a3j ++ bk a4j) Wq wC := pmC.mod.sub (fun k hk => List.mem_append_right _ hk)
              obtain ⟨hz1, j1, l1⟩ := hW Wq (Below.refl _ _)
              have i1 := cell_block hz1 0
              obtain ⟨_, _, _, s1, t1⟩ := box5 l1
              clear j1 l1 hz1
              obtain ⟨hz2, j2, l2⟩ := hW (Wq.alloc (.cells #[.int .i64 (-1)] 3)) ((Below.refl _ _).alloc (Nat.le_refl _) _)
              have i2 := cell_block hz2 0
              obtain ⟨_, _, _, s2, t2⟩ := box5 l2
              clear j2 l2 hz2
              obtain ⟨hz3, j3, l3⟩ := hW (Wq.alloc (.cells #[.int .i64 0] 3)) ((Below.refl _ _).alloc (Nat.le_refl _) _)
              have i3 := cell_block hz3 0
              obtain ⟨_, _, _, s3, t3⟩ := box5 l3
              clear j3 l3 hz3
              obtain ⟨hz4, j4, l4⟩ := hW ((Wq.alloc (.cells #[.int .i64 (-1)] 3)).alloc (.cells #[.int .i64 0] 3)) (((Below.refl _ _).alloc (Nat.le_refl _) _).alloc (by simp) _)
              have i4 := cell_block hz4 0
              obtain ⟨_, _, _, s4, t4⟩ := box5 l4
              clear j4 l4 hz4
              obtain ⟨hz5, j5, l5⟩ := hW ((Wq.alloc (.cells #[.int .i64 0] 3)).alloc (.cells #[.int .i64 (-1)] 3)) (((Below.refl _ _).alloc (Nat.le_refl _) _).alloc (by simp) _)
              have i5 := cell_block hz5 0
              obtain ⟨_, _, _, s5, t5⟩ := box5 l5
              clear j5 l5 hz5
              obtain ⟨hz6, j6, l6⟩ := sk wA mA1
              have i6 := cell_block hz6 0
              obtain ⟨_, _, _, s6, t6⟩ := box5 l6
              clear j6 l6 hz6
              obtain ⟨hz7, j7, l7⟩ := sk (wA.alloc (.cells #[.int .i64 0] 3)) (mA1.alloc _)
              have i7 := cell_block hz7 0
              obtain ⟨_, _, _, s7, t7⟩ := box5 l7
              clear j7 l7 hz7
              obtain ⟨hz8, j8, l8⟩ := sk wB mB1
              have i8 := cell_block hz8 0
              obtain ⟨_, _, _, s8, t8⟩ := box5 l8
              clear j8 l8 hz8
              obtain ⟨hz9, j9, l9⟩ := sk wC mC1
              have i9 := cell_block hz9 0
              obtain ⟨_, _, _, s9, t9⟩ := box5 l9
              clear j9 l9 hz9
              obtain ⟨hz10, j10, l10⟩ := sk wA2 modA2
              have v10 := frozen_block l10 4
              have q10 := frozen_block l10 3
              have i10 := cell_block hz10 0
              obtain ⟨_, _, _, s10, t10⟩ := box5 l10
              clear j10 l10 hz10
              obtain ⟨hz11, j11, l11⟩ := sk wB2 modB2
              have v11 := frozen_block l11 4
              have q11 := frozen_block l11 3
              have i11 := cell_block hz11 0
              obtain ⟨_, _, _, s11, t11⟩ := box5 l11
              clear j11 l11 hz11
              obtain ⟨hz12, j12, l12⟩ := sk wC2 modC2
              have v12 := frozen_block l12 4
              have q12 := frozen_block l12 3
              have i12 := cell_block hz12 0
              obtain ⟨_, _, _, s12, t12⟩ := box5 l12
              clear j12 l12 hz12
              try simp at i1 i2 i3 i4 i5 i6 i7 i8 i9 i10 i11 i12
              have HBs := Lib.hid (And.intro bA (And.intro bX (And.intro bB bC)))
              have HMs := Lib.hid (And.intro mA1 (And.intro mB1 mC1))
              have HReA := Lib.hid pmA2
              have HReB := Lib.hid pmB2
              have HReC := Lib.hid pmC2
              have HSK := Lib.hid sk
              have HmA := Lib.hid modA2
              have HmB := Lib.hid modB2
              have HmC := Lib.hid modC2
              have HWq := Lib.hid hWq
              have HPC : P0 ≠ C := by have := hpq.hC; have := (hpq.hX P0 (by simp)).2; omega
              have HPC1 : P1 ≠ C := by have := hpq.hC; have := (hpq.hX P1 (by simp)).2; omega
              try clear z5'
              try clear z5
              try clear bC
              try clear bB
              try clear bX
              try clear bA
              try clear rdC0
              try clear rdC
              try clear rdB
              try clear hW
              try clear mC1
              try clear mB1
              try clear mA1
              try clear modC2
              try clear modB2
              try clear modA2
              try clear modC
              try clear modB
              try clear modA
              try clear pmC2
              try clear pmB2
              try clear pmA2
              try clear pmC
              try clear pmB
              try clear pmA
              try clear sk
              try clear hq1
              try clear hq0
              try clear hpq
              try clear hWq
              rw [HWq.out]
              clear z0 z1 z2 z3 z4 k0 k1
              have HS : Hid (∀ V, Mod (bk a3j ++ bk a4j) Wq V → V.cell? ⟨P0, 0, none⟩ = some (.pointer (some ⟨C, 0, none⟩)) ∧ V.cell? ⟨C, 3, none⟩ = some (.slice a3j mj c3j) ∧ V.cell? ⟨C, 4, none⟩ = some (.slice a4j mj c4j)) := Lib.hid (fun V hV => by
                obtain ⟨e0, _, e2⟩ := HSK.out V hV
                obtain ⟨_, _, _, e3, e4⟩ := box5 e2
                exact ⟨cell_block e0 0, e3, e4⟩)
              have HT : Hid (∀ V V', V.cell? ⟨P0, 0, none⟩ = some (.pointer (some ⟨C, 0, none⟩)) → Mod [C] V V' → V'.cell? ⟨P0, 0, none⟩ = some (.pointer (some ⟨C, 0, none⟩))) := Lib.hid (fun V V' h hM => (hM.cell (p := ⟨P0, 0, none⟩) (lt_of_cell h) (by simpa using HPC)).trans h)
              have n0 : Below Wq.heap.size Wq Wq.drew := (Below.refl _ _).drew
              refine wp_region_noPanic ?_
              refine wp_region_T (fun V => V.cell? ⟨P0, 0, none⟩ = some (.pointer (some ⟨C, 0, none⟩))) (fun V => V.cell? ⟨C, 3, none⟩ = some (.slice a3j mj c3j) ∧ V.cell? ⟨C, 4, none⟩ = some (.slice a4j mj c4j)) 16 (by kernel_rfl) ⟨(HS.out _ (Mod.of_below n0 _)).1, fun _ => (HS.out _ (Mod.of_below n0 _)).2⟩ (fun _ => ?_)
              (refine wpAnyT_take (i := 0) (v := ?v0t22) (by simp only [List.getElem?_toArray, List.getElem?_cons_succ, List.getElem?_cons_zero]; rfl) (by kernel_rfl) (by kernel_rfl) (by kernel_rfl) (by decide) (fun _ _ _ h => False.elim h) (Or.inl ⟨by rfl, ?hy0t22⟩) (by exact ⟨(HS.out _ (Mod.of_below n0 _)).1, fun _ => (HS.out _ (Mod.of_below n0 _)).2⟩) ?rest0t22; (case hy0t22 => (intro w hSw; (try dsimp only at hSw); go_simp; (try with_reducible rfl))); (try simp only [Act.put, List.setIfInBounds_toArray, List.set_cons_zero, List.set_cons_succ]))
              (refine wpAnyT_take (i := 1) (v := ?v1t23) (by simp only [List.getElem?_toArray, List.getElem?_cons_succ, List.getElem?_cons_zero]; rfl) (by kernel_rfl) (by kernel_rfl) (by kernel_rfl) (by decide) (fun _ _ _ h => False.elim h) (Or.inl ⟨by rfl, ?hy1t23⟩) (by exact ⟨(HS.out _ (Mod.of_below n0 _)).1, fun _ => (HS.out _ (Mod.of_below n0 _)).2⟩) ?rest1t23; (case hy1t23 => (intro w hSw; (try dsimp only at hSw); go_simp; (try with_reducible rfl))); (try simp only [Act.put, List.setIfInBounds_toArray, List.set_cons_zero, List.set_cons_succ]))
              (refine wpAnyT_take (i := 2) (v := ?v2t24) (by simp only [List.getElem?_toArray, List.getElem?_cons_succ, List.getElem?_cons_zero]; rfl) (by kernel_rfl) (by kernel_rfl) (by kernel_rfl) (by decide) (fun _ _ _ h => False.elim h) (Or.inl ⟨by rfl, ?hy2t24⟩) (by exact ⟨(HS.out _ (Mod.of_below n0 _)).1, fun _ => (HS.out _ (Mod.of_below n0 _)).2⟩) ?rest2t24; (case hy2t24 => (intro w hSw; (try dsimp only at hSw); go_simp; (try with_reducible rfl))); (try simp only [Act.put, List.setIfInBounds_toArray, List.set_cons_zero, List.set_cons_succ]))
              (refine wpAnyT_take (i := 8) (v := ?v8t25) (by simp only [List.getElem?_toArray, List.getElem?_cons_succ, List.getElem?_cons_zero]; rfl) (by kernel_rfl) (by kernel_rfl) (by kernel_rfl) (by decide) (fun _ _ _ h => False.elim h) (Or.inl ⟨by rfl, ?hy8t25⟩) (by exact ⟨(HS.out _ (Mod.of_below n0 _)).1, fun _ => (HS.out _ (Mod.of_below n0 _)).2⟩) ?rest8t25; (case hy8t25 => (intro w hSw; (try dsimp only at hSw); go_simp; (try with_reducible rfl))); (try simp only [Act.put, List.setIfInBounds_toArray, List.set_cons_zero, List.set_cons_succ]))
              (refine wpAnyT_take (i := 3) (v := ?v3t26) (by simp only [List.getElem?_toArray, List.getElem?_cons_succ, List.getElem?_cons_zero]; rfl) (by kernel_rfl) (by kernel_rfl) (by kernel_rfl) (by decide) (fun _ _ _ h => False.elim h) (Or.inl ⟨by rfl, ?hy3t26⟩) (by exact ⟨(HS.out _ (Mod.of_below n0 _)).1, fun _ => (HS.out _ (Mod.of_below n0 _)).2⟩) ?rest3t26; (case hy3t26 => (intro w hSw; (try dsimp only at hSw); go_simp; (try with_reducible rfl))); (try simp only [Act.put, List.setIfInBounds_toArray, List.set_cons_zero, List.set_cons_succ]))
              (refine wpAnyT_take (i := 4) (v := ?v4t27) (by simp only [List.getElem?_toArray, List.getElem?_cons_succ, List.getElem?_cons_zero]; rfl) (by kernel_rfl) (by kernel_rfl) (by kernel_rfl) (by decide) (fun _ _ _ h => False.elim h) (Or.inl ⟨by rfl, ?hy4t27⟩) (by exact ⟨(HS.out _ (Mod.of_below n0 _)).1, fun _ => (HS.out _ (Mod.of_below n0 _)).2⟩) ?rest4t27; (case hy4t27 => (intro w hSw; (try dsimp only at hSw); go_simp; (try with_reducible rfl))); (try simp only [Act.put, List.setIfInBounds_toArray, List.set_cons_zero, List.set_cons_succ]))
              (refine wpAnyT_take (i := 9) (v := ?v9t28) (by simp only [List.getElem?_toArray, List.getElem?_cons_succ, List.getElem?_cons_zero]; rfl) (by kernel_rfl) (by kernel_rfl) (by kernel_rfl) (by decide) (fun _ _ _ h => False.elim h) (Or.inl ⟨by rfl, ?hy9t28⟩) (by exact ⟨(HS.out _ (Mod.of_below n0 _)).1, fun _ => (HS.out _ (Mod.of_below n0 _)).2⟩) ?rest9t28; (case hy9t28 => (intro w hSw; (try dsimp only at hSw); go_simp; (try with_reducible rfl))); (try simp only [Act.put, List.setIfInBounds_toArray, List.set_cons_zero, List.set_cons_succ]))
              (refine wpAnyT_take (i := 10) (v := ?v10t29) (by simp only [List.getElem?_toArray, List.getElem?_cons_succ, List.getElem?_cons_zero]; rfl) (by kernel_rfl) (by kernel_rfl) (by kernel_rfl) (by decide) (fun _ _ _ h => False.elim h) (Or.inl ⟨by rfl, ?hy10t29⟩) (by exact ⟨(HS.out _ (Mod.of_below n0 _)).1, fun _ => (HS.out _ (Mod.of_below n0 _)).2⟩) ?rest10t29; (case hy10t29 => (intro w hSw; (try dsimp only at hSw); go_simp; (try with_reducible rfl))); (try simp only [Act.put, List.setIfInBounds_toArray, List.set_cons_zero, List.set_cons_succ]))
              (refine wpAnyT_take0 (i := 5) (v := ?v5t30) (by simp only [List.getElem?_toArray, List.getElem?_cons_succ, List.getElem?_cons_zero]; rfl) (by kernel_rfl) (by kernel_rfl) (by kernel_rfl) (by decide) (by kernel_rfl) (by kernel_rfl) (fun _ _ _ h => False.elim h) (Or.inl ⟨by rfl, ?hy5t30⟩) (by exact ⟨(HS.out _ (Mod.of_below n0 _)).1, fun _ => (HS.out _ (Mod.of_below n0 _)).2⟩) ?rest5t30; (case hy5t30 => (intro w hSw; (try dsimp only at hSw); go_simp; (try with_reducible rfl))); (try simp only [Act.put, List.setIfInBounds_toArray, List.set_cons_zero, List.set_cons_succ]))
              (refine wpAnyT_take0 (i := 11) (v := ?v11t31) (by simp only [List.getElem?_toArray, List.getElem?_cons_succ, List.getElem?_cons_zero]; rfl) (by kernel_rfl) (by kernel_rfl) (by kernel_rfl) (by decide) (by kernel_rfl) (by kernel_rfl) (fun _ _ _ h => False.elim h) (Or.inl ⟨by rfl, ?hy11t31⟩) (by exact ⟨(HS.out _ (Mod.of_below n0 _)).1, fun _ => (HS.out _ (Mod.of_below n0 _)).2⟩) ?rest11t31; (case hy11t31 => (intro w hSw; (try dsimp only at hSw); go_simp; (try with_reducible rfl))); (try simp only [Act.put, List.setIfInBounds_toArray, List.set_cons_zero, List.set_cons_succ]))
              refine wpAnyT_ready (rs := [6, 12]) (by kernel_rfl) (by simp) ?_
              refine AllReadyT.cons (o := _) (by simp only [List.getElem?_toArray, List.getElem?_cons_succ, List.getElem?_cons_zero]; rfl) (fun K hK => ?_) ?_
              · (go_simp; (skip); refine hK.out _ _ (by exact ⟨(HS.out _ (Mod.of_below (HBs.out.1) _)).1, fun _ => (HS.out _ (Mod.of_below (HBs.out.1) _)).2⟩) (fun _ => ?_); clear hK K; (try simp only [Act.put, List.setIfInBounds_toArray, List.set_cons_zero, List.set_cons_succ]))
                refine wpAnyT_ready (rs := [7, 12]) (by kernel_rfl) (by simp) ?_
                refine AllReadyT.cons (o := _) (by simp only [List.getElem?_toArray, List.getElem?_cons_succ, List.getElem?_cons_zero]; rfl) (fun K hK => ?_) ?_
                · ((((with_reducible apply step_append_run runA); rfl; rfl; rfl; rfl; rfl)); refine hK.out _ _ (by exact ⟨(HS.out _ (HMs.out.1)).1, fun _ => (HS.out _ (HMs.out.1)).2⟩) (fun _ => ?_); clear hK K; (try simp only [Act.put, List.setIfInBounds_toArray, List.set_cons_zero, List.set_cons_succ]))
                  (refine wpAnyT_ready (rs := [12]) (by kernel_rfl) (by simp) ?_; refine AllReadyT.cons (o := _) (by simp only [List.getElem?_toArray, List.getElem?_cons_succ, List.getElem?_cons_zero]; rfl) (fun K hK => ?_) AllReadyT.nil; go_simp; (skip); refine hK.out _ _ (by exact ⟨(HS.out _ (HMs.out.1.alloc _)).1, fun _ => (HS.out _ (HMs.out.1.alloc _)).2⟩) (fun _ => ?_); clear hK K; (try simp only [Act.put, List.setIfInBounds_toArray, List.set_cons_zero, List.set_cons_succ]))
                  (refine wpAnyT_ready (rs := [13]) (by kernel_rfl) (by simp) ?_; refine AllReadyT.cons (o := _) (by simp only [List.getElem?_toArray, List.getElem?_cons_succ, List.getElem?_cons_zero]; rfl) (fun K hK => ?_) AllReadyT.nil; (((with_reducible apply step_append_run runA2); rfl; rfl; rfl; rfl; rfl)); refine hK.out _ _ (by exact ⟨(HS.out _ (HmA.out)).1, fun _ => (HS.out _ (HmA.out)).2⟩) (fun _ => ?_); clear hK K; (try simp only [Act.put, List.setIfInBounds_toArray, List.set_cons_zero, List.set_cons_succ]))
                  (refine wpAnyT_take (i := 14) (v := ?v14t32) (by simp only [List.getElem?_toArray, List.getElem?_cons_succ, List.getElem?_cons_zero]; rfl) (by kernel_rfl) (by kernel_rfl) (by kernel_rfl) (by decide) (fun _ _ _ h => False.elim h) (Or.inl ⟨by rfl, ?hy14t32⟩) (by exact ⟨(HS.out _ (HmA.out)).1, fun _ => (HS.out _ (HmA.out)).2⟩) ?rest14t32; (case hy14t32 => (intro w hSw; (try dsimp only at hSw); go_simp; (try with_reducible rfl))); (try simp only [Act.put, List.setIfInBounds_toArray, List.set_cons_zero, List.set_cons_succ]))
                  (refine wpAnyT_take (i := 15) (v := ?v15t33) (by simp only [List.getElem?_toArray, List.getElem?_cons_succ, List.getElem?_cons_zero]; rfl) (by kernel_rfl) (by kernel_rfl) (by kernel_rfl) (by decide) (fun _ _ _ h => False.elim h) (Or.inl ⟨by rfl, ?hy15t33⟩) (by exact ⟨(HS.out _ (HmA.out)).1, fun _ => (HS.out _ (HmA.out)).2⟩) ?rest15t33; (case hy15t33 => (intro w hSw; (try dsimp only at hSw); go_simp; (try with_reducible rfl))); (try simp only [Act.put, List.setIfInBounds_toArray, List.set_cons_zero, List.set_cons_succ]))
                  (refine wpAnyT_ready (rs := [16]) (by kernel_rfl) (by simp) ?_; refine AllReadyT.cons (o := _) (by simp only [List.getElem?_toArray, List.getElem?_cons_succ, List.getElem?_cons_zero]; rfl) (fun K hK => ?_) AllReadyT.nil; go_simp; (skip); refine hK.out _ _ (by exact ⟨HT.out _ _ (HS.out _ HmA.out).1 ((Mod.refl [C] _).setCell (.inl (by simp)) _), fun h => absurd h (by decide)⟩) (fun _ => ?_); clear hK K; (try simp only [Act.put, List.setIfInBounds_toArray, List.set_cons_zero, List.set_cons_succ]))
                  (refine wpAnyT_take (i := 17) (v := ?v17t34) (by simp only [List.getElem?_toArray, List.getElem?_cons_succ, List.getElem?_cons_zero]; rfl) (by kernel_rfl) (by kernel_rfl) (by kernel_rfl) (by decide) (fun _ _ _ h => False.elim h) (Or.inl ⟨by rfl, ?hy17t34⟩) (by exact ⟨HT.out _ _ (HS.out _ HmA.out).1 ((Mod.refl [C] _).setCell (.inl (by simp)) _), fun h => absurd h (by decide)⟩) ?rest17t34; (case hy17t34 => (intro w hSw; (try dsimp only at hSw); go_simp; (try with_reducible rfl))); (try simp only [Act.put, List.setIfInBounds_toArray, List.set_cons_zero, List.set_cons_succ]))
                  (refine wpAnyT_take (i := 18) (v := ?v18t35) (by simp only [List.getElem?_toArray, List.getElem?_cons_succ, List.getElem?_cons_zero]; rfl) (by kernel_rfl) (by kernel_rfl) (by kernel_rfl) (by decide) (fun _ _ _ h => False.elim h) (Or.inl ⟨by rfl, ?hy18t35⟩) (by exact ⟨HT.out _ _ (HS.out _ HmA.out).1 ((Mod.refl [C] _).setCell (.inl (by simp)) _), fun h => absurd h (by decide)⟩) ?rest18t35; (case hy18t35 => (intro w hSw; (try dsimp only at hSw); go_simp; (try with_reducible rfl))); (try simp only [Act.put, List.setIfInBounds_toArray, List.set_cons_zero, List.set_cons_succ]))
                  (refine wpAnyT_ready (rs := [19]) (by kernel_rfl) (by simp) ?_; refine AllReadyT.cons (o := _) (by simp only [List.getElem?_toArray, List.getElem?_cons_succ, List.getElem?_cons_zero]; rfl) (fun K hK => ?_) AllReadyT.nil; go_simp; (skip); refine hK.out _ _ (by exact ⟨HT.out _ _ (HS.out _ HmA.out).1 (((Mod.refl [C] _).setCell (.inl (by simp)) _).setCell (.inl (by simp)) _), fun h => absurd h (by decide)⟩) (fun _ => ?_); clear hK K; (try simp only [Act.put, List.setIfInBounds_toArray, List.set_cons_zero, List.set_cons_succ]))
                  refine wpAnyT_done (by kernel_rfl) ?_ _
                  refine NoPanic.normal ?_
                  go_wp2
                  go_roundw
                  case rel =>
                    have hpm := HReA.out
                    rw [← padI_succ _ (by rw [HPk.out.l4]; exact hmj0), ← padI_succ _ (by rw [HPk.out.l3]; exact hmj0)] at hpm
                    obtain ⟨e0, e1, _⟩ := HSK.out _ HmA.out
                    have hMC : Mod [C] wA2 ((wA2.setCell ⟨C, 4, none⟩ (.slice (some ⟨gA, 0, none⟩) (mj + 1) kA)).setCell ⟨C, 3, none⟩ (.slice (some ⟨hA, 0, none⟩) (mj + 1) lA)) := ((Mod.refl [C] _).setCell (.inl (by simp)) _).setCell (.inl (by simp)) _
                    exact ⟨mj + 1, _, _, _, _, by omega, by omega, hpm, (hMC.block P0 (block_lt e0) (by simpa using HPC)).trans e0, (hMC.block P1 (block_lt e1) (by simpa using HPC1)).trans e1⟩
                  case measure =>
                    have e1 : cellL wr C 4 = mj := by unfold cellL; rw [cellL_box HPj.out.box]
                    have e2 : cellL ((wA2.setCell ⟨C, 4, none⟩ (.slice (some ⟨gA, 0, none⟩) (mj + 1) kA)).setCell ⟨C, 3, none⟩ (.slice (some ⟨hA, 0, none⟩) (mj + 1) lA)) C 4 = mj + 1 := by unfold cellL; rw [cellL_box HReA.out.box]
                    first
                      | (rw [e1, e2]; omega)
                      | (have e3 : ∀ V : World, cellL V.drew C 4 = cellL V C 4 := fun _ => rfl; simp only [e3]; rw [e1, e2]; omega)
                · refine AllReadyT.cons (o := _) (by simp only [List.getElem?_toArray, List.getElem?_cons_succ, List.getElem?_cons_zero]; rfl) (fun K hK => ?_) AllReadyT.nil
                  (go_simp; (skip); refine hK.out _ _ (by exact ⟨(HS.out _ (Mod.of_below (HBs.out.2.2.1) _)).1, fun _ => (HS.out _ (Mod.of_below (HBs.out.2.2.1) _)).2⟩) (fun _ => ?_); clear hK K; (try simp only [Act.put, List.setIfInBounds_toArray, List.set_cons_zero, List.set_cons_succ]))
                  (refine wpAnyT_ready (rs := [7]) (by kernel_rfl) (by simp) ?_; refine AllReadyT.cons (o := _) (by simp only [List.getElem?_toArray, List.getElem?_cons_succ, List.getElem?_cons_zero]; rfl) (fun K hK => ?_) AllReadyT.nil; (((with_reducible apply step_append_run runB); rfl; rfl; rfl; rfl; rfl)); refine hK.out _ _ (by exact ⟨(HS.out _ (HMs.out.2.1)).1, fun _ => (HS.out _ (HMs.out.2.1)).2⟩) (fun _ => ?_); clear hK K; (try simp only [Act.put, List.setIfInBounds_toArray, List.set_cons_zero, List.set_cons_succ]))
                  (refine wpAnyT_ready (rs := [13]) (by kernel_rfl) (by simp) ?_; refine AllReadyT.cons (o := _) (by simp only [List.getElem?_toArray, List.getElem?_cons_succ, List.getElem?_cons_zero]; rfl) (fun K hK => ?_) AllReadyT.nil; (((with_reducible apply step_append_run runB2); rfl; rfl; rfl; rfl; rfl)); refine hK.out _ _ (by exact ⟨(HS.out _ (HmB.out)).1, fun _ => (HS.out _ (HmB.out)).2⟩) (fun _ => ?_); clear hK K; (try simp only [Act.put, List.setIfInBounds_toArray, List.set_cons_zero, List.set_cons_succ]))
                  (refine wpAnyT_take (i := 14) (v := ?v14t36) (by simp only [List.getElem?_toArray, List.getElem?_cons_succ, List.getElem?_cons_zero]; rfl) (by kernel_rfl) (by kernel_rfl) (by kernel_rfl) (by decide) (fun _ _ _ h => False.elim h) (Or.inl ⟨by rfl, ?hy14t36⟩) (by exact ⟨(HS.out _ (HmB.out)).1, fun _ => (HS.out _ (HmB.out)).2⟩) ?rest14t36; (case hy14t36 => (intro w hSw; (try dsimp only at hSw); go_simp; (try with_reducible rfl))); (try simp only [Act.put, List.setIfInBounds_toArray, List.set_cons_zero, List.set_cons_succ]))
                  (refine wpAnyT_take (i := 15) (v := ?v15t37) (by simp only [List.getElem?_toArray, List.getElem?_cons_succ, List.getElem?_cons_zero]; rfl) (by kernel_rfl) (by kernel_rfl) (by kernel_rfl) (by decide) (fun _ _ _ h => False.elim h) (Or.inl ⟨by rfl, ?hy15t37⟩) (by exact ⟨(HS.out _ (HmB.out)).1, fun _ => (HS.out _ (HmB.out)).2⟩) ?rest15t37; (case hy15t37 => (intro w hSw; (try dsimp only at hSw); go_simp; (try with_reducible rfl))); (try simp only [Act.put, List.setIfInBounds_toArray, List.set_cons_zero, List.set_cons_succ]))
                  (refine wpAnyT_ready (rs := [16]) (by kernel_rfl) (by simp) ?_; refine AllReadyT.cons (o := _) (by simp only [List.getElem?_toArray, List.getElem?_cons_succ, List.getElem?_cons_zero]; rfl) (fun K hK => ?_) AllReadyT.nil; go_simp; (skip); refine hK.out _ _ (by exact ⟨HT.out _ _ (HS.out _ HmB.out).1 ((Mod.refl [C] _).setCell (.inl (by simp)) _), fun h => absurd h (by decide)⟩) (fun _ => ?_); clear hK K; (try simp only [Act.put, List.setIfInBounds_toArray, List.set_cons_zero, List.set_cons_succ]))
                  (refine wpAnyT_take (i := 17) (v := ?v17t38) (by simp only [List.getElem?_toArray, List.getElem?_cons_succ, List.getElem?_cons_zero]; rfl) (by kernel_rfl) (by kernel_rfl) (by kernel_rfl) (by decide) (fun _ _ _ h => False.elim h) (Or.inl ⟨by rfl, ?hy17t38⟩) (by exact ⟨HT.out _ _ (HS.out _ HmB.out).1 ((Mod.refl [C] _).setCell (.inl (by simp)) _), fun h => absurd h (by decide)⟩) ?rest17t38; (case hy17t38 => (intro w hSw; (try dsimp only at hSw); go_simp; (try with_reducible rfl))); (try simp only [Act.put, List.setIfInBounds_toArray, List.set_cons_zero, List.set_cons_succ]))
                  (refine wpAnyT_take (i := 18) (v := ?v18t39) (by simp only [List.getElem?_toArray, List.getElem?_cons_succ, List.getElem?_cons_zero]; rfl) (by kernel_rfl) (by kernel_rfl) (by kernel_rfl) (by decide) (fun _ _ _ h => False.elim h) (Or.inl ⟨by rfl, ?hy18t39⟩) (by exact ⟨HT.out _ _ (HS.out _ HmB.out).1 ((Mod.refl [C] _).setCell (.inl (by simp)) _), fun h => absurd h (by decide)⟩) ?rest18t39; (case hy18t39 => (intro w hSw; (try dsimp only at hSw); go_simp; (try with_reducible rfl))); (try simp only [Act.put, List.setIfInBounds_toArray, List.set_cons_zero, List.set_cons_succ]))
                  (refine wpAnyT_ready (rs := [19]) (by kernel_rfl) (by simp) ?_; refine AllReadyT.cons (o := _) (by simp only [List.getElem?_toArray, List.getElem?_cons_succ, List.getElem?_cons_zero]; rfl) (fun K hK => ?_) AllReadyT.nil; go_simp; (skip); refine hK.out _ _ (by exact ⟨HT.out _ _ (HS.out _ HmB.out).1 (((Mod.refl [C] _).setCell (.inl (by simp)) _).setCell (.inl (by simp)) _), fun h => absurd h (by decide)⟩) (fun _ => ?_); clear hK K; (try simp only [Act.put, List.setIfInBounds_toArray, List.set_cons_zero, List.set_cons_succ]))
                  refine wpAnyT_done (by kernel_rfl) ?_ _
                  refine NoPanic.normal ?_
                  go_wp2
                  go_roundw
                  case rel =>
                    have hpm := HReB.out
                    rw [← padI_succ _ (by rw [HPk.out.l4]; exact hmj0), ← padI_succ _ (by rw [HPk.out.l3]; exact hmj0)] at hpm
                    obtain ⟨e0, e1, _⟩ := HSK.out _ HmB.out
                    have hMC : Mod [C] wB2 ((wB2.setCell ⟨C, 4, none⟩ (.slice (some ⟨gB, 0, none⟩) (mj + 1) kB)).setCell ⟨C, 3, none⟩ (.slice (some ⟨hB, 0, none⟩) (mj + 1) lB)) := ((Mod.refl [C] _).setCell (.inl (by simp)) _).setCell (.inl (by simp)) _
                    exact ⟨mj + 1, _, _, _, _, by omega, by omega, hpm, (hMC.block P0 (block_lt e0) (by simpa using HPC)).trans e0, (hMC.block P1 (block_lt e1) (by simpa using HPC1)).trans e1⟩
                  case measure =>
                    have e1 : cellL wr C 4 = mj := by unfold cellL; rw [cellL_box HPj.out.box]
                    have e2 : cellL ((wB2.setCell ⟨C, 4, none⟩ (.slice (some ⟨gB, 0, none⟩) (mj + 1) kB)).setCell ⟨C, 3, none⟩ (.slice (some ⟨hB, 0, none⟩) (mj + 1) lB)) C 4 = mj + 1 := by unfold cellL; rw [cellL_box HReB.out.box]
                    first
                      | (rw [e1, e2]; omega)
                      | (have e3 : ∀ V : World, cellL V.drew C 4 = cellL V C 4 := fun _ => rfl; simp only [e3]; rw [e1, e2]; omega)
              · refine AllReadyT.cons (o := _) (by simp only [List.getElem?_toArray, List.getElem?_cons_succ, List.getElem?_cons_zero]; rfl) (fun K hK => ?_) AllReadyT.nil
                (go_simp; (skip); refine hK.out _ _ (by exact ⟨(HS.out _ (Mod.of_below (HBs.out.2.1) _)).1, fun _ => (HS.out _ (Mod.of_below (HBs.out.2.1) _)).2⟩) (fun _ => ?_); clear hK K; (try simp only [Act.put, List.setIfInBounds_toArray, List.set_cons_zero, List.set_cons_succ]))
                (refine wpAnyT_ready (rs := [6]) (by kernel_rfl) (by simp) ?_; refine AllReadyT.cons (o := _) (by simp only [List.getElem?_toArray, List.getElem?_cons_succ, List.getElem?_cons_zero]; rfl) (fun K hK => ?_) AllReadyT.nil; go_simp; (skip); refine hK.out _ _ (by exact ⟨(HS.out _ (Mod.of_below (HBs.out.2.2.2) _)).1, fun _ => (HS.out _ (Mod.of_below (HBs.out.2.2.2) _)).2⟩) (fun _ => ?_); clear hK K; (try simp only [Act.put, List.setIfInBounds_toArray, List.set_cons_zero, List.set_cons_succ]))
                (refine wpAnyT_ready (rs := [7]) (by kernel_rfl) (by simp) ?_; refine AllReadyT.cons (o := _) (by simp only [List.getElem?_toArray, List.getElem?_cons_succ, List.getElem?_cons_zero]; rfl) (fun K hK => ?_) AllReadyT.nil; (((with_reducible apply step_append_run runC); rfl; rfl; rfl; rfl; rfl)); refine hK.out _ _ (by exact ⟨(HS.out _ (HMs.out.2.2)).1, fun _ => (HS.out _ (HMs.out.2.2)).2⟩) (fun _ => ?_); clear hK K; (try simp only [Act.put, List.setIfInBounds_toArray, List.set_cons_zero, List.set_cons_succ]))
                (refine wpAnyT_ready (rs := [13]) (by kernel_rfl) (by simp) ?_; refine AllReadyT.cons (o := _) (by simp only [List.getElem?_toArray, List.getElem?_cons_succ, List.getElem?_cons_zero]; rfl) (fun K hK => ?_) AllReadyT.nil; (((with_reducible apply step_append_run runC2); rfl; rfl; rfl; rfl; rfl)); refine hK.out _ _ (by exact ⟨(HS.out _ (HmC.out)).1, fun _ => (HS.out _ (HmC.out)).2⟩) (fun _ => ?_); clear hK K; (try simp only [Act.put, List.setIfInBounds_toArray, List.set_cons_zero, List.set_cons_succ]))
                (refine wpAnyT_take (i := 14) (v := ?v14t40) (by simp only [List.getElem?_toArray, List.getElem?_cons_succ, List.getElem?_cons_zero]; rfl) (by kernel_rfl) (by kernel_rfl) (by kernel_rfl) (by decide) (fun _ _ _ h => False.elim h) (Or.inl ⟨by rfl, ?hy14t40⟩) (by exact ⟨(HS.out _ (HmC.out)).1, fun _ => (HS.out _ (HmC.out)).2⟩) ?rest14t40; (case hy14t40 => (intro w hSw; (try dsimp only at hSw); go_simp; (try with_reducible rfl))); (try simp only [Act.put, List.setIfInBounds_toArray, List.set_cons_zero, List.set_cons_succ]))
                (refine wpAnyT_take (i := 15) (v := ?v15t41) (by simp only [List.getElem?_toArray, List.getElem?_cons_succ, List.getElem?_cons_zero]; rfl) (by kernel_rfl) (by kernel_rfl) (by kernel_rfl) (by decide) (fun _ _ _ h => False.elim h) (Or.inl ⟨by rfl, ?hy15t41⟩) (by exact ⟨(HS.out _ (HmC.out)).1, fun _ => (HS.out _ (HmC.out)).2⟩) ?rest15t41; (case hy15t41 => (intro w hSw; (try dsimp only at hSw); go_simp; (try with_reducible rfl))); (try simp only [Act.put, List.setIfInBounds_toArray, List.set_cons_zero, List.set_cons_succ]))
                (refine wpAnyT_ready (rs := [16]) (by kernel_rfl) (by simp) ?_; refine AllReadyT.cons (o := _) (by simp only [List.getElem?_toArray, List.getElem?_cons_succ, List.getElem?_cons_zero]; rfl) (fun K hK => ?_) AllReadyT.nil; go_simp; (skip); refine hK.out _ _ (by exact ⟨HT.out _ _ (HS.out _ HmC.out).1 ((Mod.refl [C] _).setCell (.inl (by simp)) _), fun h => absurd h (by decide)⟩) (fun _ => ?_); clear hK K; (try simp only [Act.put, List.setIfInBounds_toArray, List.set_cons_zero, List.set_cons_succ]))
                (refine wpAnyT_take (i := 17) (v := ?v17t42) (by simp only [List.getElem?_toArray, List.getElem?_cons_succ, List.getElem?_cons_zero]; rfl) (by kernel_rfl) (by kernel_rfl) (by kernel_rfl) (by decide) (fun _ _ _ h => False.elim h) (Or.inl ⟨by rfl, ?hy17t42⟩) (by exact ⟨HT.out _ _ (HS.out _ HmC.out).1 ((Mod.refl [C] _).setCell (.inl (by simp)) _), fun h => absurd h (by decide)⟩) ?rest17t42; (case hy17t42 => (intro w hSw; (try dsimp only at hSw); go_simp; (try with_reducible rfl))); (try simp only [Act.put, List.setIfInBounds_toArray, List.set_cons_zero, List.set_cons_succ]))
                (refine wpAnyT_take (i := 18) (v := ?v18t43) (by simp only [List.getElem?_toArray, List.getElem?_cons_succ, List.getElem?_cons_zero]; rfl) (by kernel_rfl) (by kernel_rfl) (by kernel_rfl) (by decide) (fun _ _ _ h => False.elim h) (Or.inl ⟨by rfl, ?hy18t43⟩) (by exact ⟨HT.out _ _ (HS.out _ HmC.out).1 ((Mod.refl [C] _).setCell (.inl (by simp)) _), fun h => absurd h (by decide)⟩) ?rest18t43; (case hy18t43 => (intro w hSw; (try dsimp only at hSw); go_simp; (try with_reducible rfl))); (try simp only [Act.put, List.setIfInBounds_toArray, List.set_cons_zero, List.set_cons_succ]))
                (refine wpAnyT_ready (rs := [19]) (by kernel_rfl) (by simp) ?_; refine AllReadyT.cons (o := _) (by simp only [List.getElem?_toArray, List.getElem?_cons_succ, List.getElem?_cons_zero]; rfl) (fun K hK => ?_) AllReadyT.nil; go_simp; (skip); refine hK.out _ _ (by exact ⟨HT.out _ _ (HS.out _ HmC.out).1 (((Mod.refl [C] _).setCell (.inl (by simp)) _).setCell (.inl (by simp)) _), fun h => absurd h (by decide)⟩) (fun _ => ?_); clear hK K; (try simp only [Act.put, List.setIfInBounds_toArray, List.set_cons_zero, List.set_cons_succ]))
                refine wpAnyT_done (by kernel_rfl) ?_ _
                refine NoPanic.normal ?_
                go_wp2
                go_roundw
                case rel =>
                  have hpm := HReC.out
                  rw [← padI_succ _ (by rw [HPk.out.l4]; exact hmj0), ← padI_succ _ (by rw [HPk.out.l3]; exact hmj0)] at hpm
                  obtain ⟨e0, e1, _⟩ := HSK.out _ HmC.out
                  have hMC : Mod [C] wC2 ((wC2.setCell ⟨C, 4, none⟩ (.slice (some ⟨gC, 0, none⟩) (mj + 1) kC)).setCell ⟨C, 3, none⟩ (.slice (some ⟨hC, 0, none⟩) (mj + 1) lC)) := ((Mod.refl [C] _).setCell (.inl (by simp)) _).setCell (.inl (by simp)) _
                  exact ⟨mj + 1, _, _, _, _, by omega, by omega, hpm, (hMC.block P0 (block_lt e0) (by simpa using HPC)).trans e0, (hMC.block P1 (block_lt e1) (by simpa using HPC1)).trans e1⟩
                case measure =>
                  have e1 : cellL wr C 4 = mj := by unfold cellL; rw [cellL_box HPj.out.box]
                  have e2 : cellL ((wC2.setCell ⟨C, 4, none⟩ (.slice (some ⟨gC, 0, none⟩) (mj + 1) kC)).setCell ⟨C, 3, none⟩ (.slice (some ⟨hC, 0, none⟩) (mj + 1) lC)) C 4 = mj + 1 := by unfold cellL; rw [cellL_box HReC.out.box]
                  first
                    | (rw [e1, e2]; omega)
                    | (have e3 : ∀ V : World, cellL V.drew C 4 = cellL V C 4 := fun _ => rfl; simp only [e3]; rw [e1, e2]; omega)
            · have d1 : decide ((mj : Int) ≤ (bb : Int) + (p : Int)) = false := by simp; omega
              have d2 : decide (mj ≤ bb + p) = false := by simp; omega
              have hmx : mj = max mk (bb + p + 1) := by omega
              obtain ⟨g3, hg3⟩ := own_some HPj.out.own3 (by omega)
              obtain ⟨g4, hg4⟩ := own_some HPj.out.own4 (by omega)
              subst hg3 hg4
              go_wp2_with fail
              go_quiet (fail)
              go_wp2_with fail
              obtain ⟨Wq, hWq⟩ : ∃ Wq, wr.drewN nq = Wq := ⟨_, rfl⟩
              have hpq := HPj.out.drewN nq
              rw [hWq] at hpq
              have hq0 : Wq.heap[P0]? = some (.cells #[.pointer (some ⟨C, 0, none⟩)] 152 (0, 0)) := by rw [← hWq]; exact HJ0.out
              have hq1 : Wq.heap[P1]? = some (.cells #[.int .i64 (bb : Int)] 3 (0, 0)) := by rw [← hWq]; exact HJ1.out
              obtain ⟨nb, no, hna, hnc⟩ := rd_i64 (HRN.out Wq hpq.mod) p (by rw [HNL.out]; exact hpnl)
              obtain ⟨N, hN⟩ : ∃ N, nums.getD p 0 = N := ⟨_, rfl⟩
              have sk : ∀ V, Mod [g3, g4] Wq V → V.heap[P0]? = some (.cells #[.pointer (some ⟨C, 0, none⟩)] 152 (0, 0)) ∧ V.heap[P1]? = some (.cells #[.int .i64 (bb : Int)] 3 (0, 0)) ∧ (V.cell? ⟨P0, 0, none⟩ = some (.pointer (some ⟨C, 0, none⟩)) ∧ V.cell? ⟨P1, 0, none⟩ = some (.int .i64 (bb : Int)) ∧ V.cell? ⟨C, 3, none⟩ = some (.slice (some ⟨g3, 0, none⟩) mj c3j) ∧ V.cell? ⟨C, 4, none⟩ = some (.slice (some ⟨g4, 0, none⟩) mj c4j) ∧ V.cell? ⟨nb, no + p, none⟩ = some (.int .i64 N)) := fun V hV => by
                have q3 := hpq.b3 g3 rfl
                have q4 := hpq.b4 g4 rfl
                have v3 := hpq.av ⟨g3, 0, none⟩ (.inl rfl)
                have v4 := hpq.av ⟨g4, 0, none⟩ (.inr rfl)
                have hc := hpq.hC
                simp at v3 v4
                have e0 := (hV.block P0 (block_lt hq0) (by simp; omega)).trans hq0
                have e1 := (hV.block P1 (block_lt hq1) (by simp; omega)).trans hq1
                have e2 := (hV.block C (block_lt hpq.box) (by simp; omega)).trans hpq.box
                obtain ⟨_, _, _, e3, e4⟩ := box5 e2
                obtain ⟨b', o', ha', hc'⟩ := rd_i64 (HRN.out V (hpq.mod.trans hV (fun x hx => .inr (by simp at hx; omega)))) p (by rw [HNL.out]; exact hpnl)
                rw [hna] at ha'
                cases ha'
                rw [hN] at hc'
                exact ⟨e0, e1, cell_block e0 0, cell_block e1 0, e3, e4, hc'⟩
              have hset := hpq.drew.setSlot (bb + p) (i : Int) N
              obtain ⟨r3, _, _⟩ := Rx.of_own hpq.own3
              obtain ⟨r4, _, _⟩ := Rx.of_own hpq.own4
              obtain ⟨x4, t4⟩ : ∃ x, Wq.cell? ⟨g4, bb + p, none⟩ = some x := ⟨_, r4.cell (bb + p) (by rw [i64s_length, hpq.l4]; omega)⟩
              have f4 := r4.fr (bb + p)
              have r3' := r3.other (b := g4) (fun e => hpq.ap ⟨g3, 0, none⟩ ⟨g4, 0, none⟩ rfl rfl e.symm) (bb + p) (.int .i64 (i : Int))
              obtain ⟨x3, t3⟩ : ∃ x, Wq.cell? ⟨g3, bb + p, none⟩ = some x := ⟨_, r3.cell (bb + p) (by rw [i64s_length, hpq.l3]; omega)⟩
              have f3 := r3.fr (bb + p)
              obtain ⟨y3, u3⟩ : ∃ x, (Wq.setCell ⟨g4, bb + p, none⟩ (.int .i64 (i : Int))).cell? ⟨g3, bb + p, none⟩ = some x := ⟨_, r3'.cell (bb + p) (by rw [i64s_length, hpq.l3]; omega)⟩
              have v3 := r3'.fr (bb + p)
              have hM1 : ∀ v, Mod [g3, g4] Wq (Wq.drew.setCell ⟨g4, bb + p, none⟩ v) := fun v => ((Mod.refl [g3, g4] Wq).drew).setCell (.inl (by simp)) v
              have hM2 : ∀ v u, Mod [g3, g4] Wq ((Wq.drew.setCell ⟨g4, bb + p, none⟩ v).setCell ⟨g3, bb + p, none⟩ u) := fun v u => (hM1 v).setCell (.inl (by simp)) u
              have HM1 := Lib.hid hM1
              have HM2 := Lib.hid hM2
              have HSK := Lib.hid sk
              have HSet := Lib.hid hset
              have HNv := Lib.hid hN
              have HWq := Lib.hid hWq
              have hne34 : g4 ≠ g3 := fun e => hpq.ap ⟨g3, 0, none⟩ ⟨g4, 0, none⟩ rfl rfl e.symm
              have i1 : (bb : Int) + (p : Int) < (mj : Int) := by omega
              have i2 : (0 : Int) ≤ (bb : Int) + (p : Int) := by omega
              have i3 : ((bb : Int) + (p : Int)).toNat = bb + p := by omega
              have i4 : (p : Int) < (nl : Int) := by omega
              have i5 : (0 : Int) ≤ (p : Int) := by omega
              have n0 : Mod [g3, g4] Wq Wq.drew := (Mod.refl _ _).drew
              have HNA := Lib.hid hna
              subst hna
              clear hpq hq0 hq1 sk hset r3 r4 r3' hM1 hM2 hN hWq hnc z0 z1 z2 z3 z4 k0 k1
              rw [HWq.out]
              refine wp_region_noPanic ?_
              refine wp_region_held_drew (S := fun V => V.cell? ⟨P0, 0, none⟩ = some (.pointer (some ⟨C, 0, none⟩)) ∧ V.cell? ⟨P1, 0, none⟩ = some (.int .i64 (bb : Int)) ∧ V.cell? ⟨C, 3, none⟩ = some (.slice (some ⟨g3, 0, none⟩) mj c3j) ∧ V.cell? ⟨C, 4, none⟩ = some (.slice (some ⟨g4, 0, none⟩) mj c4j) ∧ V.cell? ⟨nb, no + p, none⟩ = some (.int .i64 N)) (by kernel_rfl) (HSK.out _ n0).2.2 (fun hHeld => ?_)
              (refine wpAnyH_take (i := 0) (v := ?v0n1) (by simp only [List.getElem?_toArray, List.getElem?_cons_succ, List.getElem?_cons_zero]; rfl) (by kernel_rfl) (by kernel_rfl) (by kernel_rfl) (fun _ _ _ h => False.elim h) (Or.inl ⟨by rfl, ?hy0n1⟩) (by assumption) ?rest0n1; (case hy0n1 => (intro w hSw; (try dsimp only at hSw); go_simp; (try with_reducible rfl))); (try simp only [Act.put, List.setIfInBounds_toArray, List.set_cons_zero, List.set_cons_succ]))
              (refine wpAnyH_take (i := 4) (v := ?v4n2) (by simp only [List.getElem?_toArray, List.getElem?_cons_succ, List.getElem?_cons_zero]; rfl) (by kernel_rfl) (by kernel_rfl) (by kernel_rfl) (fun _ _ _ h => False.elim h) (Or.inl ⟨by rfl, ?hy4n2⟩) (by assumption) ?rest4n2; (case hy4n2 => (intro w hSw; (try dsimp only at hSw); go_simp; (try with_reducible rfl))); (try simp only [Act.put, List.setIfInBounds_toArray, List.set_cons_zero, List.set_cons_succ]))
              (refine wpAnyH_take (i := 5) (v := ?v5n3) (by simp only [List.getElem?_toArray, List.getElem?_cons_succ, List.getElem?_cons_zero]; rfl) (by kernel_rfl) (by kernel_rfl) (by kernel_rfl) (fun _ _ _ h => False.elim h) (Or.inl ⟨by rfl, ?hy5n3⟩) (by assumption) ?rest5n3; (case hy5n3 => (intro w hSw; (try dsimp only at hSw); go_simp; (try with_reducible rfl))); (try simp only [Act.put, List.setIfInBounds_toArray, List.set_cons_zero, List.set_cons_succ]))
              (refine wpAnyH_take (i := 7) (v := ?v7n4) (by simp only [List.getElem?_toArray, List.getElem?_cons_succ, List.getElem?_cons_zero]; rfl) (by kernel_rfl) (by kernel_rfl) (by kernel_rfl) (fun _ _ _ h => False.elim h) (Or.inl ⟨by rfl, ?hy7n4⟩) (by assumption) ?rest7n4; (case hy7n4 => (intro w hSw; (try dsimp only at hSw); go_simp; (try with_reducible rfl))); (try simp only [Act.put, List.setIfInBounds_toArray, List.set_cons_zero, List.set_cons_succ]))
              (refine wpAnyH_take (i := 11) (v := ?v11n5) (by simp only [List.getElem?_toArray, List.getElem?_cons_succ, List.getElem?_cons_zero]; rfl) (by kernel_rfl) (by kernel_rfl) (by kernel_rfl) (fun _ _ _ h => False.elim h) (Or.inl ⟨by rfl, ?hy11n5⟩) (by assumption) ?rest11n5; (case hy11n5 => (intro w hSw; (try dsimp only at hSw); go_simp; (try with_reducible rfl))); (try simp only [Act.put, List.setIfInBounds_toArray, List.set_cons_zero, List.set_cons_succ]))
              (refine wpAnyH_take (i := 12) (v := ?v12n6) (by simp only [List.getElem?_toArray, List.getElem?_cons_succ, List.getElem?_cons_zero]; rfl) (by kernel_rfl) (by kernel_rfl) (by kernel_rfl) (fun _ _ _ h => False.elim h) (Or.inl ⟨by rfl, ?hy12n6⟩) (by assumption) ?rest12n6; (case hy12n6 => (intro w hSw; (try dsimp only at hSw); go_simp; (try with_reducible rfl))); (try simp only [Act.put, List.setIfInBounds_toArray, List.set_cons_zero, List.set_cons_succ]))
              (refine wpAnyH_take (i := 14) (v := ?v14n7) (by simp only [List.getElem?_toArray, List.getElem?_cons_succ, List.getElem?_cons_zero]; rfl) (by kernel_rfl) (by kernel_rfl) (by kernel_rfl) (fun _ _ _ h => False.elim h) (Or.inl ⟨by rfl, ?hy14n7⟩) (by assumption) ?rest14n7; (case hy14n7 => (intro w hSw; (try dsimp only at hSw); go_simp; (try with_reducible rfl))); (try simp only [Act.put, List.setIfInBounds_toArray, List.set_cons_zero, List.set_cons_succ]))
              (refine wpAnyH_take (i := 15) (v := ?v15n8) (by simp only [List.getElem?_toArray, List.getElem?_cons_succ, List.getElem?_cons_zero]; rfl) (by kernel_rfl) (by kernel_rfl) (by kernel_rfl) (fun _ _ _ h => False.elim h) (Or.inl ⟨by rfl, ?hy15n8⟩) (by assumption) ?rest15n8; (case hy15n8 => (intro w hSw; (try dsimp only at hSw); go_simp; (try with_reducible rfl))); (try simp only [Act.put, List.setIfInBounds_toArray, List.set_cons_zero, List.set_cons_succ]))
              (refine wpAnyH_take (i := 16) (v := ?v16n9) (by simp only [List.getElem?_toArray, List.getElem?_cons_succ, List.getElem?_cons_zero]; rfl) (by kernel_rfl) (by kernel_rfl) (by kernel_rfl) (fun _ _ _ h => False.elim h) (Or.inl ⟨by rfl, ?hy16n9⟩) (by assumption) ?rest16n9; (case hy16n9 => (intro w hSw; (try dsimp only at hSw); go_simp; (try with_reducible rfl))); (try simp only [Act.put, List.setIfInBounds_toArray, List.set_cons_zero, List.set_cons_succ]))
              (refine wpAnyH_take (i := 1) (v := ?v1n10) (by simp only [List.getElem?_toArray, List.getElem?_cons_succ, List.getElem?_cons_zero]; rfl) (by kernel_rfl) (by kernel_rfl) (by kernel_rfl) (fun _ _ _ h => False.elim h) (Or.inl ⟨by rfl, ?hy1n10⟩) (by assumption) ?rest1n10; (case hy1n10 => (intro w hSw; (try dsimp only at hSw); go_simp; (try with_reducible rfl))); (try simp only [Act.put, List.setIfInBounds_toArray, List.set_cons_zero, List.set_cons_succ]))
              (refine wpAnyH_take (i := 2) (v := ?v2n11) (by simp only [List.getElem?_toArray, List.getElem?_cons_succ, List.getElem?_cons_zero]; rfl) (by kernel_rfl) (by kernel_rfl) (by kernel_rfl) (fun _ _ _ h => False.elim h) (Or.inl ⟨by rfl, ?hy2n11⟩) (by assumption) ?rest2n11; (case hy2n11 => (intro w hSw; (try dsimp only at hSw); go_simp; (try with_reducible rfl))); (try simp only [Act.put, List.setIfInBounds_toArray, List.set_cons_zero, List.set_cons_succ]))
              (refine wpAnyH_take (i := 3) (v := ?v3n12) (by simp only [List.getElem?_toArray, List.getElem?_cons_succ, List.getElem?_cons_zero]; rfl) (by kernel_rfl) (by kernel_rfl) (by kernel_rfl) (fun _ _ _ h => False.elim h) (Or.inl ⟨by rfl, ?hy3n12⟩) (by assumption) ?rest3n12; (case hy3n12 => (intro w hSw; (try dsimp only at hSw); go_simp; (try with_reducible rfl))); (try simp only [Act.put, List.setIfInBounds_toArray, List.set_cons_zero, List.set_cons_succ]))
              (refine wpAnyH_take (i := 6) (v := ?v6n13) (by simp only [List.getElem?_toArray, List.getElem?_cons_succ, List.getElem?_cons_zero]; rfl) (by kernel_rfl) (by kernel_rfl) (by kernel_rfl) (fun _ _ _ h => False.elim h) (Or.inl ⟨by rfl, ?hy6n13⟩) (by assumption) ?rest6n13; (case hy6n13 => (intro w hSw; (try dsimp only at hSw); go_simp; (try with_reducible rfl))); (try simp only [Act.put, List.setIfInBounds_toArray, List.set_cons_zero, List.set_cons_succ]))
              (refine wpAnyH_take (i := 8) (v := ?v8n14) (by simp only [List.getElem?_toArray, List.getElem?_cons_succ, List.getElem?_cons_zero]; rfl) (by kernel_rfl) (by kernel_rfl) (by kernel_rfl) (fun _ _ _ h => False.elim h) (Or.inl ⟨by rfl, ?hy8n14⟩) (by assumption) ?rest8n14; (case hy8n14 => (intro w hSw; (try dsimp only at hSw); go_simp; (try with_reducible rfl))); (try simp only [Act.put, List.setIfInBounds_toArray, List.set_cons_zero, List.set_cons_succ]))
              (refine wpAnyH_take (i := 9) (v := ?v9n15) (by simp only [List.getElem?_toArray, List.getElem?_cons_succ, List.getElem?_cons_zero]; rfl) (by kernel_rfl) (by kernel_rfl) (by kernel_rfl) (fun _ _ _ h => False.elim h) (Or.inl ⟨by rfl, ?hy9n15⟩) (by assumption) ?rest9n15; (case hy9n15 => (intro w hSw; (try dsimp only at hSw); go_simp; (try with_reducible rfl))); (try simp only [Act.put, List.setIfInBounds_toArray, List.set_cons_zero, List.set_cons_succ]))
              (refine wpAnyH_take (i := 10) (v := ?v10n16) (by simp only [List.getElem?_toArray, List.getElem?_cons_succ, List.getElem?_cons_zero]; rfl) (by kernel_rfl) (by kernel_rfl) (by kernel_rfl) (fun _ _ _ h => False.elim h) (Or.inl ⟨by rfl, ?hy10n16⟩) (by assumption) ?rest10n16; (case hy10n16 => (intro w hSw; (try dsimp only at hSw); go_simp; (try with_reducible rfl))); (try simp only [Act.put, List.setIfInBounds_toArray, List.set_cons_zero, List.set_cons_succ]))
              (refine wpAnyH_take (i := 13) (v := ?v13n17) (by simp only [List.getElem?_toArray, List.getElem?_cons_succ, List.getElem?_cons_zero]; rfl) (by kernel_rfl) (by kernel_rfl) (by kernel_rfl) (fun _ _ _ h => False.elim h) (Or.inl ⟨by rfl, ?hy13n17⟩) (by assumption) ?rest13n17; (case hy13n17 => (intro w hSw; (try dsimp only at hSw); go_simp; (try with_reducible rfl))); (try simp only [Act.put, List.setIfInBounds_toArray, List.set_cons_zero, List.set_cons_succ]))
              (refine wpAnyH_take (i := 17) (v := ?v17n18) (by simp only [List.getElem?_toArray, List.getElem?_cons_succ, List.getElem?_cons_zero]; rfl) (by kernel_rfl) (by kernel_rfl) (by kernel_rfl) (fun _ _ _ h => False.elim h) (Or.inl ⟨by rfl, ?hy17n18⟩) (by assumption) ?rest17n18; (case hy17n18 => (intro w hSw; (try dsimp only at hSw); go_simp; (try with_reducible rfl))); (try simp only [Act.put, List.setIfInBounds_toArray, List.set_cons_zero, List.set_cons_succ]))
              (refine wpAnyH_take (i := 18) (v := ?v18n19) (by simp only [List.getElem?_toArray, List.getElem?_cons_succ, List.getElem?_cons_zero]; rfl) (by kernel_rfl) (by kernel_rfl) (by kernel_rfl) (fun _ _ _ h => False.elim h) (Or.inl ⟨by rfl, ?hy18n19⟩) (by assumption) ?rest18n19; (case hy18n19 => (intro w hSw; (try dsimp only at hSw); go_simp; (try with_reducible rfl))); (try simp only [Act.put, List.setIfInBounds_toArray, List.set_cons_zero, List.set_cons_succ]))
              (refine wpAnyH_take (i := 19) (v := ?v19n20) (by simp only [List.getElem?_toArray, List.getElem?_cons_succ, List.getElem?_cons_zero]; rfl) (by kernel_rfl) (by kernel_rfl) (by kernel_rfl) (fun _ _ _ h => False.elim h) (Or.inl ⟨by rfl, ?hy19n20⟩) (by assumption) ?rest19n20; (case hy19n20 => (intro w hSw; (try dsimp only at hSw); go_simp; (try with_reducible rfl))); (try simp only [Act.put, List.setIfInBounds_toArray, List.set_cons_zero, List.set_cons_succ]))
              (refine wpAnyH_ready (rs := [20]) (by kernel_rfl) (by simp) ?_; refine AllReadyH.cons (o := _) (by simp only [List.getElem?_toArray, List.getElem?_cons_succ, List.getElem?_cons_zero]; rfl) (fun K hK => ?_) AllReadyH.nil; go_simp; (skip); refine hK.out _ _ (by exact (HSK.out _ (HM1.out _)).2.2) (fun hHeld => ?_); clear hK K; (try simp only [Act.put, List.setIfInBounds_toArray, List.set_cons_zero, List.set_cons_succ]))
              (refine wpAnyH_take (i := 21) (v := ?v21n21) (by simp only [List.getElem?_toArray, List.getElem?_cons_succ, List.getElem?_cons_zero]; rfl) (by kernel_rfl) (by kernel_rfl) (by kernel_rfl) (fun _ _ _ h => False.elim h) (Or.inl ⟨by rfl, ?hy21n21⟩) (by assumption) ?rest21n21; (case hy21n21 => (intro w hSw; (try dsimp only at hSw); go_simp; (try with_reducible rfl))); (try simp only [Act.put, List.setIfInBounds_toArray, List.set_cons_zero, List.set_cons_succ]))
              (refine wpAnyH_ready (rs := [22]) (by kernel_rfl) (by simp) ?_; refine AllReadyH.cons (o := _) (by simp only [List.getElem?_toArray, List.getElem?_cons_succ, List.getElem?_cons_zero]; rfl) (fun K hK => ?_) AllReadyH.nil; go_simp; (skip); refine hK.out _ _ (by exact (HSK.out _ (HM2.out _ _)).2.2) (fun hHeld => ?_); clear hK K; (try simp only [Act.put, List.setIfInBounds_toArray, List.set_cons_zero, List.set_cons_succ]))
              refine wpAnyH_done (by kernel_rfl) ?_ _
              refine NoPanic.normal ?_
              clear t4 f4 t3 f3 u3 v3
              go_wp2
              go_roundw
              case rel =>
                have hpm := HSet.out
                have e1 : ({ { base := S.base, check := padI S.check mj (-1), next := padI S.next mj 0 : Ly } with check := (padI S.check mj (-1)).set (bb + p) (i : Int), next := (padI S.next mj 0).set (bb + p) N } : Ly) = putS st i bb nums (ps.take (k + 1)) := by
                  rw [HSn.out, padI_max (-1) HPk.out.l4 hmx, padI_max 0 HPk.out.l3 hmx, HNv.out, ← HSb.out]
                rw [e1] at hpm
                exact ⟨k + 1, mj, _, _, _, _, hlt, by go_num, by omega, hpm, (HSK.out _ (HM2.out _ _)).1, (HSK.out _ (HM2.out _ _)).2.1⟩
              case measure => simp [intOf]; omega
        · obtain rfl : k = pl := by omega
          rw [List.take_of_length_le (by rw [HPL.out]; exact Nat.le_refl _)] at hpk
          have hnlt : ¬ (k : Int) < (k : Int) := by omega
          have HPk := Lib.hid hpk
          clear hpk hk0 hk1
          go_wp2
          go_end0
          exact ⟨rfl, mk, hmk, a3k, c3k, a4k, c4k, HPk.out.less (by simp)⟩
end Cb
end Go.Proofs.YteekonojmpihlaaDoor
