/- dofferlaw33.RobinPlays returns true. Condition: the sentinels read as laid. -/
import Derived.Test.YtjohljpcoodijaaDoorRobinPlays
import Derived.Deep.RegionHeld3
import Derived.Deep.CutBlock
namespace Go.Proofs.YtjohljpcoodijaaDoor
open Go Go.RowKit Kt Rb R33
namespace RbP
/-- An act's three cells. -/
def c3 (x : Int × Int × Bool) : List Value := [.int .i64 x.1, .int .i64 x.2.1, .bool x.2.2]
def PlR (w : World) (p z n : Nat) (Q : Int) (i : Value) (W : World) : Prop := ∃ (k : Nat) (l : List (Int × Int)) (on : Bool), k ≤ n ∧ i = .int .i64 k ∧ l.length ≤ k ∧ Bd (256 * k) l ∧ P0 w W p z Q l on l on
/-- Behind an act. -/
def PlM (w : World) (p z y k : Nat) (c : Array Value) (Q : Int) (v : Value) (W : World) : Prop := v = .bool true ∧ ∃ (l : List (Int × Int)) (on : Bool), l.length ≤ k + 1 ∧ Bd (256 * k + 256) l ∧ Pl w W p z y c Q l on l on

set_option maxHeartbeats 8000000 in
set_option maxRecDepth 100000 in
theorem plays_c (A : Nat → Addr) (q0 : Int) (a : Option Addr) (cap n : Nat) (l : List (Int × Int × Bool)) (w : World) (hn : l.length = n) (h63 : n ≤ 9223372036854775807) (hr : Rd w a (l.flatMap c3)) (hs : Sent 152 w A Er.egs) :
    Calls Tryd.prog 13 #[.int .i64 q0, .slice a n cap] w fun e w' => e = .returned (.bool true) ∧ Below w.heap.size w w' := by
  by_cases h100 : n ≤ 100
  · have hd : decide (100 < (n : Int)) = false := by simp; omega
    by_cases hq : q0 < 1 ∨ 256 < q0
    · rcases hq with h | h
      · have hb : decide (q0 < 1) = true := by simp; omega
        go_enter Tryd.func13, Tryd.ntmps13
        go_wp2_with fail
        refine (alive_c w).mono ?_
        rintro e w1 ⟨rfl, hb1⟩
        go_wp2_with fail
        refine (new_bad A q0 w1 (.inl h) ((hs.keep hb1).sub (by decide))).mono ?_
        rintro e w2 ⟨rfl, hb2⟩
        have B2 := hb1.trans (hb2.mono hb1.size)
        go_wp2_with (go_at_call 34; (with_reducible refine (Er.num_at A 1 1 0 (by omega) rfl rfl _ (hs.keep B2)).mono ?_); rintro e w3 ⟨rfl, hb3⟩)
        go_ret
        exact ⟨rfl, B2.trans (hb3.mono B2.size)⟩
      · have hb : decide (q0 < 1) = false := by simp; omega
        have hb' : decide (256 < q0) = true := by simp; omega
        go_enter Tryd.func13, Tryd.ntmps13
        go_wp2_with fail
        refine (alive_c w).mono ?_
        rintro e w1 ⟨rfl, hb1⟩
        go_wp2_with fail
        refine (new_bad A q0 w1 (.inr h) ((hs.keep hb1).sub (by decide))).mono ?_
        rintro e w2 ⟨rfl, hb2⟩
        have B2 := hb1.trans (hb2.mono hb1.size)
        go_wp2_with (go_at_call 34; (with_reducible refine (Er.num_at A 1 1 0 (by omega) rfl rfl _ (hs.keep B2)).mono ?_); rintro e w3 ⟨rfl, hb3⟩)
        go_ret
        exact ⟨rfl, B2.trans (hb3.mono B2.size)⟩
    · have hq1 : 1 ≤ q0 := by omega
      have hq2 : q0 ≤ 256 := by omega
      have hb : decide (q0 < 1) = false := by simp; omega
      have hb' : decide (256 < q0) = false := by simp; omega
      have Hn := Lib.hid hn
      clear hq hn
      go_enter Tryd.func13, Tryd.ntmps13
      go_wp2_with fail
      refine (alive_c w).mono ?_
      rintro e w1 ⟨rfl, hb1⟩
      go_wp2_with fail
      refine (newL q0 w w1 hb1 hq1 hq2).mono ?_
      rintro e w2 ⟨p, rfl, hL, hp, hb2⟩
      have hS : P0 w (w2.alloc (.cells #[.int .i64 q0, .slice none 0 0, .slice none 0 0, .bool false] 94)) p w2.heap.size q0 [] false [] false := by
        have b0 := (Below.refl w2.heap.size w2).alloc (Nat.le_refl _) (.cells #[.int .i64 q0, .slice none 0 0, .slice none 0 0, .bool false] 94)
        refine ⟨[], [], [], hL.below b0, ⟨⟨none, 0, none, 0, heap_alloc_new _ _, World.ownsRow_nil _ _ _ _, World.ownsRow_nil _ _ _ _, rfl, rfl⟩, by simp, by simp, by simp⟩, ?_, ?_⟩
        · intro k hk hm
          have : k = p := by simpa using hk
          have h2 : k = w2.heap.size := by simpa using hm
          have := hL.i.plt
          omega
        · intro k hk
          have h2 : k = w2.heap.size := by simpa using hk
          have := hL.B.size
          omega
      obtain ⟨z, hz⟩ : ∃ z, w2.heap.size = z := ⟨_, rfl⟩
      rw [hz] at hS
      have HS := Lib.hid hS
      clear hS hL hp hb1 hb2
      go_wp2_with fail
      go_loopw [9, 10, 11, 12, 13, 14, 15, 16, 17, 18, 19, 54] (fun _ _ _ _ _ _ _ _ _ _ _ i W => PlR w p z n q0 i W) (fun _ _ _ _ _ _ _ _ _ _ _ i _ => n - (intOf i).toNat)
      case atStart => exact ⟨0, [], false, Nat.zero_le _, rfl, by simp, (by intro z hz; cases hz), HS.out⟩
      case round =>
        clear HS hz
        obtain ⟨k, us, on, hk, rfl, hus, hbd, hP⟩ := hrel
        by_cases hlt : k < n
        · obtain ⟨b, off, ha, hcs⟩ := (hr.keep hP.B).struct 3 (by intro z _; rfl) k (by rw [Hn.out]; exact hlt) (by omega)
          have k0 := hcs 0 _ rfl (by omega)
          have k1 := hcs 1 _ rfl (by omega)
          have k2 := hcs 2 _ rfl (by omega)
          clear hr hcs
          subst ha
          generalize l[k]'(by rw [Hn.out]; exact hlt) = act at *
          obtain ⟨kd, m, st⟩ := act
          simp only [Nat.add_zero] at k0 k1 k2
          rw [← Nat.add_assoc] at k1 k2
          have hP1 := hP.alloc #[.int .i64 kd, .int .i64 m, .bool st]
          obtain ⟨y, hy⟩ : ∃ y, wr.heap.size = y := ⟨_, rfl⟩
          rw [hy] at hP1
          have HP1 := Lib.hid hP1
          have HBd := Lib.hid hbd
          have z0 := cell_block hP1.act 0
          have z1 := cell_block hP1.act 1
          have z2 := cell_block hP1.act 2
          simp at z0 z1 z2
          clear hP hP1 hbd
          go_upto_block 2 with (fail)
          go_cut [10] (fun v W => PlM w p z y k #[.int .i64 kd, .int .i64 m, .bool st] q0 v W)
          case first =>
            have sk : ∀ W : World, W.heap[y]? = some (.cells #[.int .i64 kd, .int .i64 m, .bool st] 96 (0, 0)) → W.cell? ⟨y, 1, none⟩ = some (.int .i64 m) ∧ W.cell? ⟨y, 2, none⟩ = some (.bool st) := fun W h => ⟨cell_block h 1, cell_block h 2⟩
            have SK := Lib.hid sk
            have y0 := HP1.out.act
            clear sk
            have hus2 : us.length ≤ 100000 := by omega
            have hbd9 : Bd 1000000000 us := HBd.out.mono (by omega)
            have HBd9 := Lib.hid hbd9
            clear hbd9
            by_cases h0 : kd = 0
            · subst h0
              obtain ⟨bb, hbb⟩ : ∃ bb, addB us m = bb := ⟨_, rfl⟩
              have cA : ∀ W l2 on2, Pl w W p z y #[.int .i64 0, .int .i64 m, .bool st] q0 us on l2 on2 → Calls Tryd.prog 23 #[.pointer (some ⟨p, 0, none⟩), .int .i64 m] W fun e W' => e = .returned (.bool bb) ∧ Pl w W' p z y #[.int .i64 0, .int .i64 m, .bool st] q0 (addL us m) (on) l2 on2 := by
                intro W l2 on2 h; subst hbb; exact addA m h hus2
              have cR : ∀ W l1 on1, Pl w W p z y #[.int .i64 0, .int .i64 m, .bool st] q0 l1 on1 us on → Calls Tryd.prog 63 #[.pointer (some ⟨z, 0, none⟩), .int .i64 m] W fun e W' => e = .returned (.bool bb) ∧ Pl w W' p z y #[.int .i64 0, .int .i64 m, .bool st] q0 l1 on1 (addL us m) (on) := by
                intro W l1 on1 h; subst hbb; exact addR m h hus2
              have CA := Lib.hid cA
              have CR := Lib.hid cR
              clear cA cR hbb
              go_wp2_with fail
              go_region_held3 (fun W => W.cell? ⟨y, 1, none⟩ = some (.int .i64 m) ∧ W.cell? ⟨y, 2, none⟩ = some (.bool st))
                (first | exact SK.out _ y2 | exact SK.out _ y1 | exact SK.out _ y0)
                (first
                  | (go_at_call 23; (with_reducible refine (CA.out _ us on (HP1.out.below (Below.refl _ _).drew)).mono ?_); rintro e w5 ⟨rfl, hP5⟩
                     have y1 := hP5.act)
                  | (go_at_call 63; (with_reducible refine (CR.out _ (addL us m) (on) hP5).mono ?_); rintro e w6 ⟨rfl, hP6⟩
                     have y2 := hP6.act))
              have HP6 := Lib.hid hP6
              clear hP5 hP6 y0 y1 y2 z0 z1 z2
              go_wp2
              go_meet
              case rel => exact ⟨by simp, addL us m, on, by have := addL_len us m; omega, (HBd.out.add (by omega) m).mono (by omega), HP6.out⟩
            · by_cases h1 : kd = 1
              · subst h1
                obtain ⟨bb, hbb⟩ : ∃ bb, drpB us m = bb := ⟨_, rfl⟩
                have cA : ∀ W l2 on2, Pl w W p z y #[.int .i64 1, .int .i64 m, .bool st] q0 us on l2 on2 → Calls Tryd.prog 58 #[.pointer (some ⟨p, 0, none⟩), .int .i64 m] W fun e W' => e = .returned (.bool bb) ∧ Pl w W' p z y #[.int .i64 1, .int .i64 m, .bool st] q0 (drpL us m) (drpO us on m) l2 on2 := by
                  intro W l2 on2 h; subst hbb; exact dropA m h hus2
                have cR : ∀ W l1 on1, Pl w W p z y #[.int .i64 1, .int .i64 m, .bool st] q0 l1 on1 us on → Calls Tryd.prog 64 #[.pointer (some ⟨z, 0, none⟩), .int .i64 m] W fun e W' => e = .returned (.bool bb) ∧ Pl w W' p z y #[.int .i64 1, .int .i64 m, .bool st] q0 l1 on1 (drpL us m) (drpO us on m) := by
                  intro W l1 on1 h; subst hbb; exact dropR m h hus2
                have CA := Lib.hid cA
                have CR := Lib.hid cR
                clear cA cR hbb
                go_wp2_with fail
                go_region_held3 (fun W => W.cell? ⟨y, 1, none⟩ = some (.int .i64 m) ∧ W.cell? ⟨y, 2, none⟩ = some (.bool st))
                  (first | exact SK.out _ y2 | exact SK.out _ y1 | exact SK.out _ y0)
                  (first
                    | (go_at_call 58; (with_reducible refine (CA.out _ us on (HP1.out.below (Below.refl _ _).drew)).mono ?_); rintro e w5 ⟨rfl, hP5⟩
                       have y1 := hP5.act)
                    | (go_at_call 64; (with_reducible refine (CR.out _ (drpL us m) (drpO us on m) hP5).mono ?_); rintro e w6 ⟨rfl, hP6⟩
                       have y2 := hP6.act))
                have HP6 := Lib.hid hP6
                clear hP5 hP6 y0 y1 y2 z0 z1 z2
                go_wp2
                go_meet
                case rel => exact ⟨by simp, drpL us m, drpO us on m, by have := drpL_len us m; omega, (HBd.out.drp m).mono (by omega), HP6.out⟩
              · by_cases h2 : kd = 2
                · subst h2
                  obtain ⟨tm, htm⟩ : ∃ tm, trnM us on = tm := ⟨_, rfl⟩
                  obtain ⟨td, htd⟩ : ∃ td, trnD q0 us on = td := ⟨_, rfl⟩
                  obtain ⟨te, hte⟩ : ∃ te, trnE us on = te := ⟨_, rfl⟩
                  have hin := trnE_in us on
                  have tA := turnA hs HP1.out hus2 HBd9.out (by omega) (by omega)
                  have tR : ∀ W l1 on1, Pl w W p z y #[.int .i64 2, .int .i64 m, .bool st] q0 l1 on1 us on → _ := fun W l1 on1 h => turnR h HBd9.out (by omega) (by omega)
                  rw [htm, htd, hte] at tA
                  simp only [htm, htd, hte] at tR
                  rw [hte] at hin
                  have TR := Lib.hid tR
                  have HIn := Lib.hid hin
                  have tlen := trnL_len q0 us on
                  have TLen := Lib.hid tlen
                  clear tR hin tlen htm htd hte
                  go_wp2_with fail
                  refine tA.mono ?_
                  rintro e w5 ⟨rfl, hP5⟩
                  go_wp2_with fail
                  refine (TR.out _ _ _ hP5).mono ?_
                  rintro e w6 ⟨rfl, hP6⟩
                  have HP6 := Lib.hid hP6
                  have hB6 := hP6.B
                  clear hP5 hP6 y0 z0 z1 z2
                  go_wp2_with (go_at_call 34; (with_reducible refine (numE hs te HIn.out hB6).mono ?_); rintro e w7 ⟨rfl, hb7⟩)
                  have HP7 := Lib.hid (HP6.out.below hb7)
                  clear hb7
                  go_meet
                  case rel => exact ⟨by simp, trnL q0 us on, trnO us on, by rw [TLen.out]; omega, (HBd.out.trn (by omega) on).mono (by omega), HP7.out⟩
                · have n0 : (kd == 0) = false := by simp [h0]
                  have n1 : (kd == 1) = false := by simp [h1]
                  have n2 : (kd == 2) = false := by simp [h2]
                  clear h0 h1 h2
                  obtain ⟨de, hde⟩ : ∃ de, dneE m us on = de := ⟨_, rfl⟩
                  have hin := dneE_in m us on
                  have hne := HP1.out.onne
                  have cA : ∀ W l2 on2, Pl w W p z y #[.int .i64 kd, .int .i64 m, .bool st] q0 us on l2 on2 → Calls Tryd.prog 25 #[.pointer (some ⟨p, 0, none⟩), .int .i64 m, .bool st] W fun e W' => e = .returned (evn A de) ∧ Pl w W' p z y #[.int .i64 kd, .int .i64 m, .bool st] q0 (dneL m st us on) (dneO m us on) l2 on2 := by
                    intro W l2 on2 h; subst hde; exact doneA hs m st h hus2 HBd9.out
                  have cR : ∀ W l1 on1, Pl w W p z y #[.int .i64 kd, .int .i64 m, .bool st] q0 l1 on1 us on → Calls Tryd.prog 66 #[.pointer (some ⟨z, 0, none⟩), .int .i64 m, .bool st] W fun e W' => e = .returned (.int .i64 de) ∧ Pl w W' p z y #[.int .i64 kd, .int .i64 m, .bool st] q0 l1 on1 (dneL m st us on) (dneO m us on) := by
                    intro W l1 on1 h; subst hde; exact doneR m st hne h (by omega) HBd9.out
                  rw [hde] at hin
                  have CA := Lib.hid cA
                  have CR := Lib.hid cR
                  have HIn := Lib.hid hin
                  clear cA cR hin hde hne
                  go_wp2_with fail
                  go_region_held3 (fun W => W.cell? ⟨y, 1, none⟩ = some (.int .i64 m) ∧ W.cell? ⟨y, 2, none⟩ = some (.bool st))
                    (first | exact SK.out _ y3 | exact SK.out _ y2 | exact SK.out _ y1 | exact SK.out _ y0)
                    (first
                      | (go_at_call 25; (with_reducible refine (CA.out _ us on (HP1.out.below (Below.refl _ _).drew)).mono ?_); rintro e w5 ⟨rfl, hP5⟩
                         have y1 := hP5.act)
                      | (go_at_call 34; (with_reducible refine (numE hs de HIn.out hP5.B).mono ?_); rintro e w7 ⟨rfl, hb7⟩
                         have hP7 := hP5.below hb7
                         have y2 := hP7.act)
                      | (go_at_call 66; (with_reducible refine (CR.out _ (dneL m st us on) (dneO m us on) hP7).mono ?_); rintro e w6 ⟨rfl, hP6⟩
                         have y3 := hP6.act))
                  have HP6 := Lib.hid hP6
                  clear hP5 hP6 hP7 hb7 y0 y1 y2 y3 z0 z1 z2
                  go_wp2
                  go_meet
                  case rel => exact ⟨by simp, dneL m st us on, dneO m us on, by have := dneL_len m st us on; omega, (HBd.out.dne m st on).mono (by omega), HP6.out⟩
          case rest =>
            obtain ⟨rfl, us2, on2, hl2, hbd2, hP⟩ := hcut
            have HBd2 := Lib.hid hbd2
            clear HP1 HBd hbd2 z0 z1 z2 hy k0 k1 k2
            have hus2 : us2.length ≤ 100000 := by omega
            obtain ⟨fv, hfv⟩ : ∃ fv, fdv us2 m = fv := ⟨_, rfl⟩
            obtain ⟨lv, hlv⟩ : ∃ lv, left us2 m = lv := ⟨_, rfl⟩
            obtain ⟨ov, hov⟩ : ∃ ov, onv us2 on2 = ov := ⟨_, rfl⟩
            obtain ⟨hv, hhv⟩ : ∃ hv, decide (fd us2 m < us2.length) = hv := ⟨_, rfl⟩
            have hfvb : decide (0 ≤ fv) = hv := by
              rw [← hfv, ← hhv]
              unfold fdv
              split
              · simp [*]
              · simp [*]
            have cF : ∀ W, Below wc.heap.size wc W → Calls Tryd.prog 67 #[.pointer (some ⟨z, 0, none⟩), .int .i64 m] W fun e W' => e = .returned (.int .i64 fv) ∧ Below W.heap.size W W' := fun W hB => findV m fv hfv (hP.below hB) hus2
            obtain ⟨N, hN⟩ : ∃ N, us2.length = N := ⟨_, rfl⟩
            have hNk : N ≤ k + 1 := by omega
            have cM : ∀ W, Below wc.heap.size wc W → Calls Tryd.prog 55 #[.pointer (some ⟨p, 0, none⟩)] W fun e W' => ∃ a cc, e = .returned (.slice a N cc) ∧ Rd W' a (i64s (fsts us2)) ∧ Below W.heap.size W W' := fun W hB => memA N hN (hP.below hB) hus2
            have cL : ∀ W, Below wc.heap.size wc W → Calls Tryd.prog 59 #[.pointer (some ⟨p, 0, none⟩)] W fun e W' => e = .returned (.int .i64 N) ∧ Below W.heap.size W W' := fun W hB => lenA N hN (hP.below hB)
            have cD : ∀ W, Below wc.heap.size wc W → Calls Tryd.prog 57 #[.pointer (some ⟨p, 0, none⟩), .int .i64 m] W fun e W' => e = .returned (.int .i64 lv) ∧ Below W.heap.size W W' := fun W hB => defA m lv hlv (hP.below hB) hus2
            have cH : ∀ W, Below wc.heap.size wc W → Calls Tryd.prog 56 #[.pointer (some ⟨p, 0, none⟩), .int .i64 m] W fun e W' => e = .returned (.bool hv) ∧ Below W.heap.size W W' := fun W hB => hasA m hv hhv (hP.below hB) hus2
            have cO : ∀ W, Below wc.heap.size wc W → Calls Tryd.prog 68 #[.pointer (some ⟨p, 0, none⟩)] W fun e W' => e = .returned (.int .i64 ov) ∧ Below W.heap.size W W' := fun W hB => onA ov hov (hP.below hB) hus2
            obtain ⟨ra, rc, la, lc, hz1, hRow, hLeft⟩ := hP.reads
            rw [hN] at hz1
            have hact := hP.act
            have sk : ∀ W, Below wc.heap.size wc W → (W.cell? ⟨z, 1, none⟩ = some (.slice ra N rc) ∧ W.cell? ⟨y, 1, none⟩ = some (.int .i64 m)) := by
              intro W hB
              have g1 : W.heap[z]? = _ := (hB.block z (block_lt hz1)).trans hz1
              have g2 : W.heap[y]? = _ := (hB.block y (block_lt hact)).trans hact
              exact ⟨cell_block g1 1, cell_block g2 1⟩
            have sk2 : ∀ W, Below wc.heap.size wc W → (W.cell? ⟨z, 2, none⟩ = some (.slice la N lc) ∧ W.cell? ⟨z, 3, none⟩ = some (.bool on2)) := by
              intro W hB
              have g1 : W.heap[z]? = _ := (hB.block z (block_lt hz1)).trans hz1
              exact ⟨cell_block g1 2, cell_block g1 3⟩
            have hleftcell : ∀ i : Nat, fv = (i : Int) → i < N ∧ ∀ W, Below wc.heap.size wc W → ∃ b off, la = some ⟨b, off, none⟩ ∧ W.cell? ⟨b, off + i, none⟩ = some (.int .i64 lv) := by
              intro i hi
              rw [← hfv] at hi
              unfold fdv at hi
              split at hi
              · rename_i hlt2
                have : fd us2 m = i := by omega
                rw [this] at hlt2
                refine ⟨by omega, fun W hB => ?_⟩
                obtain ⟨b, off, h1, h2⟩ := (hLeft.keep hB) i (.int .i64 lv) (by
                  rw [i64s, snds, List.getElem?_map, List.getElem?_map, List.getElem?_eq_getElem hlt2]
                  rw [← hlv]; unfold left; rw [this, List.getElem?_eq_getElem hlt2]; rfl)
                exact ⟨b, off, h1, h2⟩
              · omega
            have hleft0 : fv = -1 → lv = 0 := by
              intro h
              rw [← hfv] at h
              unfold fdv at h
              split at h
              · omega
              · rename_i hge
                rw [← hlv]; unfold left; rw [List.getElem?_eq_none (by omega)]
            have hfvr : fv = -1 ∨ ∃ i : Nat, fv = (i : Int) := by
              rw [← hfv]; unfold fdv; split
              · exact .inr ⟨_, rfl⟩
              · exact .inl rfl
            have honcell : on2 = true → 0 < N ∧ ∀ W, Below wc.heap.size wc W → ∃ b off, ra = some ⟨b, off, none⟩ ∧ W.cell? ⟨b, off + 0, none⟩ = some (.int .i64 ov) := by
              intro h
              have hne := hP.onne h
              cases us2 with
              | nil => exact absurd rfl hne
              | cons x r =>
                refine ⟨by rw [← hN]; simp, fun W hB => ?_⟩
                obtain ⟨b, off, h1, h2⟩ := (hRow.keep hB) 0 (.int .i64 ov) (by rw [← hov, h]; rfl)
                exact ⟨b, off, h1, h2⟩
            have honv : on2 = false → ov = -1 := by intro h; rw [← hov, h]; rfl
            have hBelow := hP.B
            have HP := Lib.hid hP
            have CF := Lib.hid cF
            have CM := Lib.hid cM
            have CL := Lib.hid cL
            have CD := Lib.hid cD
            have CH := Lib.hid cH
            have CO := Lib.hid cO
            have SK := Lib.hid sk
            have SK2 := Lib.hid sk2
            have HLc := Lib.hid hleftcell
            have HL0 := Lib.hid hleft0
            have HOc := Lib.hid honcell
            have HOv := Lib.hid honv
            have HRow := Lib.hid hRow
            have HFvb := Lib.hid hfvb
            have HFvr := Lib.hid hfvr
            have HN := Lib.hid hN
            have HSt := Lib.hid hBelow
            have hNl : (fsts us2).length = N := by simp [fsts, hN]
            have HNl := Lib.hid hNl
            clear hP cF cM cL cD cH cO sk sk2 hleftcell hleft0 honcell honv hRow hLeft hfvb hfvr hN hBelow hz1 hact hfv hlv hov hhv hNl hus2 hl2
            have y0 := Below.refl wc.heap.size wc
            obtain ⟨s1, s2⟩ := SK.out _ y0
            go_wp2_with fail
            refine (CF.out _ y0).mono ?_
            rintro e w6 ⟨rfl, hb6⟩
            have y1 : Below wc.heap.size wc w6 := y0.trans hb6
            clear s1 s2 hb6
            obtain ⟨s1, s2⟩ := SK.out _ y1
            obtain ⟨t1, t2⟩ := SK2.out _ y1
            go_upto_if 129 with (fail)
            go_cut [17] (fun v W => v = .int .i64 lv ∧ w6 = W)
            case first =>
              rcases HFvr.out with h | ⟨i, h⟩
              · have h0 := HL0.out h
                subst h h0
                go_wp2
                go_meet
                case rel => exact ⟨rfl, rfl⟩
              · obtain ⟨hiN, hcell⟩ := HLc.out i h
                obtain ⟨b5, o5, e5, c5⟩ := hcell _ y1
                subst h e5
                clear hcell
                go_wp2
                go_meet
                case rel => exact ⟨rfl, rfl⟩
            case rest =>
              obtain ⟨rfl, rfl⟩ := hcut
              go_upto_if 140 with (fail)
              go_cut [18] (fun v W => v = .int .i64 ov ∧ w6 = W)
              case first =>
                cases on2 with
                | false =>
                  have h0 := HOv.out rfl
                  subst h0
                  go_wp2
                  go_meet
                  case rel => exact ⟨rfl, rfl⟩
                | true =>
                  obtain ⟨hiN, hcell⟩ := HOc.out rfl
                  obtain ⟨b5, o5, e5, c5⟩ := hcell _ y1
                  subst e5
                  clear hcell
                  have hN0 : (0 : Int) < N := by omega
                  simp only [Nat.add_zero] at c5
                  go_wp2
                  go_meet
                  case rel => exact ⟨rfl, rfl⟩
              case rest =>
                obtain ⟨rfl, rfl⟩ := hcut
                have hfb := HFvb.out
                clear s1 s2 t1 t2
                have y1 : Below wc.heap.size wc w6.drew := y1.drew
                go_wp2_with fail
                go_region_held3 (fun W => W.cell? ⟨z, 1, none⟩ = some (.slice ra N rc) ∧ W.cell? ⟨y, 1, none⟩ = some (.int .i64 m))
                  (first | exact SK.out _ y8 | exact SK.out _ y7 | exact SK.out _ y6 | exact SK.out _ y5 | exact SK.out _ y4 | exact SK.out _ y3 | exact SK.out _ y2 | exact SK.out _ y1)
                  (first
                    | (go_at_call 55; (with_reducible refine (CM.out _ y1).mono ?_); rintro e w7 ⟨a7, c7, rfl, r7, h7⟩
                       have y2 : Below wc.heap.size wc w7 := y1.trans (h7.mono y1.size))
                    | (go_at_call 51; (with_reducible refine (Sm.same_eq a7 ra c7 rc N N (fsts us2) _ HNl.out HNl.out (by omega) r7 (HRow.out.keep y2)).mono ?_); rintro e w8 ⟨rfl, n8, h8⟩
                       have y3 : Below wc.heap.size wc w8 := y2.trans ((show Below w7.heap.size w7 w8 by subst h8; exact below_drewN (Below.refl _ _) n8).mono y2.size))
                    | (go_at_call 59; (with_reducible refine (CL.out _ y3).mono ?_); rintro e w9 ⟨rfl, h9⟩
                       have y4 : Below wc.heap.size wc w9 := y3.trans (h9.mono y3.size))
                    | (go_at_call 57; (with_reducible refine (CD.out _ y4).mono ?_); rintro e w10 ⟨rfl, h10⟩
                       have y5 : Below wc.heap.size wc w10 := y4.trans (h10.mono y4.size))
                    | (go_at_call 56; (with_reducible refine (CH.out _ y5).mono ?_); rintro e w11 ⟨rfl, h11⟩
                       have y6 : Below wc.heap.size wc w11 := y5.trans (h11.mono y5.size))
                    | (go_at_call 67; (with_reducible refine (CF.out _ y6).mono ?_); rintro e w12 ⟨rfl, h12⟩
                       have y7 : Below wc.heap.size wc w12 := y6.trans (h12.mono y6.size))
                    | (go_at_call 68; (with_reducible refine (CO.out _ y7).mono ?_); rintro e w13 ⟨rfl, h13⟩
                       have y8 : Below wc.heap.size wc w13 := y7.trans (h13.mono y7.size)))
                all_goals
                  have HP8 := Lib.hid (HP.out.below y8).toP0
                  clear y1 y2 y3 y4 y5 y6 y7 y8 r7 h7 h9 h10 h11 h12 h13 hfb
                  go_wp2
                  go_roundw
                  case rel => first | exact ⟨k + 1, us2, on2, by omega, by go_num, by rw [HN.out]; omega, HBd2.out.mono (by omega), HP8.out⟩ | ((repeat apply Exists.intro); refine ⟨?r, ?f⟩; (case f => (and_intros <;> rfl)); exact ⟨k + 1, us2, on2, by omega, by go_num, by rw [HN.out]; omega, HBd2.out.mono (by omega), HP8.out⟩)
                  case measure => simp [intOf]; omega
        · go_wp2
          go_ret
          exact ⟨rfl, hP.B⟩
  · have hd : decide (100 < (n : Int)) = true := by simp; omega
    go_enter Tryd.func13, Tryd.ntmps13
    go_wp2_with fail
    refine (alive_c w).mono ?_
    rintro e w1 ⟨rfl, hb1⟩
    go_wp2
    go_ret
    exact ⟨rfl, hb1⟩
end RbP
end Go.Proofs.YtjohljpcoodijaaDoor
