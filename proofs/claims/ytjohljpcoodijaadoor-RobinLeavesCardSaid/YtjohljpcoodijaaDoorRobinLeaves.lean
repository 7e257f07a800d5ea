/- dofferlaw33.RobinLeaves returns true. Condition: the sentinels read as laid. -/
import Derived.Test.YtjohljpcoodijaaDoorRobinMem
namespace Go.Proofs.YtjohljpcoodijaaDoor
open Go Go.RowKit Kt
namespace Rb

theorem fd_none {l : List (Int × Int)} {x : Int} (h : x ∉ fsts l) : fd l x = l.length := fd_no l x (fun j hj e => h (by unfold fsts; rw [← e]; exact List.mem_map_of_mem (List.getElem_mem hj)))
theorem fd_snoc {l : List (Int × Int)} {x d : Int} (h : x ∉ fsts l) : fd (l ++ [(x, d)]) x = l.length :=
  fd_lt _ x l.length (by simp) (fun j hj e => by
    rw [List.getElem_append_left hj] at e
    exact h (by unfold fsts; rw [← e]; exact List.mem_map_of_mem (List.getElem_mem hj))) (by simp)
theorem left_snoc {l : List (Int × Int)} {x d : Int} (h : x ∉ fsts l) : left (l ++ [(x, d)]) x = d := by
  unfold left
  rw [fd_snoc h]
  simp
theorem erase_snoc (l : List (Int × Int)) (z : Int × Int) : (l ++ [z]).eraseIdx l.length = l := by
  rw [List.eraseIdx_append_of_length_le (Nat.le_refl _)]
  simp
theorem fd_in {l : List (Int × Int)} {x : Int} : fd l x < l.length ↔ x ∈ fsts l := by
  constructor
  · intro h
    unfold fd at h
    have := List.findIdx_getElem (w := h)
    simp at this
    unfold fsts
    rw [← this]
    exact List.mem_map_of_mem (List.getElem_mem _)
  · intro h
    unfold fd
    rw [List.findIdx_lt_length]
    obtain ⟨z, hz, e⟩ := List.mem_map.1 h
    exact ⟨z, hz, by simpa using e⟩
theorem fsts_app (a b : List (Int × Int)) : fsts (a ++ b) = fsts a ++ fsts b := by simp [fsts]

/-- The first loop's relation. -/
def LvA (w : World) (p n : Nat) (Q : Int) (i : Value) (W : World) : Prop := ∃ (k : Nat) (g : List Nat) (l : List (Int × Int)), k ≤ n ∧ i = .int .i64 k ∧ l.length ≤ k ∧ (∀ z ∈ l, z.2 = 0) ∧ (fsts l).Nodup ∧ Li w W p g Q l false
/-- The second loop's relation. -/
def LvB (w : World) (p n : Nat) (i : Value) (W : World) : Prop := ∃ (k : Nat) (g : List Nat) (l : List (Int × Int)), k ≤ n ∧ i = .int .i64 k ∧ l.length ≤ 20 ∧ (∀ z ∈ l, 0 ≤ z.2 ∧ z.2 ≤ 9 * k) ∧ (fsts l).Nodup ∧ Li w W p g 9 l false

set_option maxHeartbeats 8000000 in
set_option maxRecDepth 100000 in
theorem leaves_c (A : Nat → Addr) (lv : Int) (a a2 : Option Addr) (cap cap2 n n2 : Nat) (l l2 : List Int) (w : World) (hn : l.length = n) (hn2 : l2.length = n2) (h63 : n ≤ 9223372036854775807) (h632 : n2 ≤ 9223372036854775807) (hr : Rd w a (i64s l)) (hr2 : Rd w a2 (i64s l2)) (hs : Sent 152 w A rb3) :
    Calls Tryd.prog 9 #[.slice a n cap, .slice a2 n2 cap2, .int .i64 lv] w fun e w' => e = .returned (.bool true) ∧ Below w.heap.size w w' := by
  by_cases hsmall : n ≤ 20 ∧ n2 ≤ 60
  · obtain ⟨h20, h60⟩ := hsmall
    have Hn := Lib.hid hn
    have Hn2 := Lib.hid hn2
    clear hn hn2
    go_enter Tryd.func9, Tryd.ntmps9
    go_wp2_with fail
    refine (alive_c w).mono ?_
    rintro e w1 ⟨rfl, hb1⟩
    go_wp2_with fail
    refine (newL 9 w w1 hb1 (by omega) (by omega)).mono ?_
    rintro e w2 ⟨p, rfl, hL, hp, hb2⟩
    have HL := Lib.hid hL
    clear hL hb1 hb2 hp
    go_wp2_with fail
    go_loopw [10, 40] (fun _ i W => LvA w p n 9 i W) (fun _ i _ => n - (intOf i).toNat)
    case atStart => exact ⟨0, [], [], Nat.zero_le _, rfl, by simp, by simp, by simp [fsts], HL.out⟩
    case round =>
      clear HL
      obtain ⟨k, g, us, hk, rfl, hus, hz, hnd, hL⟩ := hrel
      by_cases hlt : k < n
      · obtain ⟨b, off, ha, hc⟩ := (hr.keep hL.B).i64 k (by rw [Hn.out]; exact hlt)
        generalize l[k]'(by rw [Hn.out]; exact hlt) = x at *
        subst ha
        have HZ := Lib.hid hz
        have HN := Lib.hid hnd
        clear hz hnd
        by_cases hf : fd us x < us.length
        · go_wp2_with (go_at_call 23; (with_reducible refine (addN x hL (by omega) hf).mono ?_); rintro e w5 ⟨rfl, hL5, _⟩)
          go_roundw
          case rel => first | exact ⟨k + 1, g, us, by omega, by go_num, by omega, HZ.out, HN.out, hL5⟩ | ((repeat apply Exists.intro); refine ⟨?r, ?f⟩; (case f => (and_intros <;> rfl)); exact ⟨k + 1, g, us, by omega, by go_num, by omega, HZ.out, HN.out, hL5⟩)
          case measure => simp [intOf]; omega
        · have hni : x ∉ fsts us := fun h => hf (fd_in.2 h)
          have HNi := Lib.hid hni
          clear hni
          go_wp2_with (go_at_call 23; (with_reducible refine (addY x hL (by omega) hf).mono ?_); rintro e w5 ⟨rfl, g5, hL5, _, _⟩)
          have hnew : (∀ z ∈ us ++ [(x, (0 : Int))], z.2 = 0) ∧ (fsts (us ++ [(x, 0)])).Nodup := by
            refine ⟨fun z hz => ?_, ?_⟩
            · rcases List.mem_append.1 hz with h1 | h1
              · exact HZ.out z h1
              · simp at h1; subst h1; rfl
            · rw [fsts_app, List.nodup_append]
              refine ⟨HN.out, by simp [fsts], ?_⟩
              intro y hy z hz e
              simp [fsts] at hz
              subst hz e
              exact HNi.out hy
          have HNew := Lib.hid hnew
          clear hnew
          go_roundw
          case rel => first | exact ⟨k + 1, g5, us ++ [(x, 0)], by omega, by go_num, by simp; omega, HNew.out.1, HNew.out.2, hL5⟩ | ((repeat apply Exists.intro); refine ⟨?r, ?f⟩; (case f => (and_intros <;> rfl)); exact ⟨k + 1, g5, us ++ [(x, 0)], by omega, by go_num, by simp; omega, HNew.out.1, HNew.out.2, hL5⟩)
          case measure => simp [intOf]; omega
      · have HZ := Lib.hid hz
        have HN := Lib.hid hnd
        have HL := Lib.hid hL
        clear hz hnd hL
        go_wp2_with fail
        go_loopw [6, 12, 13, 14, 15, 16, 17, 18, 19, 20, 21, 50] (fun _ _ _ _ _ _ _ _ _ _ _ i W => LvB w p n2 i W) (fun _ _ _ _ _ _ _ _ _ _ _ i _ => n2 - (intOf i).toNat)
        case atStart => exact ⟨0, g, us, Nat.zero_le _, rfl, by omega, fun z hz => by rw [HZ.out z hz]; omega, HN.out, HL.out⟩
        case round =>
          clear HL HZ HN hus hk hlt
          obtain ⟨k, g, l', hk, rfl, hl20, hz, hnd, hL⟩ := hrel
          by_cases hlt : k < n2
          · obtain ⟨b2, off2, ha2, hc2⟩ := (hr2.keep hL.B).i64 k (by rw [Hn2.out]; exact hlt)
            generalize l2[k]'(by rw [Hn2.out]; exact hlt) = s at *
            subst ha2
            cases l' with
            | nil =>
              have HB := Lib.hid hL.B
              go_wp2_with fail
              refine (turnN A hL hs).mono ?_
              rintro e w6 ⟨rfl, hL6, hb6⟩
              unfold Er.ev
              have HB6 := Lib.hid hL6.B
              clear hL hz hnd
              go_wp2_with fail
              refine (memL 0 rfl hL6 (by simp)).mono ?_
              rintro e w7 ⟨a7, c7, rfl, _, hL7, _⟩
              have HB7 := Lib.hid hL7.B
              clear hL6 hL7 hb6
              go_wp2
              go_ret
              exact ⟨rfl, HB7.out⟩
            | cons z r =>
              obtain ⟨m, d⟩ := z
              have hz0 := hz (m, d) (by simp)
              simp only at hz0
              obtain ⟨hd0, hd1⟩ := hz0
              obtain ⟨H, hH⟩ : ∃ H : Nat, d + 9 = (H : Int) := ⟨(d + 9).toNat, by omega⟩
              have hH1 : H ≤ 9 * k + 9 := by omega
              obtain ⟨N, hN⟩ : ∃ N, r.length = N := ⟨_, rfl⟩
              have hN20 : N < 20 := by simp at hl20; omega
              have hmr : m ∉ fsts r ∧ (fsts r).Nodup := by
                have : (m :: fsts r).Nodup := hnd
                exact List.nodup_cons.1 this
              have hzr : ∀ z ∈ r, 0 ≤ z.2 ∧ z.2 ≤ 9 * k := fun z h => hz z (by simp [h])
              have HH := Lib.hid hH
              have HN := Lib.hid hN
              have HMr := Lib.hid hmr
              have HZr := Lib.hid hzr
              have HL := Lib.hid hL
              clear hz hnd hl20 hH hN hmr hzr hL
              have hus : ∃ u : Nat, wrap64 ((IntKind.u64.wrap s).tmod (H + 1)) = (u : Int) ∧ u ≤ H := by
                have h0 := wrap_u64_nonneg s
                generalize IntKind.u64.wrap s = u at *
                have e : u.tmod ((H : Int) + 1) = u % ((H : Int) + 1) := by rw [Int.tmod_eq_emod_of_nonneg h0]
                have e1 := Int.emod_nonneg u (show (H : Int) + 1 ≠ 0 by omega)
                have e2 := Int.emod_lt_of_pos u (show (0 : Int) < (H : Int) + 1 by omega)
                rw [e, IntWalk.wrap64_in (u % ((H : Int) + 1)) ⟨by omega, by omega⟩]
                exact ⟨(u % ((H : Int) + 1)).toNat, by omega, by omega⟩
              obtain ⟨u, hu, huH⟩ := hus
              have HU := Lib.hid hu
              clear hu
              go_wp2_with fail
              refine (turnY m d H r HH.out HL.out hd0 (by omega) (by omega) (by omega) (by rw [HN.out]; omega)).mono ?_
              rintro e w6 ⟨rfl, hL6, hM6⟩
              clear hM6 HL
              go_wp2_with fail
              refine (memL (N + 1) (by rw [List.length_cons, HN.out]) hL6 (by rw [List.length_cons, HN.out]; omega)).mono ?_
              rintro e w7 ⟨a7, c7, rfl, own7, hL7, hb7⟩
              have hsepA : ∀ q, a7 = some q → q.block ∉ p :: g := by
                intro q hq hm
                subst hq
                have := (own7.lt q.block rfl).1
                have := hL6.i.lts _ hm
                omega
              have hr7 := Rd.own own7
              obtain ⟨g7, rfl⟩ : ∃ g7, a7 = some ⟨g7, 0, none⟩ := by
                obtain ⟨_, ⟨hx, h0⟩ | ⟨g', c', cur, hx, _⟩⟩ := own7
                · omega
                · simp only [Value.slice.injEq] at hx
                  exact ⟨_, hx.1⟩
              have hc7 : N + 1 ≤ c7 := by
                obtain ⟨a', cap', hx, h1, _⟩ := rd_own own7
                simp only [Value.slice.injEq] at hx
                omega
              have hHN : ((H : Int) + 1 == 0) = false := by simp; omega
              have HL7 := Lib.hid hL7
              have HR7 := Lib.hid hr7
              have HSA := Lib.hid hsepA
              clear hL6 own7 hL7 hb7 hr7 hsepA
              by_cases hml : m = lv
              · have hne : (m != lv) = false := by simp [hml]
                clear hml
                go_wp2_with fail
                rw [HU.out]
                refine (doneY m H u ((H : Int) - u) false r rfl HL7.out (by omega) (by omega) (by omega) (by rw [HN.out]; omega)).mono ?_
                rintro e w8 ⟨rfl, g8, hL8, hM8, hF8⟩
                have hL8' : Li w w8 p g8 9 r false := hL8
                have hr8 := HR7.out.mod hM8 HSA.out
                have hlen : r.length = N := HN.out
                have hfd : decide (fd r m < r.length) = false := by rw [fd_none HMr.out.1]; simp
                have hwl2 : (fsts r).length = N := by simp [fsts, HN.out]
                have HLen := Lib.hid hlen
                have HFd := Lib.hid hfd
                have HWl := Lib.hid hwl2
                have HF8 := Lib.hid hF8
                clear hlen hfd hwl2 hL8 hM8 HL7 hF8
                go_wp2_with fail
                refine (hasL m hL8' (by rw [HLen.out]; omega)).mono ?_
                rintro e w9 ⟨rfl, hL9, hb9⟩
                rw [HFd.out]
                have hr9 := hr8.keep hb9
                clear hL8' hr8 hb9
                go_wp2_with fail
                refine (memL N HLen.out hL9 (by rw [HLen.out]; omega)).mono ?_
                rintro e w10 ⟨a10, c10, rfl, own10, hL10, hb10⟩
                have hr10 := hr9.keep hb10
                have own0 := World.ownsRow_made (base := w10.heap.size) (e := 3) (size := 1) w10 #[] 0 (Nat.le_refl _) (by decide) rfl
                have hb11 := (Below.refl w10.heap.size w10).alloc (Nat.le_refl _) (.cells #[] 3)
                obtain ⟨A7, hA7, hrA⟩ : ∃ A7 : Addr, (if c7 = 1 then (some ⟨g7, 0, none⟩ : Option Addr) else some ⟨g7, 1, none⟩) = some A7 ∧ Rd (w10.alloc (.cells #[] 3)) (some A7) (i64s (fsts r)) := by
                  by_cases h : c7 = 1
                  · exact ⟨⟨g7, 0, none⟩, by simp [h], by rw [show fsts r = [] from by have : r = [] := List.eq_nil_of_length_eq_zero (by have := HN.out; omega); rw [this]; rfl]; exact Rd.nil _ _⟩
                  · exact ⟨⟨g7, 1, none⟩, by simp [h], by have := (hr10.drop 1).keep hb11; simpa [i64s, fsts] using this⟩
                obtain ⟨v11, w11, hrun11, own11, gr11, _⟩ := elI.append w10.heap.size (ty := 32) own0 N (c7 - 1) (by simp [i64s, fsts, HN.out]) hrA (fun h => by cases h) (oneCell_i64s _) (by unfold maxLen; omega) (by omega) hb11.size
                have hB11 : Below w10.heap.size w10 w11 := hb11.grown gr11 hb11.size (fun j hj => (own0.lt j hj).1)
                obtain ⟨a11, c11, rfl, _⟩ := rd_own own11
                have hL12 := hL10.below hB11
                have hnow := (Rd.own own10).keep hB11
                have hwant := Rd.own own11
                have hwant : Rd w11 a11 (i64s (fsts r)) := by simpa using hwant
                simp only [Nat.zero_add] at hrun11
                clear hr9 hL9 hb10 hr10 own0 hb11 hrA own11 gr11 own10 hL10 hB11
                go_wp2_with (at_builtin; (with_reducible apply wpList_append_run hrun11); rfl; rfl; rfl; rfl; rfl)
                have HNow := Lib.hid hnow
                have HWant := Lib.hid hwant
                clear hnow hwant
                go_wp2_with fail
                go_loopw [21, 115] (fun _ i W => ∃ kc : Nat, kc ≤ N ∧ i = .int .i64 kc ∧ Below w11.heap.size w11 W) (fun _ i _ => N - (intOf i).toNat)
                case atStart => exact ⟨0, by omega, rfl, Below.refl _ _⟩
                case round =>
                  obtain ⟨kc, hkc, rfl, hBc⟩ := hrel
                  by_cases hkl : kc < N
                  · obtain ⟨bn, on, han, hcn⟩ := (HNow.out.keep hBc).i64 kc (by rw [HWl.out]; exact hkl)
                    obtain ⟨bw, ow, haw, hcw⟩ := (HWant.out.keep hBc).i64 kc (by rw [HWl.out]; exact hkl)
                    subst han haw
                    generalize (fsts r)[kc]'(by rw [HWl.out]; exact hkl) = y at *
                    go_wp2
                    go_quiet (fail)
                    go_wp2
                    go_roundw
                    case rel => exact ⟨kc + 1, by omega, by go_num, below_drewN hBc _⟩
                    case measure => simp [intOf]; omega
                  · have hL13 := hL12.below hBc
                    clear hBc
                    go_wp2_with fail
                    refine (addY m hL13 (by rw [HLen.out]; omega) (by rw [fd_none HMr.out.1]; omega)).mono ?_
                    rintro e w14 ⟨rfl, g14, hL14, hM14, hF14⟩
                    have hlen2 : (r ++ [(m, (0 : Int))]).length = N + 1 := by simp [HN.out]
                    have HLen2 := Lib.hid hlen2
                    clear hlen2 hM14 hF14 hL13 hL12
                    go_wp2_with fail
                    refine (defL m hL14 (by rw [HLen2.out]; omega)).mono ?_
                    rintro e w15 ⟨rfl, hL15, hb15⟩
                    rw [left_snoc HMr.out.1]
                    clear hL14 hb15
                    go_wp2_with fail
                    refine (dropY m hL15 (by rw [HLen2.out]; omega) (by rw [fd_snoc HMr.out.1, HLen2.out, HN.out]; omega)).mono ?_
                    rintro e w16 ⟨rfl, hL16, hM16⟩
                    rw [fd_snoc HMr.out.1, erase_snoc] at hL16
                    clear hL15 hM16
                    go_wp2_with fail
                    refine (dropN m hL16 (by rw [HLen.out]; omega) (by rw [fd_none HMr.out.1]; omega)).mono ?_
                    rintro e w17 ⟨rfl, hL17, hb17⟩
                    have HL17 := Lib.hid hL17
                    have HD : ∀ z ∈ r, 0 ≤ z.2 ∧ z.2 ≤ 9 * ((k + 1 : Nat) : Int) := by
                      intro z hz
                      have := HZr.out z hz; omega
                    have HDd := Lib.hid HD
                    clear hL16 hL17 hb17 HD
                    go_wp2
                    go_roundw
                    case rel => first | exact ⟨k + 1, g14, r, by omega, by go_num, by rw [HLen.out]; omega, HDd.out, HMr.out.2, HL17.out⟩ | ((repeat apply Exists.intro); refine ⟨?r, ?f⟩; (case f => (and_intros <;> rfl)); exact ⟨k + 1, g14, r, by omega, by go_num, by rw [HLen.out]; omega, HDd.out, HMr.out.2, HL17.out⟩)
                    case measure => simp [intOf]; omega
              · have hne : (m != lv) = true := by simp [hml]
                clear hml
                go_wp2_with fail
                rw [HU.out]
                refine (doneY m H u ((H : Int) - u) true r rfl HL7.out (by omega) (by omega) (by omega) (by rw [HN.out]; omega)).mono ?_
                rintro e w8 ⟨rfl, g8, hL8, hM8, hF8⟩
                have hL8' : Li w w8 p g8 9 (r ++ [(m, (H : Int) - u)]) false := hL8
                have hr8 := HR7.out.mod hM8 HSA.out
                have hlen : (r ++ [(m, (H : Int) - u)]).length = N + 1 := by simp [HN.out]
                have hfd : decide (fd (r ++ [(m, (H : Int) - u)]) m < (r ++ [(m, (H : Int) - u)]).length) = true := by rw [fd_snoc HMr.out.1, hlen, HN.out]; simp
                have hleft : left (r ++ [(m, (H : Int) - u)]) m = (H : Int) - u := left_snoc HMr.out.1
                have hwl : fsts (r ++ [(m, (H : Int) - u)]) = fsts r ++ [m] := fsts_app _ _
                have hwl2 : (fsts r ++ [m]).length = (N + 1) := by simp [fsts, HN.out]
                have HLen := Lib.hid hlen
                have HFd := Lib.hid hfd
                have HWl := Lib.hid hwl2
                have HLeft := Lib.hid hleft
                have HW := Lib.hid hwl
                clear hleft hwl
                have HF8 := Lib.hid hF8
                clear hlen hfd hwl2 hL8 hM8 HL7 hF8
                go_wp2_with fail
                refine (hasL m hL8' (by rw [HLen.out]; omega)).mono ?_
                rintro e w9 ⟨rfl, hL9, hb9⟩
                rw [HFd.out]
                have hr9 := hr8.keep hb9
                clear hL8' hr8 hb9
                go_wp2_with fail
                refine (memL (N + 1) HLen.out hL9 (by rw [HLen.out]; omega)).mono ?_
                rintro e w10 ⟨a10, c10, rfl, own10, hL10, hb10⟩
                have hr10 := hr9.keep hb10
                have own0 := World.ownsRow_made (base := w10.heap.size) (e := 3) (size := 1) w10 #[] 0 (Nat.le_refl _) (by decide) rfl
                have hb11 := (Below.refl w10.heap.size w10).alloc (Nat.le_refl _) (.cells #[] 3)
                obtain ⟨A7, hA7, hrA⟩ : ∃ A7 : Addr, (if c7 = 1 then (some ⟨g7, 0, none⟩ : Option Addr) else some ⟨g7, 1, none⟩) = some A7 ∧ Rd (w10.alloc (.cells #[] 3)) (some A7) (i64s (fsts r)) := by
                  by_cases h : c7 = 1
                  · exact ⟨⟨g7, 0, none⟩, by simp [h], by rw [show fsts r = [] from by have : r = [] := List.eq_nil_of_length_eq_zero (by have := HN.out; omega); rw [this]; rfl]; exact Rd.nil _ _⟩
                  · exact ⟨⟨g7, 1, none⟩, by simp [h], by have := (hr10.drop 1).keep hb11; simpa [i64s, fsts] using this⟩
                obtain ⟨v11, w11, hrun11, own11, gr11, _⟩ := elI.append w10.heap.size (ty := 32) own0 N (c7 - 1) (by simp [i64s, fsts, HN.out]) hrA (fun h => by cases h) (oneCell_i64s _) (by unfold maxLen; omega) (by omega) hb11.size
                have hB11 : Below w10.heap.size w10 w11 := hb11.grown gr11 hb11.size (fun j hj => (own0.lt j hj).1)
                obtain ⟨a11, c11, rfl, _⟩ := rd_own own11
                have hb12 := hB11.alloc hB11.size (.cells #[.int .i64 m] 3)
                have own11a := own11.alloc (.cells #[.int .i64 m] 3)
                obtain ⟨v12, w12, hrun12, own12, gr12, _⟩ := elI.append w10.heap.size (ty := 32) own11a 1 1 rfl (Rd.new w11 #[.int .i64 m] 3 (0, 0) [.int .i64 m] rfl) (fun h => by cases h) (by intro u hu; simp at hu; subst hu; rfl) (by unfold maxLen; omega) (by omega) hb12.size
                have hB12 : Below w10.heap.size w10 w12 := hb12.grown gr12 hb12.size (fun j hj => (own11a.lt j hj).1)
                obtain ⟨a12, c12, rfl, _⟩ := rd_own own12
                have hL12 := hL10.below hB12
                have hnow := (Rd.own own10).keep hB12
                have hwant := Rd.own own12
                have HNow := Lib.hid hnow
                have HWant := Lib.hid hwant
                simp only [Nat.zero_add] at hrun11 hrun12
                clear hr9 hL9 hb10 hr10 own0 hb11 hrA own11 own11a gr11 hb12 own12 gr12 own10 hL10 hB12 hB11 hnow hwant
                go_wp2_with (first | (at_builtin; (with_reducible apply wpList_append_run hrun11); rfl; rfl; rfl; rfl; rfl) | (at_builtin; (with_reducible apply wpList_append_run hrun12); rfl; rfl; rfl; rfl; rfl))
                refine (defL m hL12 (by rw [HLen.out]; omega)).mono ?_
                rintro e w13 ⟨rfl, hL13, hb13⟩
                rw [HLeft.out]
                have hnow := HNow.out.keep hb13
                have hwant := HWant.out.keep hb13
                rw [HW.out] at hnow
                have hwant : Rd w13 a12 (i64s (fsts r ++ [m])) := by rw [i64s_append]; exact (by simpa using hwant : Rd w13 a12 (i64s (fsts r) ++ [.int .i64 m]))
                have HNow := Lib.hid hnow
                have HWant := Lib.hid hwant
                clear hnow hwant hb13 hL12
                go_wp2_with fail
                go_loopw [21, 115] (fun _ i W => ∃ kc : Nat, kc ≤ (N + 1) ∧ i = .int .i64 kc ∧ Below w13.heap.size w13 W) (fun _ i _ => (N + 1) - (intOf i).toNat)
                case atStart => exact ⟨0, by omega, rfl, Below.refl _ _⟩
                case round =>
                  obtain ⟨kc, hkc, rfl, hBc⟩ := hrel
                  by_cases hkl : kc < (N + 1)
                  · obtain ⟨bn, on, han, hcn⟩ := (HNow.out.keep hBc).i64 kc (by rw [HWl.out]; exact hkl)
                    obtain ⟨bw, ow, haw, hcw⟩ := (HWant.out.keep hBc).i64 kc (by rw [HWl.out]; exact hkl)
                    subst han haw
                    generalize (fsts r ++ [m])[kc]'(by rw [HWl.out]; exact hkl) = y at *
                    go_wp2
                    go_quiet (fail)
                    go_wp2
                    go_roundw
                    case rel => exact ⟨kc + 1, by omega, by go_num, below_drewN hBc _⟩
                    case measure => simp [intOf]; omega
                  · have HL13 := Lib.hid (hL13.below hBc)
                    have HD : (∀ z ∈ r ++ [(m, (H : Int) - u)], 0 ≤ z.2 ∧ z.2 ≤ 9 * ((k + 1 : Nat) : Int)) ∧ (fsts (r ++ [(m, (H : Int) - u)])).Nodup := by
                      refine ⟨fun z hz => ?_, ?_⟩
                      · rcases List.mem_append.1 hz with h1 | h1
                        · have := HZr.out z h1; omega
                        · simp at h1; subst h1; simp only; omega
                      · rw [HW.out, List.nodup_append]
                        refine ⟨HMr.out.2, by simp, ?_⟩
                        intro y hy z hz e
                        simp at hz
                        subst hz e
                        exact HMr.out.1 hy
                    have HDd := Lib.hid HD
                    clear HD hBc hL13
                    go_wp2
                    go_roundw
                    case rel => first | exact ⟨k + 1, g8, r ++ [(m, (H : Int) - u)], by omega, by go_num, by rw [HLen.out]; omega, HDd.out.1, HDd.out.2, HL13.out⟩ | ((repeat apply Exists.intro); refine ⟨?r, ?f⟩; (case f => (and_intros <;> rfl)); exact ⟨k + 1, g8, r ++ [(m, (H : Int) - u)], by omega, by go_num, by rw [HLen.out]; omega, HDd.out.1, HDd.out.2, HL13.out⟩)
                    case measure => simp [intOf]; omega
          · go_wp2
            go_ret
            exact ⟨rfl, hL.B⟩
  · by_cases h20 : 20 < n
    · have hd : decide (20 < n) = true := by simp; omega
      go_enter Tryd.func9, Tryd.ntmps9
      go_wp2_with fail
      refine (alive_c w).mono ?_
      rintro e w1 ⟨rfl, hb1⟩
      go_wp2
      go_ret
      exact ⟨rfl, hb1⟩
    · have hd : decide (20 < n) = false := by simp; omega
      have hd2 : decide (60 < n2) = true := by simp; omega
      go_enter Tryd.func9, Tryd.ntmps9
      go_wp2_with fail
      refine (alive_c w).mono ?_
      rintro e w1 ⟨rfl, hb1⟩
      go_wp2
      go_ret
      exact ⟨rfl, hb1⟩
end Rb
end Go.Proofs.YtjohljpcoodijaaDoor
