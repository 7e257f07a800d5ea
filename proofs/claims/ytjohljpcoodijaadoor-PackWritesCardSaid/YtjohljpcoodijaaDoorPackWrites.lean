/- dofferlaw04.PackWrites returns true. Condition: the sentinels read as laid. -/
import Derived.Test.YtjohljpcoodijaaDoorPackS
namespace Go.Proofs.YtjohljpcoodijaaDoor
open Go Go.RowKit Kt
namespace Pk
/-- The loop's relation. -/
def PwR (A : Nat → Addr) (w : World) (p : Nat) (l : List PV) (n : Nat) (vw ve i : Value) (W : World) : Prop :=
  ∃ (k m : Nat) (xs : List UInt8) (g : List Nat), k ≤ n ∧ i = .int .i64 k ∧ ve = .bool ((l.take k).any badV) ∧ OSt A W p g ((l.take k).any badV) (encVs (l.take k)) ∧ (∀ j ∈ p :: g, w.heap.size ≤ j) ∧ (∀ j, vw.ownBlock = some j → j ∉ p :: g) ∧
    (∃ a c, vw = .slice a m c) ∧ m ≤ 400 * k ∧ W.ownsRow w.heap.size 5 1 vw m (u8s xs) ∧ ((l.take k).any badV = false → xs = encVs (l.take k)) ∧ Below w.heap.size w W
theorem PwR.of {A : Nat → Addr} {w W : World} {p y k m n : Nat} {c : Array Value} {l : List PV} {xs : List UInt8} {a : Option Addr} {cp : Nat} {eb : Bool} {bs : List UInt8}
    (h : PwS A w W p y c eb bs (.slice a m cp) m xs) (he : (l.take k).any badV = eb) (hb : eb = false → bs = encVs (l.take k)) (hx : eb = false → xs = encVs (l.take k)) (hk : k ≤ n) (hm : m ≤ 400 * k) (i : Value) (hi : i = .int .i64 k) :
    PwR A w p l n (.slice a m cp) (.bool eb) i W := by
  obtain ⟨g, h1, h2, h3, _⟩ := h.ex
  subst he hi
  refine ⟨k, m, xs, g, hk, rfl, rfl, ?_, h2, h3, ⟨a, cp, rfl⟩, hm, h.own, hx, h.B⟩
  cases hc : (l.take k).any badV with
  | true => rw [hc] at h1; exact h1
  | false => rw [hc] at h1; rw [← hb hc]; exact h1

set_option maxHeartbeats 8000000 in
set_option maxRecDepth 100000 in
theorem writes_c (A : Nat → Addr) (a : Option Addr) (c n : Nat) (l : List PV) (w : World) (hl : l.length = n) (h63 : n ≤ 9223372036854775807) (hr : Rd w a (l.flatMap PV.cs)) (hok : ∀ z ∈ l, z.ok w) (hsE : Sent 152 w A Er.egs) :
    Calls Tryd.prog 14 #[.slice a n c] w fun e w' => e = .returned (.bool true) ∧ Below w.heap.size w w' := by
  have hs : Sent 152 w A pks := hsE.sub (by decide)
  go_enter Tryd.func14, Tryd.ntmps14
  go_wp2_with fail
  refine (alive_c w).mono ?_
  rintro e w1 ⟨rfl, hb1⟩
  go_wp2_with fail
  refine (long_c a c n l w1 hl h63 (hr.keep hb1)).mono ?_
  rintro e w2 ⟨b, rfl, hsm, hb2⟩
  have hB2 := hb1.trans (hb2.mono hb1.size)
  cases b with
  | true =>
    have HB2 := Lib.hid hB2
    clear hsm hb1 hb2 hB2
    go_wp2
    go_ret
    exact ⟨rfl, HB2.out⟩
  | false =>
    obtain ⟨h40, hsmall⟩ := hsm rfl
    have hO := out_new w2
    have hbo := (Below.refl w2.heap.size w2).alloc (Nat.le_refl _) (.cells #[.slice none 0 0, .nilIface] 76)
    have hbw := hbo.alloc hbo.size (.cells #[] 5)
    have own0 := World.ownsRow_made (base := w.heap.size) (e := 5) (size := 1) (w2.alloc (.cells #[.slice none 0 0, .nilIface] 76)) #[] 0 (by have := hB2.size; have := hbo.size; omega) (by decide) rfl
    have hsz : (w2.alloc (.cells #[.slice none 0 0, .nilIface] 76)).heap.size = w2.heap.size + 1 := by simp
    have hst : PwR A w w2.heap.size l n (.slice (some ⟨w2.heap.size + 1, 0, none⟩) 0 0) (.bool false) (.int .i64 0) ((w2.alloc (.cells #[.slice none 0 0, .nilIface] 76)).alloc (.cells #[] 5)) := by
      rw [hsz] at own0
      refine ⟨0, 0, [], [], Nat.zero_le _, rfl, rfl, hO.below ((Below.refl _ _).alloc (Nat.le_refl _) _), ?_, ?_, ⟨_, _, rfl⟩, by omega, own0, fun _ => rfl, hB2.trans (hbw.mono hB2.size)⟩
      · intro j hj
        have : j = w2.heap.size := by simpa using hj
        have := hB2.size
        omega
      · intro j hj hm
        have h1 : w2.heap.size + 1 = j := by simpa [Value.ownBlock] using hj
        have h2 : j = w2.heap.size := by simpa using hm
        omega
    obtain ⟨p, hp⟩ : ∃ p, w2.heap.size = p := ⟨_, rfl⟩
    rw [hp] at hst
    have HSt := Lib.hid hst
    have HL := Lib.hid hl
    have HR := Lib.hid hr
    have HOk := Lib.hid hok
    have HSm := Lib.hid hsmall
    have HS := Lib.hid hs
    have HSE := Lib.hid hsE
    have hpw : w.heap.size ≤ p := by have := hB2.size; omega
    clear hl hr hok hsmall hs hsE hst hO hbo hbw own0 hsz hsm hb1 hb2 hB2
    go_wp2_with fail
    go_loopw [4, 5, 7, 19] (fun vw ve _ i W => PwR A w p l n vw ve i W) (fun _ _ _ i _ => n - (intOf i).toNat)
    case atStart => exact HSt.out
    case round =>
      clear HSt hp
      obtain ⟨k, q, xs, g, hk, rfl, rfl, hO, hg1, hg2, ⟨wa, wc, rfl⟩, hq, own, hxs, hB⟩ := hrel
      by_cases hlt : k < n
      · have hkl : k < l.length := by rw [HL.out]; exact hlt
        obtain ⟨b, off, ha, hcs⟩ := (HR.out.keep hB).struct 4 (by intro z _; rfl) k hkl (by omega)
        have k0 := hcs 0 _ rfl (by omega)
        have k1 := hcs 1 _ rfl (by omega)
        have k2 := hcs 2 _ rfl (by omega)
        have k3 := hcs 3 _ rfl (by omega)
        simp only [Nat.add_zero] at k0
        rw [← Nat.add_assoc] at k1 k2 k3
        have htk : l.take (k + 1) = l.take k ++ [l[k]] := by simp
        have hz1 := HOk.out l[k] (List.getElem_mem hkl)
        have hz2 := HSm.out l[k] (List.getElem_mem hkl)
        have hany : (l.take (k + 1)).any badV = ((l.take k).any badV || badV l[k]) := by rw [htk, List.any_append, List.any_cons, List.any_nil, Bool.or_false]
        have henc : encVs (l.take (k + 1)) = encVs (l.take k) ++ encV l[k] := by rw [htk, encVs_snoc]
        have hbl : (l.take k).any badV = false → (encVs (l.take k)).length ≤ 16000 := fun h => by
          have h1 := encVs_len _ (fun z hz => HSm.out z (List.mem_of_mem_take hz)) h
          have h2 : (l.take k).length ≤ k := List.length_take_le _ _
          omega
        generalize l[k] = z at *
        obtain ⟨kd, m, ba, bc, bs, ra, rc, row⟩ := z
        subst ha
        simp only at k0 k1 k2 k3
        have HSmz := Lib.hid hz2
        obtain ⟨h300, h60⟩ := hz2
        simp only at h300 h60
        obtain ⟨N, hNB⟩ : ∃ N, bs.length = N := ⟨_, rfl⟩
        obtain ⟨NR, hNR⟩ : ∃ NR, row.length = NR := ⟨_, rfl⟩
        rw [hNB] at k2 h300
        rw [hNR] at k3 h60
        have HNB := Lib.hid hNB
        have HNR := Lib.hid hNR
        clear hNB hNR
        have b0 := (Below.refl wr.heap.size wr).alloc (Nat.le_refl _) (.cells #[.int .i64 kd, .int .i64 m, .slice ba N bc, .slice ra NR rc] 104)
        obtain ⟨eb, heb⟩ : ∃ eb, (l.take k).any badV = eb := ⟨_, rfl⟩
        obtain ⟨bs0, hbs0⟩ : ∃ bs0, encVs (l.take k) = bs0 := ⟨_, rfl⟩
        rw [heb, hbs0] at hO hxs hbl
        rw [heb] at hany
        rw [hbs0] at henc
        have hP : PwS A w (wr.alloc (.cells #[.int .i64 kd, .int .i64 m, .slice ba N bc, .slice ra NR rc] 104)) p wr.heap.size #[.int .i64 kd, .int .i64 m, .slice ba N bc, .slice ra NR rc] eb bs0 (.slice wa q wc) q xs :=
          ⟨⟨g, hO.below b0, hg1, hg2, fun hm => Nat.lt_irrefl _ (hO.lts _ hm)⟩, own_keep own b0, hB.trans (b0.mono hB.size), heap_alloc_new wr _, fun j hj => by have := (own.lt j hj).2; omega⟩
        have hzok := fun W (hW : Below w.heap.size w W) => hz1.keep hW
        obtain ⟨y, hyd⟩ : ∃ y, wr.heap.size = y := ⟨_, rfl⟩
        rw [hyd] at hP
        have hbb := hz1.b
        have hrb := hz1.r
        have HBb := Lib.hid hbb
        have HRb := Lib.hid hrb
        have HZ := Lib.hid hzok
        have HP := Lib.hid hP
        have HAny := Lib.hid hany
        have HEnc := Lib.hid henc
        have HBl := Lib.hid hbl
        have HXs := Lib.hid hxs
        have hk1 : k + 1 ≤ n := hlt
        have hq1 : q ≤ 400 * (k + 1) := by omega
        have z0 := cell_block hP.yb 0
        have z1 := cell_block hP.yb 1
        have z2 := cell_block hP.yb 2
        have z3 := cell_block hP.yb 3
        simp at z0 z1 z2 z3
        rw [heb]
        clear hcs htk hz1 hany henc hbl hxs hO hg1 hg2 own hB b0 hP hzok hbb hrb heb hbs0
        cases eb with
        | true =>
          by_cases n0 : kd = 0
          · subst n0
            have fin : ∀ W bsX, PwS A w W p y #[.int .i64 0, .int .i64 m, .slice ba N bc, .slice ra NR rc] true bsX (.slice wa q wc) q xs → PwR A w p l n (.slice wa q wc) (.bool true) (.int .i64 ((k : Int) + 1)) W := fun W bsX h => PwR.of h (by rw [HAny.out]; rfl) (fun h => by cases h) (fun h => by cases h) hk1 hq1 _ (by go_num)
            have HFin' := Lib.hid fin
            have HFin := Lib.hid (fun W (h : PwS A w W p y #[.int .i64 0, .int .i64 m, .slice ba N bc, .slice ra NR rc] true bs0 (.slice wa q wc) q xs) => HFin'.out W bs0 h)
            clear fin
            go_wp2_with fail
            refine (pNumNo (.int .i64 m) HP.out bs0).mono ?_
            rintro e w5 ⟨rfl, hP5⟩
            have HP5 := Lib.hid hP5
            clear hP5 z0 z1 z2 z3
            go_wp2
            go_roundw
            case rel => first | exact HFin.out _ HP5.out | ((repeat apply Exists.intro); refine ⟨?r, ?f⟩; (case f => (and_intros <;> rfl)); exact HFin.out _ HP5.out)
            case measure => simp [intOf]; omega
          · by_cases n1 : kd = 1
            · subst n1
              have fin : ∀ W bsX, PwS A w W p y #[.int .i64 1, .int .i64 m, .slice ba N bc, .slice ra NR rc] true bsX (.slice wa q wc) q xs → PwR A w p l n (.slice wa q wc) (.bool true) (.int .i64 ((k : Int) + 1)) W := fun W bsX h => PwR.of h (by rw [HAny.out]; rfl) (fun h => by cases h) (fun h => by cases h) hk1 hq1 _ (by go_num)
              have HFin' := Lib.hid fin
              have HFin := Lib.hid (fun W (h : PwS A w W p y #[.int .i64 1, .int .i64 m, .slice ba N bc, .slice ra NR rc] true bs0 (.slice wa q wc) q xs) => HFin'.out W bs0 h)
              clear fin
              go_wp2_with fail
              refine (pByteNo _ HP.out bs0).mono ?_
              rintro e w5 ⟨rfl, hP5⟩
              have HP5 := Lib.hid hP5
              clear hP5 z0 z1 z2 z3
              go_wp2
              go_roundw
              case rel => first | exact HFin.out _ HP5.out | ((repeat apply Exists.intro); refine ⟨?r, ?f⟩; (case f => (and_intros <;> rfl)); exact HFin.out _ HP5.out)
              case measure => simp [intOf]; omega
            · by_cases n2 : kd = 2
              · subst n2
                have fin : ∀ W bsX, PwS A w W p y #[.int .i64 2, .int .i64 m, .slice ba N bc, .slice ra NR rc] true bsX (.slice wa q wc) q xs → PwR A w p l n (.slice wa q wc) (.bool true) (.int .i64 ((k : Int) + 1)) W := fun W bsX h => PwR.of h (by rw [HAny.out]; rfl) (fun h => by cases h) (fun h => by cases h) hk1 hq1 _ (by go_num)
                have HFin' := Lib.hid fin
                have HFin := Lib.hid (fun W (h : PwS A w W p y #[.int .i64 2, .int .i64 m, .slice ba N bc, .slice ra NR rc] true bs0 (.slice wa q wc) q xs) => HFin'.out W bs0 h)
                clear fin
                go_wp2_with fail
                refine (pBytesNo ba N bc HP.out bs0).mono ?_
                rintro e w5 ⟨rfl, hP5⟩
                have HP5 := Lib.hid hP5
                clear hP5 z0 z1 z2 z3
                go_wp2
                go_roundw
                case rel => first | exact HFin.out _ HP5.out | ((repeat apply Exists.intro); refine ⟨?r, ?f⟩; (case f => (and_intros <;> rfl)); exact HFin.out _ HP5.out)
                case measure => simp [intOf]; omega
              · by_cases n3 : kd = 3
                · subst n3
                  have fin : ∀ W bsX, PwS A w W p y #[.int .i64 3, .int .i64 m, .slice ba N bc, .slice ra NR rc] true bsX (.slice wa q wc) q xs → PwR A w p l n (.slice wa q wc) (.bool true) (.int .i64 ((k : Int) + 1)) W := fun W bsX h => PwR.of h (by rw [HAny.out]; rfl) (fun h => by cases h) (fun h => by cases h) hk1 hq1 _ (by go_num)
                  have HFin' := Lib.hid fin
                  have HFin := Lib.hid (fun W (h : PwS A w W p y #[.int .i64 3, .int .i64 m, .slice ba N bc, .slice ra NR rc] true bs0 (.slice wa q wc) q xs) => HFin'.out W bs0 h)
                  clear fin
                  have hcv0 := str_run (P := Tryd.prog) (dst := 9) Num.elU8.ht Tryd.underlying5 Tryd.underlying9 (HZ.out _ HP.out.B).b bc 0
                  simp only at hcv0
                  rw [HNB.out, show ∀ W : World, W.drewN 0 = W from fun _ => rfl] at hcv0
                  go_wp2_with fail
                  refine (pTextNo bs HP.out (by rw [HNB.out]; omega) bs0).mono ?_
                  rintro e w5 ⟨rfl, hP5⟩
                  have HP5 := Lib.hid hP5
                  clear hP5 z0 z1 z2 z3
                  go_wp2
                  go_roundw
                  case rel => first | exact HFin.out _ HP5.out | ((repeat apply Exists.intro); refine ⟨?r, ?f⟩; (case f => (and_intros <;> rfl)); exact HFin.out _ HP5.out)
                  case measure => simp [intOf]; omega
                · have b0 : (kd == 0) = false := by simp [n0]
                  have b1 : (kd == 1) = false := by simp [n1]
                  have b2 : (kd == 2) = false := by simp [n2]
                  have b3 : (kd == 3) = false := by simp [n3]
                  have fin : ∀ W bsX, PwS A w W p y #[.int .i64 kd, .int .i64 m, .slice ba N bc, .slice ra NR rc] true bsX (.slice wa q wc) q xs → PwR A w p l n (.slice wa q wc) (.bool true) (.int .i64 ((k : Int) + 1)) W := fun W bsX h => PwR.of h (by rw [HAny.out]; rfl) (fun h => by cases h) (fun h => by cases h) hk1 hq1 _ (by go_num)
                  have HFin' := Lib.hid fin
                  have HFin := Lib.hid (fun W (h : PwS A w W p y #[.int .i64 kd, .int .i64 m, .slice ba N bc, .slice ra NR rc] true bs0 (.slice wa q wc) q xs) => HFin'.out W bs0 h)
                  clear fin
                  go_wp2_with fail
                  refine (pRowNo ra NR rc row HP.out HNR.out (HZ.out _ HP.out.B).r (by omega) bs0).mono ?_
                  rintro e w5 ⟨rfl, hP5⟩
                  have HP5 := Lib.hid hP5
                  clear hP5 z0 z1 z2 z3
                  go_wp2
                  go_roundw
                  case rel => first | exact HFin.out _ HP5.out | ((repeat apply Exists.intro); refine ⟨?r, ?f⟩; (case f => (and_intros <;> rfl)); exact HFin.out _ HP5.out)
                  case measure => simp [intOf]; omega
        | false =>
          have hbl0 : bs0.length ≤ 16000 := HBl.out rfl
          have HXs0 := Lib.hid (HXs.out rfl)
          have hcB := bad_c ⟨kd, m, ba, bc, bs, ra, rc, row⟩ _ (HZ.out _ HP.out.B) HSmz.out
          simp only at hcB
          rw [HNB.out, HNR.out] at hcB
          go_wp2_with fail
          (with_reducible refine hcB.mono ?_)
          rintro e w5 ⟨rfl, hb5⟩
          clear hcB
          have hP5 := HP.out.below hb5
          clear hb5 HP
          cases hbv : badV ⟨kd, m, ba, bc, bs, ra, rc, row⟩ with
          | true =>
            by_cases n0 : kd = 0
            · subst n0
              have hmb : m < 0 ∨ 2147483647 < m := by have := hbv; unfold badV at this; rw [if_pos rfl] at this; simpa using this
              clear z0 z1 z2 z3
              have z0 := cell_block hP5.yb 0
              have z1 := cell_block hP5.yb 1
              have z2 := cell_block hP5.yb 2
              have z3 := cell_block hP5.yb 3
              simp at z0 z1 z2 z3
              have fin : ∀ W bsX, PwS A w W p y #[.int .i64 0, .int .i64 m, .slice ba N bc, .slice ra NR rc] true bsX (.slice wa q wc) q xs → PwR A w p l n (.slice wa q wc) (.bool true) (.int .i64 ((k : Int) + 1)) W := fun W bsX h => PwR.of h (by rw [HAny.out, hbv]; rfl) (fun h => by cases h) (fun h => by cases h) hk1 hq1 _ (by go_num)
              have HFin' := Lib.hid fin
              have HFin := Lib.hid (fun W (h : PwS A w W p y #[.int .i64 0, .int .i64 m, .slice ba N bc, .slice ra NR rc] true bs0 (.slice wa q wc) q xs) => HFin'.out W bs0 h)
              clear fin
              go_wp2_with fail
              refine (pNumBad m hP5 hmb (by omega) HS.out bs0).mono ?_
              rintro e w6 ⟨rfl, hP6⟩
              clear hP5 hmb hbv
              have hP5 := hP6
              clear hP6
              have HP5 := Lib.hid hP5
              clear hP5 z0 z1 z2 z3
              go_wp2
              go_roundw
              case rel => first | exact HFin.out _ HP5.out | ((repeat apply Exists.intro); refine ⟨?r, ?f⟩; (case f => (and_intros <;> rfl)); exact HFin.out _ HP5.out)
              case measure => simp [intOf]; omega
            · by_cases n1 : kd = 1
              · subst n1
                exact absurd hbv (by unfold badV; simp)
              · by_cases n2 : kd = 2
                · subst n2
                  exact absurd hbv (by unfold badV; simp)
                · by_cases n3 : kd = 3
                  · subst n3
                    exact absurd hbv (by unfold badV; simp)
                  · have b0 : (kd == 0) = false := by simp [n0]
                    have b1 : (kd == 1) = false := by simp [n1]
                    have b2 : (kd == 2) = false := by simp [n2]
                    have b3 : (kd == 3) = false := by simp [n3]
                    have hmb : row.any nbad = true := by have := hbv; unfold badV at this; simp only at this; rw [if_neg n0, if_neg (by omega)] at this; exact this
                    clear z0 z1 z2 z3
                    have z0 := cell_block hP5.yb 0
                    have z1 := cell_block hP5.yb 1
                    have z2 := cell_block hP5.yb 2
                    have z3 := cell_block hP5.yb 3
                    simp at z0 z1 z2 z3
                    have fin : ∀ W bsX, PwS A w W p y #[.int .i64 kd, .int .i64 m, .slice ba N bc, .slice ra NR rc] true bsX (.slice wa q wc) q xs → PwR A w p l n (.slice wa q wc) (.bool true) (.int .i64 ((k : Int) + 1)) W := fun W bsX h => PwR.of h (by rw [HAny.out, hbv]; rfl) (fun h => by cases h) (fun h => by cases h) hk1 hq1 _ (by go_num)
                    have HFin' := Lib.hid fin
                    have HFin := Lib.hid (fun W (h : PwS A w W p y #[.int .i64 kd, .int .i64 m, .slice ba N bc, .slice ra NR rc] true bs0 (.slice wa q wc) q xs) => HFin'.out W bs0 h)
                    clear fin
                    have hc := pRow ra NR rc row hP5 HNR.out (HZ.out _ hP5.B).r HRb.out (by omega) (by omega) HS.out
                    rw [hmb] at hc
                    clear n0 n1 n2 n3
                    go_wp2_with fail
                    refine hc.mono ?_
                    rintro e w6 ⟨rfl, hP6⟩
                    have hP6' := hP6.no bs0
                    clear hP5 hmb hbv hP6 hc
                    have hP5 := hP6'
                    clear hP6'
                    have HP5 := Lib.hid hP5
                    clear hP5 z0 z1 z2 z3
                    go_wp2
                    go_roundw
                    case rel => first | exact HFin.out _ HP5.out | ((repeat apply Exists.intro); refine ⟨?r, ?f⟩; (case f => (and_intros <;> rfl)); exact HFin.out _ HP5.out)
                    case measure => simp [intOf]; omega
          | false =>
            by_cases n0 : kd = 0
            · subst n0
              have hev : encV ⟨0, m, ba, bc, bs, ra, rc, row⟩ = enc m.toNat := by simp [encV]
              have henl := encV_len _ HSmz.out hbv
              rw [hev] at henl
              have fin : ∀ W a' c' M, PwS A w W p y #[.int .i64 0, .int .i64 m, .slice ba N bc, .slice ra NR rc] false (bs0 ++ enc m.toNat) (.slice a' (q + M) c') (q + M) (xs ++ enc m.toNat) → M ≤ 400 → PwR A w p l n (.slice a' (q + M) c') (.bool false) (.int .i64 ((k : Int) + 1)) W := fun W a' c' M h hM => PwR.of h (by rw [HAny.out, hbv]; rfl) (fun _ => by rw [HEnc.out, hev]) (fun _ => by rw [HEnc.out, hev, HXs0.out]) hk1 (by omega) _ (by go_num)
              have HFin' := Lib.hid fin
              have HEl := Lib.hid henl
              clear z0 z1 z2 z3
              have z0 := cell_block hP5.yb 0
              have z1 := cell_block hP5.yb 1
              have z2 := cell_block hP5.yb 2
              have z3 := cell_block hP5.yb 3
              simp at z0 z1 z2 z3
              have hm2 : ¬ (m < 0 ∨ 2147483647 < m) := by have := hbv; unfold badV at this; rw [if_pos rfl] at this; simpa using this
              have hmc : ((m.toNat : Nat) : Int) = m := by omega
              have hc := pNum m.toNat hP5 (by omega) (by omega)
              obtain ⟨M, hM⟩ : ∃ M, (enc m.toNat).length = M := ⟨_, rfl⟩
              rw [hM] at henl
              rw [hmc] at hc
              have hcw := fun W => rnum_c m.toNat M W (by omega) hM
              simp only [hmc] at hcw
              have HCw := Lib.hid hcw
              have HFin := Lib.hid (fun W a' c' (_ : Unit) h => HFin'.out W a' c' M h henl)
              clear hm2 hmc fin hev hbv hM hcw
              go_wp2_with fail
              refine hc.mono ?_
              rintro e w6 ⟨rfl, hP6⟩
              clear z0 z1 z2 z3 hc hP5
              have z0 := cell_block hP6.yb 0
              have z1 := cell_block hP6.yb 1
              have z2 := cell_block hP6.yb 2
              have z3 := cell_block hP6.yb 3
              simp at z0 z1 z2 z3
              go_wp2_with fail
              refine (HCw.out _).mono ?_
              rintro e w7 ⟨a7, c7, rfl, own7, hb7⟩
              obtain ⟨a8, c8, w8, hrun, hP8⟩ := hP6.stepW hb7 own7 (by omega)
              clear hP6 own7 hb7
              go_wp2_with (at_builtin; (with_reducible apply wpList_append_run hrun); rfl; rfl; rfl; rfl; rfl)
              have HP8 := Lib.hid hP8
              clear hP8 z0 z1 z2 z3
              go_roundw
              case rel => first | exact HFin.out _ _ _ () HP8.out | ((repeat apply Exists.intro); refine ⟨?r, ?f⟩; (case f => (and_intros <;> rfl)); exact HFin.out _ _ _ () HP8.out)
              case measure => simp [intOf]; omega
            · by_cases n1 : kd = 1
              · subst n1
                have hev : encV ⟨1, m, ba, bc, bs, ra, rc, row⟩ = [byteOf m] := by simp [encV]
                have henl := encV_len _ HSmz.out hbv
                rw [hev] at henl
                have fin : ∀ W a' c' M, PwS A w W p y #[.int .i64 1, .int .i64 m, .slice ba N bc, .slice ra NR rc] false (bs0 ++ [byteOf m]) (.slice a' (q + M) c') (q + M) (xs ++ [byteOf m]) → M ≤ 400 → PwR A w p l n (.slice a' (q + M) c') (.bool false) (.int .i64 ((k : Int) + 1)) W := fun W a' c' M h hM => PwR.of h (by rw [HAny.out, hbv]; rfl) (fun _ => by rw [HEnc.out, hev]) (fun _ => by rw [HEnc.out, hev, HXs0.out]) hk1 (by omega) _ (by go_num)
                have HFin' := Lib.hid fin
                have HEl := Lib.hid henl
                clear z0 z1 z2 z3
                have z0 := cell_block hP5.yb 0
                have z1 := cell_block hP5.yb 1
                have z2 := cell_block hP5.yb 2
                have z3 := cell_block hP5.yb 3
                simp at z0 z1 z2 z3
                have HFin := Lib.hid (fun W a' c' (_ : Unit) h => HFin'.out W a' c' 1 h (by omega))
                have hc := pByte m hP5 (by omega)
                have hbyte : ((byteOf m).toNat : Int) = m % 256 := by
                  rw [byteOf, ofNat_toNat (by omega)]
                  omega
                have HBy := Lib.hid hbyte
                clear fin hev hbv henl hbyte
                go_wp2_with fail
                refine hc.mono ?_
                rintro e w6 ⟨rfl, hP6⟩
                clear z0 z1 z2 z3 hc hP5
                have z0 := cell_block hP6.yb 0
                have z1 := cell_block hP6.yb 1
                have z2 := cell_block hP6.yb 2
                have z3 := cell_block hP6.yb 3
                simp at z0 z1 z2 z3
                have hb7 := (Below.refl w6.heap.size w6).alloc (Nat.le_refl _) (.cells #[.int .u8 (m % 256)] 5)
                have own7 : (w6.alloc (.cells #[.int .u8 (m % 256)] 5)).ownsRow w6.heap.size 5 1 (.slice (some ⟨w6.heap.size, 0, none⟩) 1 1) 1 (u8s [byteOf m]) := by
                  have := own_new w6 w6.heap.size 5 1 1 #[.int .u8 (m % 256)] (Nat.le_refl _) (by decide) rfl
                  rw [show (#[.int .u8 (m % 256)] : Array Value).toList = u8s [byteOf m] by simp [u8s, HBy.out]] at this
                  exact this
                obtain ⟨a8, c8, w8, hrun, hP8⟩ := hP6.stepW hb7 own7 (by omega)
                clear hP6 own7 hb7
                go_wp2_with (at_builtin; (with_reducible apply wpList_append_run hrun); rfl; rfl; rfl; rfl; rfl)
                have HP8 := Lib.hid hP8
                clear hP8 z0 z1 z2 z3
                go_roundw
                case rel => first | exact HFin.out _ _ _ () HP8.out | ((repeat apply Exists.intro); refine ⟨?r, ?f⟩; (case f => (and_intros <;> rfl)); exact HFin.out _ _ _ () HP8.out)
                case measure => simp [intOf]; omega
              · by_cases n2 : kd = 2
                · subst n2
                  have hev : encV ⟨2, m, ba, bc, bs, ra, rc, row⟩ = (enc N ++ bs) := by simp [encV, HNB.out]
                  have henl := encV_len _ HSmz.out hbv
                  rw [hev] at henl
                  have fin : ∀ W a' c' M, PwS A w W p y #[.int .i64 2, .int .i64 m, .slice ba N bc, .slice ra NR rc] false (bs0 ++ (enc N ++ bs)) (.slice a' (q + M) c') (q + M) (xs ++ (enc N ++ bs)) → M ≤ 400 → PwR A w p l n (.slice a' (q + M) c') (.bool false) (.int .i64 ((k : Int) + 1)) W := fun W a' c' M h hM => PwR.of h (by rw [HAny.out, hbv]; rfl) (fun _ => by rw [HEnc.out, hev]) (fun _ => by rw [HEnc.out, hev, HXs0.out]) hk1 (by omega) _ (by go_num)
                  have HFin' := Lib.hid fin
                  have HEl := Lib.hid henl
                  clear z0 z1 z2 z3
                  have z0 := cell_block hP5.yb 0
                  have z1 := cell_block hP5.yb 1
                  have z2 := cell_block hP5.yb 2
                  have z3 := cell_block hP5.yb 3
                  simp at z0 z1 z2 z3
                  have hc := pBytes ba N bc bs hP5 HNB.out (HZ.out _ hP5.B).b HBb.out (HZ.out _ hP5.B).bn (by omega) (by omega)
                  obtain ⟨M, hM⟩ : ∃ M, (enc N).length = M := ⟨_, rfl⟩
                  have hM5 : M ≤ 5 := by rw [← hM]; exact enc_len5 (by omega)
                  have hcw := fun W => rnum_c N M W (by omega) hM
                  have HCw := Lib.hid hcw
                  have HFin := Lib.hid (fun W a' c' (_ : Unit) h => HFin'.out W a' c' (M + N) h (by omega))
                  clear fin hev hbv henl hM hcw
                  go_wp2_with fail
                  refine hc.mono ?_
                  rintro e w6 ⟨rfl, hP6⟩
                  clear z0 z1 z2 z3 hc hP5
                  have z0 := cell_block hP6.yb 0
                  have z1 := cell_block hP6.yb 1
                  have z2 := cell_block hP6.yb 2
                  have z3 := cell_block hP6.yb 3
                  simp at z0 z1 z2 z3
                  have sk : ∀ W : World, W.heap[y]? = some (.cells #[.int .i64 2, .int .i64 m, .slice ba N bc, .slice ra NR rc] 104 (0, 0)) → W.cell? ⟨y, 2, none⟩ = some (.slice ba N bc) := fun W h => cell_block h 2
                  have SK := Lib.hid sk
                  have y0 := hP6.yb
                  have HP6 := Lib.hid (hP6.below (Below.refl _ _).drew)
                  clear sk hP6
                  go_wp2_with fail
                  go_region_held3 (fun W => W.cell? ⟨y, 2, none⟩ = some (.slice ba N bc)) (first | exact SK.out _ y3 | exact SK.out _ y2 | exact SK.out _ y1 | exact SK.out _ y0)
                    (first
                      | (go_at_call 75; (with_reducible refine (HCw.out _).mono ?_); rintro e w7 ⟨a7, c7, rfl, own7, hb7⟩
                         obtain ⟨a8, c8, w8, hrun8, hP8⟩ := HP6.out.stepW hb7 own7 (by omega)
                         obtain ⟨a9, c9, w9, hrun9, hP9⟩ := hP8.stepR (Below.refl _ _) HNB.out (HZ.out _ hP8.B).b (HZ.out _ hP8.B).bn (by omega)
                         have y1 := (HP6.out.below hb7).yb
                         have y2 := hP8.yb
                         have y3 := hP9.yb)
                      | ((with_reducible apply step_append_run hrun8); rfl; rfl; rfl; rfl; rfl)
                      | ((with_reducible apply step_append_run hrun9); rfl; rfl; rfl; rfl; rfl))
                  all_goals
                    have hfin2 := HFin.out _ _ _ () (by have := hP9; rw [Nat.add_assoc, List.append_assoc] at this; exact this)
                    rw [← Nat.add_assoc] at hfin2
                    have HFin2 := Lib.hid hfin2
                    clear hfin2 hP8 hP9 y0 y1 y2 y3 z0 z1 z2 z3 own7 hb7 hrun8 hrun9
                    go_wp2
                    go_roundw
                    case rel => first | exact HFin2.out | ((repeat apply Exists.intro); refine ⟨?r, ?f⟩; (case f => (and_intros <;> rfl)); exact HFin2.out)
                    case measure => simp [intOf]; omega

                · by_cases n3 : kd = 3
                  · subst n3
                    have hev : encV ⟨3, m, ba, bc, bs, ra, rc, row⟩ = (enc N ++ bs) := by simp [encV, HNB.out]
                    have henl := encV_len _ HSmz.out hbv
                    rw [hev] at henl
                    have fin : ∀ W a' c' M, PwS A w W p y #[.int .i64 3, .int .i64 m, .slice ba N bc, .slice ra NR rc] false (bs0 ++ (enc N ++ bs)) (.slice a' (q + M) c') (q + M) (xs ++ (enc N ++ bs)) → M ≤ 400 → PwR A w p l n (.slice a' (q + M) c') (.bool false) (.int .i64 ((k : Int) + 1)) W := fun W a' c' M h hM => PwR.of h (by rw [HAny.out, hbv]; rfl) (fun _ => by rw [HEnc.out, hev]) (fun _ => by rw [HEnc.out, hev, HXs0.out]) hk1 (by omega) _ (by go_num)
                    have HFin' := Lib.hid fin
                    have HEl := Lib.hid henl
                    clear z0 z1 z2 z3
                    have z0 := cell_block hP5.yb 0
                    have z1 := cell_block hP5.yb 1
                    have z2 := cell_block hP5.yb 2
                    have z3 := cell_block hP5.yb 3
                    simp at z0 z1 z2 z3
                    have hcv0 := str_run (P := Tryd.prog) (dst := 9) Num.elU8.ht Tryd.underlying5 Tryd.underlying9 (HZ.out _ hP5.B).b bc 0
                    simp only at hcv0
                    rw [HNB.out, show ∀ W : World, W.drewN 0 = W from fun _ => rfl] at hcv0
                    have hc := pText bs N hP5 HNB.out (by omega) (by omega)
                    obtain ⟨M, hM⟩ : ∃ M, (enc N).length = M := ⟨_, rfl⟩
                    have hM5 : M ≤ 5 := by rw [← hM]; exact enc_len5 (by omega)
                    have hcw := fun W => rnum_c N M W (by omega) hM
                    have HCw := Lib.hid hcw
                    have HFin := Lib.hid (fun W a' c' (_ : Unit) h => HFin'.out W a' c' (M + N) h (by omega))
                    clear fin hev hbv henl hM hcw
                    go_wp2_with fail
                    refine hc.mono ?_
                    rintro e w6 ⟨rfl, hP6⟩
                    clear z0 z1 z2 z3 hc hP5 hcv0
                    have z0 := cell_block hP6.yb 0
                    have z1 := cell_block hP6.yb 1
                    have z2 := cell_block hP6.yb 2
                    have z3 := cell_block hP6.yb 3
                    simp at z0 z1 z2 z3
                    have sk : ∀ W : World, W.heap[y]? = some (.cells #[.int .i64 3, .int .i64 m, .slice ba N bc, .slice ra NR rc] 104 (0, 0)) → W.cell? ⟨y, 2, none⟩ = some (.slice ba N bc) := fun W h => cell_block h 2
                    have SK := Lib.hid sk
                    have y0 := hP6.yb
                    have HP6 := Lib.hid (hP6.below (Below.refl _ _).drew)
                    clear sk hP6
                    go_wp2_with fail
                    go_region_held3 (fun W => W.cell? ⟨y, 2, none⟩ = some (.slice ba N bc)) (first | exact SK.out _ y3 | exact SK.out _ y2 | exact SK.out _ y1 | exact SK.out _ y0)
                      (first
                        | (go_at_call 75; (with_reducible refine (HCw.out _).mono ?_); rintro e w7 ⟨a7, c7, rfl, own7, hb7⟩
                           obtain ⟨a8, c8, w8, hrun8, hP8⟩ := HP6.out.stepW hb7 own7 (by omega)
                           obtain ⟨a9, c9, w9, hrun9, hP9⟩ := hP8.stepR (Below.refl _ _) HNB.out (HZ.out _ hP8.B).b (HZ.out _ hP8.B).bn (by omega)
                           have y1 := (HP6.out.below hb7).yb
                           have y2 := hP8.yb
                           have y3 := hP9.yb)
                        | ((with_reducible apply step_append_run hrun8); rfl; rfl; rfl; rfl; rfl)
                        | ((with_reducible apply step_append_run hrun9); rfl; rfl; rfl; rfl; rfl))
                    all_goals
                      have hfin2 := HFin.out _ _ _ () (by have := hP9; rw [Nat.add_assoc, List.append_assoc] at this; exact this)
                      rw [← Nat.add_assoc] at hfin2
                      have HFin2 := Lib.hid hfin2
                      clear hfin2 hP8 hP9 y0 y1 y2 y3 z0 z1 z2 z3 own7 hb7 hrun8 hrun9
                      go_wp2
                      go_roundw
                      case rel => first | exact HFin2.out | ((repeat apply Exists.intro); refine ⟨?r, ?f⟩; (case f => (and_intros <;> rfl)); exact HFin2.out)
                      case measure => simp [intOf]; omega

                  · have b0 : (kd == 0) = false := by simp [n0]
                    have b1 : (kd == 1) = false := by simp [n1]
                    have b2 : (kd == 2) = false := by simp [n2]
                    have b3 : (kd == 3) = false := by simp [n3]
                    have hev : encV ⟨kd, m, ba, bc, bs, ra, rc, row⟩ = encRow row := by simp [encV, n0, n1, n2, n3]
                    have henl := encV_len _ HSmz.out hbv
                    rw [hev] at henl
                    have fin : ∀ W a' c' M, PwS A w W p y #[.int .i64 kd, .int .i64 m, .slice ba N bc, .slice ra NR rc] false (bs0 ++ encRow row) (.slice a' (q + M) c') (q + M) (xs ++ encRow row) → M ≤ 400 → PwR A w p l n (.slice a' (q + M) c') (.bool false) (.int .i64 ((k : Int) + 1)) W := fun W a' c' M h hM => PwR.of h (by rw [HAny.out, hbv]; rfl) (fun _ => by rw [HEnc.out, hev]) (fun _ => by rw [HEnc.out, hev, HXs0.out]) hk1 (by omega) _ (by go_num)
                    have HFin' := Lib.hid fin
                    have HEl := Lib.hid henl
                    clear z0 z1 z2 z3
                    have z0 := cell_block hP5.yb 0
                    have z1 := cell_block hP5.yb 1
                    have z2 := cell_block hP5.yb 2
                    have z3 := cell_block hP5.yb 3
                    simp at z0 z1 z2 z3
                    have hmb : row.any nbad = false := by have := hbv; unfold badV at this; simp only at this; rw [if_neg n0, if_neg (by omega)] at this; exact this
                    have hc := pRow ra NR rc row hP5 HNR.out (HZ.out _ hP5.B).r HRb.out (by omega) (by omega) HS.out
                    rw [hmb] at hc
                    have hcw := fun W (hW : Below w.heap.size w W) => rrow_c ra rc NR row W HNR.out (HZ.out W hW).r (by omega) hmb
                    have HCw := Lib.hid hcw
                    have HFin := Lib.hid (fun W a' c' M h hM => HFin'.out W a' c' M h hM)
                    clear fin hev hbv henl hcw hmb n0 n1 n2 n3
                    go_wp2_with fail
                    refine hc.mono ?_
                    rintro e w6 ⟨rfl, hP6⟩
                    clear z0 z1 z2 z3 hc hP5
                    have z0 := cell_block hP6.yb 0
                    have z1 := cell_block hP6.yb 1
                    have z2 := cell_block hP6.yb 2
                    have z3 := cell_block hP6.yb 3
                    simp at z0 z1 z2 z3
                    go_wp2_with fail
                    refine (HCw.out _ hP6.B).mono ?_
                    rintro e w7 ⟨a7, M, c7, rfl, hM, own7, hb7⟩
                    obtain ⟨a8, c8, w8, hrun, hP8⟩ := hP6.stepW hb7 own7 (by omega)
                    have HFin2 := Lib.hid (HFin.out _ _ _ _ hP8 (by omega))
                    clear hP6 own7 hb7 hP8
                    go_wp2_with (at_builtin; (with_reducible apply wpList_append_run hrun); rfl; rfl; rfl; rfl; rfl)
                    clear z0 z1 z2 z3
                    go_roundw
                    case rel => first | exact HFin2.out | ((repeat apply Exists.intro); refine ⟨?r, ?f⟩; (case f => (and_intros <;> rfl)); exact HFin2.out)
                    case measure => simp [intOf]; omega
      · have hkn : k = n := by omega
        have htk : l.take k = l := List.take_of_length_le (by rw [HL.out]; omega)
        rw [htk] at hO hxs
        have hbl : l.any badV = false → (encVs l).length ≤ 16000 := fun h => by
          have h1 := encVs_len l HSm.out h
          rw [HL.out] at h1
          omega
        rw [htk]
        obtain ⟨eb, heb⟩ : ∃ eb, l.any badV = eb := ⟨_, rfl⟩
        rw [heb] at hO hxs hbl ⊢
        subst hkn
        cases eb with
        | true =>
          obtain ⟨bs', _, hO'⟩ : ∃ bs' : List UInt8, bs'.length ≤ 1000000 ∧ OutS wr p g bs' (Er.ev A 1) := hO
          unfold Er.ev at hO'
          have HB := Lib.hid hB
          clear heb hxs hbl own hB htk
          go_wp2_with fail
          refine (odone_no wr hO').mono ?_
          rintro e w5 ⟨rfl, hb5⟩
          have HB5 := Lib.hid (HB.out.trans (hb5.mono HB.out.size))
          have hs5 := HSE.out.keep HB5.out
          have hnum := Er.num_at A 1 1 0 (by omega) rfl rfl _ hs5
          unfold Er.ev at hnum
          clear hO' hb5 hs5
          go_wp2_with (go_at_call 34; (with_reducible refine hnum.mono ?_); rintro e w7 ⟨rfl, hb7⟩)
          go_ret
          exact ⟨rfl, HB5.out.trans (hb7.mono HB5.out.size)⟩
        | false =>
          have hO' : OutS wr p g (encVs l) .nilIface := hO
          have hx : xs = encVs l := hxs rfl
          subst hx
          obtain ⟨N, hN⟩ : ∃ N, (encVs l).length = N := ⟨_, rfl⟩
          have hN16 : N ≤ 16000 := by rw [← hN]; exact hbl rfl
          have hqN : q = N := by have := own.1; rw [u8s_length, hN] at this; omega
          have hwant := Rd.own own
          have HB := Lib.hid hB
          have HW := Lib.hid hwant
          have HEb := Lib.hid heb
          have HN := Lib.hid hN
          subst hqN
          clear hxs hbl own hB hO hwant heb hN htk
          go_wp2_with fail
          refine (odone_ok q HN.out wr hO' (by omega)).mono ?_
          rintro e w5 ⟨a5, c5, rfl, own5, hb5⟩
          have hcv1 := str_run (P := Tryd.prog) (dst := 9) Num.elU8.ht Tryd.underlying5 Tryd.underlying9 (Rd.own own5) c5 0
          have hcv2 := str_run (P := Tryd.prog) (dst := 9) Num.elU8.ht Tryd.underlying5 Tryd.underlying9 (HW.out.keep hb5) wc 0
          rw [HN.out, show w5.drewN 0 = w5 from rfl] at hcv1 hcv2
          have hB5 := HB.out.trans (hb5.mono HB.out.size)
          have hrd := read_c a5 c5 q (encVs l) w5 HN.out (by omega) (fun h => by subst h; exact (own_none own5).1) (Rd.own own5)
          have HB5 := Lib.hid hB5
          clear hO' own5 hb5 hB5
          go_wp2_with fail
          refine hrd.mono ?_
          rintro e w6 ⟨p2, rfl, hp2, hI, hb6⟩
          have hB6 := HB5.out.trans (hb6.mono HB5.out.size)
          have hbk := back_c A p2 a c k l w w6 HL.out h40 HR.out HOk.out HSm.out HEb.out hI HS.out hB6 (by have := HB5.out.size; omega)
          have HB6 := Lib.hid hB6
          have hpp : w.heap.size ≤ p2 := by have := HB5.out.size; omega
          clear hI hb6 hB6 hrd hcv1 hcv2
          go_wp2_with fail
          refine hbk.mono ?_
          rintro e w7 ⟨rfl, hM7⟩
          have HB7 := Lib.hid (HB6.out.trans (hM7.toBelow HB6.out.size (by simpa using hpp)))
          clear hM7 hbk
          go_wp2
          go_ret
          exact ⟨rfl, HB7.out⟩
end Pk
end Go.Proofs.YtjohljpcoodijaaDoor
