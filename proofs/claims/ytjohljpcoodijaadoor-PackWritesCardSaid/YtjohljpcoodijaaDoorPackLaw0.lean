/- dofferlaw04: long, bad, back. Condition for back: the sentinels read as laid. -/
import Derived.Test.YtjohljpcoodijaaDoorPackIn2
import Derived.Test.YtjohljpcoodijaaDoorSame
import Derived.Deep.RegionHeld3
namespace Go.Proofs.YtjohljpcoodijaaDoor
open Go Go.RowKit Kt
namespace Pk
/-- A value that is written. -/
structure PV where
  k : Int
  n : Int
  ba : Option Addr
  bc : Nat
  bytes : List UInt8
  ra : Option Addr
  rc : Nat
  row : List Int
  deriving Inhabited
def PV.cs (z : PV) : List Value := [.int .i64 z.k, .int .i64 z.n, .slice z.ba z.bytes.length z.bc, .slice z.ra z.row.length z.rc]
structure PV.ok (w : World) (z : PV) : Prop where
  b : Rd w z.ba (u8s z.bytes)
  bl : z.bytes.length ≤ z.bc
  bm : z.bc ≤ maxLen
  bn : z.ba = none → z.bc = 0
  r : Rd w z.ra (i64s z.row)
  rl : z.row.length ≤ z.rc
  rm : z.rc ≤ maxLen
theorem PV.ok.keep {w w' : World} {z : PV} (h : z.ok w) (hb : Below w.heap.size w w') : z.ok w' := ⟨h.b.keep hb, h.bl, h.bm, h.bn, h.r.keep hb, h.rl, h.rm⟩
theorem Rd.modNew {S : List Nat} {w0 w w' : World} {a : Option Addr} {xs : List Value} (h0 : Rd w0 a xs) (h : Rd w a xs) (hM : Mod S w w') (hS : ∀ k ∈ S, w0.heap.size ≤ k) : Rd w' a xs :=
  Rd.mod' h hM (fun hne q hq hm => by
    obtain ⟨p, hp, hlt⟩ := h0.lt hne
    rw [hp] at hq
    obtain rfl := Option.some.inj hq
    have := hS _ hm
    omega)
def byteOf (n : Int) : UInt8 := UInt8.ofNat (n % 256).toNat
def encV (z : PV) : List UInt8 := if z.k = 0 then enc z.n.toNat else if z.k = 1 then [byteOf z.n] else if z.k = 2 ∨ z.k = 3 then enc z.bytes.length ++ z.bytes else encRow z.row
def badV (z : PV) : Bool := if z.k = 0 then decide (z.n < 0 ∨ 2147483647 < z.n) else if 1 ≤ z.k ∧ z.k ≤ 3 then false else z.row.any nbad
def small (z : PV) : Prop := z.bytes.length ≤ 300 ∧ z.row.length ≤ 60

def LoR (w : World) (l : List PV) (n : Nat) (i : Value) (W : World) : Prop := ∃ k : Nat, k ≤ n ∧ i = .int .i64 k ∧ (∀ z ∈ l.take k, small z) ∧ Below w.heap.size w W
def LoE (w : World) (l : List PV) (n : Nat) (e : Ending) (w' : World) : Prop := ∃ b, e = .returned (.bool b) ∧ (b = false → n ≤ 40 ∧ ∀ z ∈ l, small z) ∧ Below w.heap.size w w'
set_option maxHeartbeats 1000000 in
set_option maxRecDepth 100000 in
theorem long_c (a : Option Addr) (c n : Nat) (l : List PV) (w : World) (hl : l.length = n) (h63 : n ≤ 9223372036854775807) (hr : Rd w a (l.flatMap PV.cs)) :
    Calls Tryd.prog 69 #[.slice a n c] w fun e w' => LoE w l n e w' := by
  have HL := Lib.hid hl
  have HR := Lib.hid hr
  clear hl hr
  by_cases h40 : n ≤ 40
  · have hd : decide (40 < n) = false := by simp; omega
    go_enter Tryd.func69, Tryd.ntmps69
    go_wp2
    go_loopw [10] (fun i W => LoR w l n i W) (fun i _ => n - (intOf i).toNat)
    case atStart => exact ⟨0, Nat.zero_le _, rfl, by simp, Below.refl _ _⟩
    case round =>
      obtain ⟨k, hk, rfl, hsm, hB⟩ := hrel
      by_cases hlt : k < n
      · have hkl : k < l.length := by rw [HL.out]; exact hlt
        obtain ⟨b, off, ha, hcs⟩ := (HR.out.keep hB).struct 4 (by intro z _; rfl) k hkl (by omega)
        have k0 := hcs 0 _ rfl (by omega)
        have k1 := hcs 1 _ rfl (by omega)
        have k2 := hcs 2 _ rfl (by omega)
        have k3 := hcs 3 _ rfl (by omega)
        simp only [Nat.add_zero] at k0
        rw [← Nat.add_assoc] at k1 k2 k3
        have htk : l.take (k + 1) = l.take k ++ [l[k]] := by simp
        generalize l[k] = z at *
        obtain ⟨kd, m, ba, bc, bs, ra, rc, row⟩ := z
        subst ha
        have hnew : bs.length ≤ 300 → row.length ≤ 60 → ∀ z ∈ l.take (k + 1), small z := by
          intro h1 h2 z hz
          rw [htk] at hz
          rcases List.mem_append.1 hz with h | h
          · exact hsm z h
          · simp at h; subst h; exact ⟨h1, h2⟩
        have HN := Lib.hid hnew
        have HB := Lib.hid (hB.alloc hB.size (.cells #[.int .i64 kd, .int .i64 m, .slice ba bs.length bc, .slice ra row.length rc] 104))
        simp only at k0 k1 k2 k3
        clear hcs htk hsm hnew hB
        by_cases h300 : bs.length ≤ 300
        · by_cases h60 : row.length ≤ 60
          · have d1 : decide (300 < bs.length) = false := by simp; omega
            have d2 : decide (60 < row.length) = false := by simp; omega
            go_wp2
            go_roundw
            case rel => first | exact ⟨k + 1, by omega, by go_num, HN.out h300 h60, HB.out⟩ | ((repeat apply Exists.intro); refine ⟨?r, ?f⟩; (case f => (and_intros <;> rfl)); exact ⟨k + 1, by omega, by go_num, HN.out h300 h60, HB.out⟩)
            case measure => simp [intOf]; omega
          · have d1 : decide (300 < bs.length) = false := by simp; omega
            have d2 : decide (60 < row.length) = true := by simp; omega
            have h60' : 60 < row.length := by omega
            clear h60
            go_wp2
            go_ret
            exact ⟨true, rfl, fun h => (by cases h), HB.out⟩
        · have d1 : decide (300 < bs.length) = true := by simp; omega
          have h300' : 300 < bs.length := by omega
          clear h300
          go_wp2
          go_ret
          exact ⟨true, rfl, fun h => (by cases h), HB.out⟩
      · have : k = n := by omega
        subst this
        rw [List.take_of_length_le (by rw [HL.out]; exact Nat.le_refl _)] at hsm
        have HS := Lib.hid hsm
        clear hsm
        go_wp2
        go_ret
        exact ⟨false, rfl, fun _ => ⟨h40, HS.out⟩, hB⟩
  · have hd : decide (40 < n) = true := by simp; omega
    go_enter Tryd.func69, Tryd.ntmps69
    go_wp2
    go_ret
    exact ⟨true, rfl, fun h => (by cases h), Below.refl _ _⟩

def BaR (w : World) (l : List Int) (n : Nat) (i : Value) (W : World) : Prop := ∃ k : Nat, k ≤ n ∧ i = .int .i64 k ∧ (l.take k).any nbad = false ∧ Below w.heap.size w W
set_option maxHeartbeats 2000000 in
set_option maxRecDepth 100000 in
theorem bad_c (z : PV) (w : World) (h : z.ok w) (hsm : small z) :
    Calls Tryd.prog 70 #[.agg #[.int .i64 z.k, .int .i64 z.n, .slice z.ba z.bytes.length z.bc, .slice z.ra z.row.length z.rc]] w fun e w' => e = .returned (.bool (badV z)) ∧ Below w.heap.size w w' := by
  obtain ⟨kd, m, ba, bc, bs, ra, rc, row⟩ := z
  have hB0 := (Below.refl w.heap.size w).alloc (Nat.le_refl _) (.cells #[.int .i64 kd, .int .i64 m, .slice ba bs.length bc, .slice ra row.length rc] 104)
  have HB := Lib.hid hB0
  have HR := Lib.hid h.r
  obtain ⟨h300, h60⟩ := hsm
  simp only at h300 h60 HR
  simp only
  clear h hB0
  by_cases h0 : kd = 0
  · subst h0
    have hv : badV ⟨0, m, ba, bc, bs, ra, rc, row⟩ = decide (m < 0 ∨ 2147483647 < m) := by unfold badV; rw [if_pos rfl]
    rw [hv]
    by_cases hm : m < 0
    · have hb : decide (m < 0) = true := by simpa using hm
      have hd : decide (m < 0 ∨ 2147483647 < m) = true := by simp [hm]
      rw [hd]
      clear hv hd hm
      go_enter Tryd.func70, Tryd.ntmps70
      go_wp2
      go_ret
      exact ⟨rfl, HB.out⟩
    · have hb : decide (m < 0) = false := by simpa using hm
      have hd : decide (m < 0 ∨ 2147483647 < m) = decide (2147483647 < m) := by simp [hm]
      rw [hd]
      clear hv hd hm
      go_enter Tryd.func70, Tryd.ntmps70
      go_wp2
      go_ret
      exact ⟨rfl, HB.out⟩
  · have n0 : (kd == 0) = false := by simp [h0]
    by_cases h13 : 1 ≤ kd ∧ kd ≤ 3
    · have hv : badV ⟨kd, m, ba, bc, bs, ra, rc, row⟩ = false := by unfold badV; rw [if_neg h0, if_pos h13]
      rw [hv]
      have d1 : decide (1 ≤ kd) = true := by simp; omega
      have d2 : decide (kd ≤ 3) = true := by simp; omega
      clear hv h13 h0
      go_enter Tryd.func70, Tryd.ntmps70
      go_wp2
      go_ret
      exact ⟨rfl, HB.out⟩
    · have hv : badV ⟨kd, m, ba, bc, bs, ra, rc, row⟩ = row.any nbad := by unfold badV; rw [if_neg h0, if_neg h13]
      rw [hv]
      have d12 : decide (1 ≤ kd) = false ∨ (decide (1 ≤ kd) = true ∧ decide (kd ≤ 3) = false) := by
        by_cases h : 1 ≤ kd
        · right; exact ⟨by simpa using h, by simp; omega⟩
        · left; simpa using h
      clear hv h13 h0
      obtain ⟨n, hn⟩ : ∃ n, row.length = n := ⟨_, rfl⟩
      rw [hn] at h60 HB ⊢
      have Hn := Lib.hid hn
      clear hn
      rcases d12 with d1 | ⟨d1, d2⟩
      all_goals
        go_enter Tryd.func70, Tryd.ntmps70
        go_wp2
        go_loopw [4, 27] (fun _ i W => BaR w row n i W) (fun _ i _ => n - (intOf i).toNat)
        case atStart => exact ⟨0, Nat.zero_le _, rfl, by simp, HB.out⟩
        case round =>
          obtain ⟨k, hk, rfl, hno, hB⟩ := hrel
          by_cases hlt : k < n
          · have hkl : k < row.length := by rw [Hn.out]; exact hlt
            obtain ⟨b, off, ha, hc⟩ := (HR.out.keep hB).i64 k hkl
            have htk : row.take (k + 1) = row.take k ++ [row[k]] := by simp
            have hyes : nbad row[k] = true → row.any nbad = true := fun h => List.any_eq_true.2 ⟨_, List.getElem_mem hkl, h⟩
            generalize row[k] = x at *
            subst ha
            have hnx : nbad x = false → (row.take (k + 1)).any nbad = false := by intro h; rw [htk]; simp [hno, h]
            have HNx := Lib.hid hnx
            have HY := Lib.hid hyes
            clear htk hyes hnx hno
            by_cases hx : x < -1
            · have e1 : decide (x < -1) = true := by simpa using hx
              have hnb : nbad x = true := by simp [nbad, hx]
              have HV := Lib.hid (HY.out hnb)
              clear hx hnb
              go_wp2
              go_ret
              exact ⟨by rw [HV.out]; rfl, hB⟩
            · have e1 : decide (x < -1) = false := by simpa using hx
              by_cases hx2 : 2147483646 < x
              · have e2 : decide (2147483646 < x) = true := by simpa using hx2
                have hnb : nbad x = true := by simp [nbad, hx2]
                have HV := Lib.hid (HY.out hnb)
                clear hx hx2 hnb
                go_wp2
                go_ret
                exact ⟨by rw [HV.out]; rfl, hB⟩
              · have e2 : decide (2147483646 < x) = false := by simpa using hx2
                have hnb : nbad x = false := by simp [nbad]; omega
                have HV := Lib.hid (HNx.out hnb)
                clear hx hx2 hnb
                go_wp2
                go_roundw
                case rel => first | exact ⟨k + 1, by omega, by go_num, HV.out, hB⟩ | ((repeat apply Exists.intro); refine ⟨?r, ?f⟩; (case f => (and_intros <;> rfl)); exact ⟨k + 1, by omega, by go_num, HV.out, hB⟩)
                case measure => simp [intOf]; omega
          · have : k = n := by omega
            subst this
            rw [List.take_of_length_le (by rw [Hn.out]; exact Nat.le_refl _)] at hno
            have HV := Lib.hid hno
            clear hno
            go_wp2
            go_ret
            exact ⟨by rw [HV.out]; rfl, hB⟩
end Pk
end Go.Proofs.YtjohljpcoodijaaDoor
