/- dofferlaw29.RingKeeps returns true. Condition: the sentinels read as laid. -/
import Derived.Test.YtjohljpcoodijaaDoorRingS
import Derived.Test.YtjohljpcoodijaaDoorRingActs
import Derived.Test.YtjohljpcoodijaaDoorNum
namespace Go.Proofs.YtjohljpcoodijaaDoor
open Go Go.RowKit Kt Rg
namespace RgK

open RgA (c2)
/-- The j-th text that is put. -/
def tx (j : Nat) : List UInt8 := [UInt8.ofNat (97 + j / 26), UInt8.ofNat (97 + j % 26)]
def sB (j : Nat) : ByteArray := Str (tx j)
def qOf (tk nx : Nat) : List ByteArray := (List.range' tk (nx - tk)).map sB
theorem qOf_length (tk nx : Nat) : (qOf tk nx).length = nx - tk := by simp [qOf]
theorem qOf_put (tk nx : Nat) (h : tk ≤ nx) : qOf tk nx ++ [sB nx] = qOf tk (nx + 1) := by
  unfold qOf
  rw [show nx + 1 - tk = (nx - tk) + 1 by omega, List.range'_concat, List.map_append, Nat.one_mul, show tk + (nx - tk) = nx by omega]
  rfl
theorem qOf_drop (tk nx m : Nat) : (qOf tk nx).drop m = qOf (tk + m) nx := by
  unfold qOf
  rw [← List.map_drop, List.drop_range']
  congr 2
  · omega
  · omega
theorem qOf_at (tk nx k : Nat) (h : k < nx - tk) : (qOf tk nx)[k]? = some (sB (tk + k)) := by
  unfold qOf
  rw [List.getElem?_map, List.getElem?_range' (by omega)]
  simp
theorem qOf_tl (tk nx m : Nat) : ((qOf tk nx).take m).length = min m (nx - tk) := by rw [List.length_take, qOf_length]
theorem qOf_drop' (tk nx m : Nat) (h : tk ≤ nx) : (qOf tk nx).drop m = qOf (tk + min m (nx - tk)) nx := by
  rw [qOf_drop]
  by_cases hm : m ≤ nx - tk
  · rw [Nat.min_eq_left hm]
  · rw [Nat.min_eq_right (by omega)]
    unfold qOf
    rw [show nx - (tk + m) = 0 by omega, show nx - (tk + (nx - tk)) = 0 by omega]
    rfl
/-- The last text that was taken. -/
def lastOf (tk : Nat) : ByteArray := if tk = 0 then Str [] else sB (tk - 1)
theorem less_next (j : Nat) (hj : j < 200) : (Op.bytesLess (tx j) (lastOf j).toList || tx j == (lastOf j).toList) = false := by
  unfold lastOf
  by_cases h : j = 0
  · subst h
    rw [if_pos rfl, Str_list]
    decide
  · rw [if_neg h]
    unfold sB
    rw [Str_list]
    have : ∀ j, j < 200 → j ≠ 0 → (Op.bytesLess (tx j) (tx (j - 1)) || tx j == tx (j - 1)) = false := by decide +kernel
    exact this j hj h

theorem less_b (j : Nat) (hj : j < 200) : (Op.bytesLess (sB j).toList (lastOf j).toList || (sB j).toList == (lastOf j).toList) = false := by
  have h := less_next j hj
  unfold sB
  rw [Str_list]
  exact h
theorem lastOf_succ (j : Nat) : lastOf (j + 1) = sB j := by simp [lastOf]
theorem tx_cells (n : Nat) (hn : n ≤ 200) : (#[.int .u8 (97 + (n : Int) / 26), .int .u8 (97 + (n : Int) % 26)] : Array Value).toList = u8s (tx n) := by
  have e1 : 97 + (n : Int) / 26 = ((UInt8.ofNat (97 + n / 26)).toNat : Int) := by simp; omega
  have e2 : 97 + (n : Int) % 26 = ((UInt8.ofNat (97 + n % 26)).toNat : Int) := by simp; omega
  rw [e1, e2]
  rfl
set_option maxHeartbeats 2000000 in
set_option maxRecDepth 100000 in
theorem keeps_c (A : Nat → Addr) (room0 : Int) (a : Option Addr) (cap : Nat) (l : List (Int × Int)) (w : World) (hl : l.length ≤ 9223372036854775807) (hr : Rd w a (l.flatMap c2)) (hs : Sent 152 w A Er.egs) :
    Calls Tryd.prog 5 #[.int .i64 room0, .slice a l.length cap] w fun e w' => e = .returned (.bool true) ∧ Below w.heap.size w w' := by
  by_cases h100 : l.length ≤ 100
  · have hd : decide (100 < (l.length : Int)) = false := by simp; omega
    obtain ⟨room, hroom, h1, h2⟩ : ∃ room : Nat, wrap64 (1 + wrap64 ((IntKind.u64.wrap room0).tmod 32)) = (room : Int) ∧ 1 ≤ room ∧ room ≤ 32 := by
      have h0 := wrap_u64_nonneg room0
      generalize IntKind.u64.wrap room0 = u at *
      have e : u.tmod 32 = u % 32 := by rw [Int.tmod_eq_emod_of_nonneg h0]
      rw [e, IntWalk.wrap64_in (u % 32) ⟨by omega, by omega⟩, IntWalk.wrap64_in _ ⟨by omega, by omega⟩]
      exact ⟨(1 + u % 32).toNat, by omega, by omega, by omega⟩
    go_enter Tryd.func5, Tryd.ntmps5
    go_wp2_with (go_at_call 26; refine (RgA.alive_c A _ hs).mono ?_; rintro e w1 ⟨rfl, hb1⟩)
    refine (RgS.new_ok room _ rfl w1 h1 h2).mono ?_
    rintro e w2 ⟨p, g, rfl, hI, hp, hg, hb2⟩
    have B2 := hb1.trans (hb2.mono hb1.size)
    have hp2 : w.heap.size ≤ p := Nat.le_trans hb1.size hp
    have hg2 : w.heap.size ≤ g := Nat.le_trans hb1.size hg
    have Hroom := Lib.hid hroom
    clear hroom
    go_wp2
    go_loopw [7, 8, 11, 13, 34, 62] (fun nx last _ _ i _ W => ∃ k tk n f, k ≤ l.length ∧ i = .int .i64 (k : Nat) ∧ nx = .int .i64 (n : Nat) ∧ last = .string (lastOf tk) ∧ tk ≤ n ∧ n ≤ k ∧ RgS.Is W p g room f (qOf tk n) n tk ∧ Below w.heap.size w W) (fun _ _ _ _ i _ _ => l.length - (intOf i).toNat)
    case atStart => exact ⟨0, 0, 0, 0, Nat.zero_le _, rfl, rfl, rfl, Nat.le_refl _, Nat.le_refl _, hI, B2⟩
    case round =>
      obtain ⟨k, tk, n, f, hk, rfl, rfl, rfl, htn, hnk, hI, hB⟩ := hrel
      by_cases hlt : k < l.length
      · obtain ⟨b, off, ha, hcs⟩ := (hr.keep hB).struct 2 (by intro z _; rfl) k hlt (by omega)
        have k0 := hcs 0 _ rfl (by omega)
        have k1 := hcs 1 _ rfl (by omega)
        clear hr hcs
        subst ha
        generalize l[k] = act at *
        obtain ⟨kd, m⟩ := act
        simp only [Nat.add_zero] at k0 k1
        rw [← Nat.add_assoc] at k1
        by_cases hkd : kd = 0
        · subst hkd
          have rN := Rd.new (wr.alloc (.cells #[.int .i64 0, .int .i64 m] 50)) #[.int .u8 (97 + (n : Int) / 26), .int .u8 (97 + (n : Int) % 26)] 5 (0, 0) (u8s (tx n)) (tx_cells n (by omega))
          have bN := (((Below.refl wr.heap.size wr).alloc (Nat.le_refl _) (.cells #[.int .i64 0, .int .i64 m] 50)).alloc (by simp) (.cells #[.int .u8 (97 + (n : Int) / 26), .int .u8 (97 + (n : Int) % 26)] 5))
          have hcv := str_run (P := Tryd.prog) (dst := 9) Num.elU8.ht Tryd.underlying5 Tryd.underlying9 rN 2 0
          simp only [World.size_alloc] at hcv
          have hcv2 : (convert 24 9 (.slice (some ⟨wr.heap.size + 1, 0, none⟩) 2 2)).run Tryd.prog ((wr.alloc (.cells #[.int .i64 0, .int .i64 m] 50)).alloc (.cells #[.int .u8 (97 + (n : Int) / 26), .int .u8 (97 + (n : Int) % 26)] 5)) = .ok (.string (sB n)) ((wr.alloc (.cells #[.int .i64 0, .int .i64 m] 50)).alloc (.cells #[.int .u8 (97 + (n : Int) / 26), .int .u8 (97 + (n : Int) % 26)] 5)) := hcv
          have hIN := hI.below bN
          have BN := hB.trans (bN.mono hB.size)
          clear hcv rN
          have HI := Lib.hid hI
          have HB := Lib.hid hB
          clear hI hB
          go_wp2_with fail
          by_cases hq : (qOf tk n).length < room
          · refine (RgS.put_ok (sB n) _ p g room f (qOf tk n) n tk hIN hq (by omega)).mono ?_
            rintro e w5 ⟨rfl, hI5, hM5⟩
            have B5 := BN.trans (hM5.toBelow BN.size (by intro j hj; simp at hj; omega))
            rw [qOf_put tk n htn] at hI5
            have HI5 := Lib.hid hI5
            clear hI5 hIN hM5 hcv2
            go_wp2
            go_roundw
            case rel => exact ⟨k + 1, tk, n + 1, f, by omega, by go_num, by go_num, rfl, by omega, by omega, HI5.out, B5⟩
            case measure => simp [intOf]; omega
          · refine (RgS.put_full A _ _ p g room f (qOf tk n) n tk hIN (by have := HI.out.hmany; omega) ((hs.keep BN).sub (by decide))).mono ?_
            rintro e w5 ⟨rfl, n5, rfl⟩
            have B5 := below_drewN BN n5
            have hI5 := hIN.drewN n5
            have HI5 := Lib.hid hI5
            clear hI5 hIN hcv2
            unfold Er.ev
            go_wp2
            go_roundw
            case rel => exact ⟨k + 1, tk, n, f, by omega, by go_num, rfl, rfl, htn, by omega, HI5.out, B5⟩
            case measure => simp [intOf]; omega
        · have hkb : (kd == 0) = false := by simp [hkd]
          have bN := ((Below.refl wr.heap.size wr).alloc (Nat.le_refl _) (.cells #[.int .i64 kd, .int .i64 m] 50))
          have hIN := hI.below bN
          have BN := hB.trans (bN.mono hB.size)
          have HI := Lib.hid hI
          have HB := Lib.hid hB
          clear hI hB
          go_wp2_with fail
          refine (RgS.take_c m _ p g room f (qOf tk n) n tk hIN (by rw [qOf_length]; omega)).mono ?_
          rintro e w5 ⟨v5, f5, rfl, own5, hI5, hM5⟩
          have B5 := BN.trans (hM5.toBelow BN.size (by intro j hj; simp at hj; omega))
          obtain ⟨a5, c5, rfl, _, _, r5, _⟩ := rd_own own5
          rw [qOf_drop' tk n _ htn, qOf_tl] at hI5
          have hat : ∀ j, j < min m.toNat (n - tk) → ∃ b off, a5 = some ⟨b, off, none⟩ ∧ w5.cell? ⟨b, off + j, none⟩ = some (.string (sB (tk + j))) := by
            intro j hj
            refine r5 j _ ?_
            rw [RgS.cells, List.getElem?_map, List.getElem?_take, if_pos (by omega), qOf_at tk n j (by omega)]
            rfl
          rw [qOf_tl]
          obtain ⟨tl, htl⟩ : ∃ tl, min m.toNat (n - tk) = tl := ⟨_, rfl⟩
          have htl2 : tl ≤ n - tk := by omega
          rw [htl] at hI5 hat ⊢
          have HI5 := Lib.hid hI5
          have Hat := Lib.hid hat
          clear hI5 hat r5 own5 hIN hM5 htl
          go_wp2
          go_loop [8, 13, 62] (fun last _ i => ∃ j : Nat, j ≤ tl ∧ i = .int .i64 j ∧ last = .string (lastOf (tk + j))) (fun _ _ i => tl - (intOf i).toNat)
          case atStart => exact ⟨0, Nat.zero_le _, rfl, rfl⟩
          case round =>
            obtain ⟨j, hj, rfl, rfl⟩ := hrel
            by_cases hjl : j < tl
            · obtain ⟨b5, o5, e5, k5⟩ := Hat.out j hjl
              subst e5
              have hlb := less_b (tk + j) (by omega)
              have hls := lastOf_succ (tk + j)
              have Hls := Lib.hid hls
              clear hls
              generalize sB (tk + j) = sj at *
              generalize lastOf (tk + j) = lj at *
              go_wp2
              go_round
              case rel => exact ⟨j + 1, by omega, by go_num, by rw [← Nat.add_assoc, Hls.out]⟩
              case measure => simp [intOf]; omega
            · have : j = tl := by omega
              subst this
              go_wp2
              go_roundw
              case rel => exact ⟨k + 1, tk + j, n, f5, by omega, by go_num, rfl, rfl, by omega, by omega, HI5.out, B5⟩
              case measure => simp [intOf]; omega
      · have HI := Lib.hid hI
        have HB := Lib.hid hB
        have hql := qOf_length tk n
        have hqr := hI.hmany
        rw [hql] at hqr
        clear hI hB hr
        go_wp2_with fail
        refine (RgS.counts_c _ p g room f (qOf tk n) n tk HI.out).mono ?_
        rintro e w6 ⟨rfl, n6, rfl⟩
        obtain ⟨d, hdn⟩ : ∃ d, n - tk = d := ⟨_, rfl⟩
        rw [hdn] at hql hqr
        have hdd : tk + d - tk = d := by omega
        obtain rfl : n = tk + d := by omega
        have hroom := Hroom.out
        have Hql := Lib.hid hql
        have htd : tk + d ≤ 100 := by omega
        have hdr : d ≤ room := hqr
        have ht2 : decide (d ≤ room) = true := decide_eq_true (by omega)
        clear hql hdn hqr hdd
        go_wp2_with fail
        refine (RgS.len_c _ p g room f (qOf tk (tk + d)) (tk + d) tk (HI.out.drewN n6)).mono ?_
        rintro e w7 ⟨rfl, n7, rfl⟩
        rw [Hql.out]
        go_wp2_with fail
        refine (RgS.len_c _ p g room f (qOf tk (tk + d)) (tk + d) tk (HI.out.drewN (n6 + n7))).mono ?_
        rintro e w8 ⟨rfl, n8, rfl⟩
        rw [Hql.out]
        go_wp2_with fail
        go_ret
        exact ⟨rfl, below_drewN HB.out _⟩
  · have hd : decide (100 < (l.length : Int)) = true := by simp; omega
    go_enter Tryd.func5, Tryd.ntmps5
    go_wp2_with (go_at_call 26; refine (RgA.alive_c A _ hs).mono ?_; rintro e w1 ⟨rfl, hb1⟩)
    go_ret
    exact ⟨rfl, hb1⟩
end RgK
end Go.Proofs.YtjohljpcoodijaaDoor
