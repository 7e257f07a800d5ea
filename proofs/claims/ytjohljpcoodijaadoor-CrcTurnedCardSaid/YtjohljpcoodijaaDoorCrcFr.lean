/- The walks of crc.Framed and crc.Opened. Conditions: the table and the sentinels read as laid. -/
import Derived.Test.YtjohljpcoodijaaDoorCrcSum
import Derived.Test.YtjohljpcoodijaaDoorSl
import Derived.Test.YtjohljpcoodijaaDoorErr
import Derived.Deep.RegionWith
namespace Go.Proofs.YtjohljpcoodijaaDoor
open Go Go.RowKit Kt
namespace Crc

/-- A sum's four bytes, the least first. -/
def le4 (x : UInt32) : List UInt8 := [UInt8.ofNat x.toNat, UInt8.ofNat (x.toNat / 256), UInt8.ofNat (x.toNat / 65536), UInt8.ofNat (x.toNat / 16777216)]
theorem le4_length (x : UInt32) : (le4 x).length = 4 := rfl

theorem le4_0 (x : UInt32) : (x.toNat : Int) % 256 = ((UInt8.ofNat x.toNat).toNat : Int) := by simp
theorem le4_1 (x : UInt32) : (x.toNat : Int) / 256 % 256 = ((UInt8.ofNat (x.toNat / 256)).toNat : Int) := by simp
theorem le4_2 (x : UInt32) : (x.toNat : Int) / 65536 % 256 = ((UInt8.ofNat (x.toNat / 65536)).toNat : Int) := by simp
theorem le4_3 (x : UInt32) : (x.toNat : Int) / 16777216 = ((UInt8.ofNat (x.toNat / 16777216)).toNat : Int) := by have := x.toNat_lt; simp; omega
theorem div_ofI (x : UInt32) (d : Int) (hd : 1 ≤ d) : ((U32.ofI ((x.toNat : Int) / d)).toNat : Int) = (x.toNat : Int) / d := by
  have hx := x.toNat_lt
  have h1 : (0 : Int) ≤ (x.toNat : Int) / d := Int.ediv_nonneg (by omega) (by omega)
  have h2 : (x.toNat : Int) / d ≤ x.toNat := Int.ediv_le_self _ (by omega)
  rw [← U32.conv_i64_u32]
  omega
theorem le4_set0 (x : UInt32) : (u8s ((le4 x).take 0 ++ List.replicate (4 - 0) 0)).set 0 (.int .u8 ((x.toNat : Int) % 256)) = u8s ((le4 x).take 1 ++ List.replicate (4 - 1) 0) := by rw [le4_0]; rfl
theorem le4_set1 (x : UInt32) : (u8s ((le4 x).take 1 ++ List.replicate (4 - 1) 0)).set 1 (.int .u8 ((x.toNat : Int) / 256 % 256)) = u8s ((le4 x).take 2 ++ List.replicate (4 - 2) 0) := by rw [le4_1]; rfl
theorem le4_set2 (x : UInt32) : (u8s ((le4 x).take 2 ++ List.replicate (4 - 2) 0)).set 2 (.int .u8 ((x.toNat : Int) / 65536 % 256)) = u8s ((le4 x).take 3 ++ List.replicate (4 - 3) 0) := by rw [le4_2]; rfl
theorem le4_set3 (x : UInt32) : (u8s ((le4 x).take 3 ++ List.replicate (4 - 3) 0)).set 3 (.int .u8 ((x.toNat : Int) / 16777216)) = u8s ((le4 x).take 4 ++ List.replicate (4 - 4) 0) := by rw [le4_3]; rfl

set_option maxHeartbeats 400000 in
set_option maxRecDepth 100000 in
theorem bytes_c (x : UInt32) (w : World) :
    Calls Tryd.prog 87 #[.int .i64 x.toNat] w fun e w' => ∃ v, e = .returned v ∧ w'.ownsRow w.heap.size 5 1 v 4 (u8s (le4 x)) ∧ Below w.heap.size w w' := by
  obtain ⟨w1, hrun, own, gr⟩ := Num.elU8.make w.heap.size w .i64 .i64 4 4 rfl (by omega) (by decide) (Nat.le_refl _)
  have hx := x.toNat_lt
  go_enter Tryd.func87, Tryd.ntmps87
  go_wp2
  go_loopw [4, 8] (fun _ i wr => ∃ k : Nat, k ≤ 4 ∧ i = .int .i64 k ∧ wr.ownsRow w.heap.size 5 1 (.slice (some ⟨w.heap.size, 0, none⟩) 4 4) 4 (u8s ((le4 x).take k ++ List.replicate (4 - k) 0)) ∧ Below w.heap.size w wr) (fun _ i _ => 4 - (intOf i).toNat)
  case atStart =>
    rw [show (madeCells (Value.int .u8 0).cells (4 * 1)).toList = u8s ((le4 x).take 0 ++ List.replicate (4 - 0) 0) from by kernel_rfl] at own
    exact ⟨0, by omega, rfl, own, below_made gr (Nat.le_refl _)⟩
  case round =>
    obtain ⟨k, hk, rfl, own, hb⟩ := hrel
    by_cases hlt : k < 4
    · have hc := own.cellAt k (by omega)
      have hf := own.frozenAt k
      obtain rfl | rfl | rfl | rfl : k = 0 ∨ k = 1 ∨ k = 2 ∨ k = 3 := by omega
      all_goals
        simp only [u8s, le4, List.take, List.replicate, List.cons_append, List.nil_append, List.map_cons, List.map_nil, List.getElem?_cons_zero, List.getElem?_cons_succ] at hc
        go_wp2
        go_roundw
      case rel => exact ⟨1, by omega, rfl, by have := (own.stored 0 (.int .u8 ((x.toNat : Int) % 256))).1; rwa [le4_set0] at this, hb.setCell (Nat.le_refl _) _⟩
      case measure => simp [intOf]
      case rel => exact ⟨2, by omega, rfl, by have := (own.stored 1 (.int .u8 ((x.toNat : Int) / 256 % 256))).1; rwa [le4_set1] at this, hb.setCell (Nat.le_refl _) _⟩
      case measure => simp [intOf]
      case rel => exact ⟨3, by omega, rfl, by have := (own.stored 2 (.int .u8 ((x.toNat : Int) / 65536 % 256))).1; rwa [le4_set2] at this, hb.setCell (Nat.le_refl _) _⟩
      case measure => simp [intOf]
      case rel => exact ⟨4, by omega, rfl, by have := (own.stored 3 (.int .u8 ((x.toNat : Int) / 16777216))).1; rwa [le4_set3] at this, hb.setCell (Nat.le_refl _) _⟩
      case measure => simp [intOf]
    · have : k = 4 := by omega
      subst this
      go_wp2
      go_ret
      exact ⟨_, rfl, own, hb⟩

set_option maxHeartbeats 400000 in
set_option maxRecDepth 100000 in
theorem four_c (x : UInt32) (w : World) :
    Calls Tryd.prog 61 #[.int .u32 x.toNat] w fun e w' => ∃ v, e = .returned v ∧ w'.ownsRow w.heap.size 5 1 v 4 (u8s (le4 x)) ∧ Below w.heap.size w w' := by
  have own := own_new w w.heap.size 5 1 4 #[.int .u8 ((x.toNat : Int) % 256), .int .u8 (((U32.ofI ((x.toNat : Int) / 256)).toNat : Int) % 256), .int .u8 (((U32.ofI ((x.toNat : Int) / 65536)).toNat : Int) % 256), .int .u8 (((U32.ofI ((x.toNat : Int) / 16777216)).toNat : Int) % 256)] (Nat.le_refl _) (by decide) rfl
  have hc : (#[.int .u8 ((x.toNat : Int) % 256), .int .u8 (((U32.ofI ((x.toNat : Int) / 256)).toNat : Int) % 256), .int .u8 (((U32.ofI ((x.toNat : Int) / 65536)).toNat : Int) % 256), .int .u8 (((U32.ofI ((x.toNat : Int) / 16777216)).toNat : Int) % 256)] : Array Value).toList = u8s (le4 x) := by
    rw [div_ofI x 256 (by omega), div_ofI x 65536 (by omega), div_ofI x 16777216 (by omega)]
    have h3 := le4_3 x
    have hx := x.toNat_lt
    rw [le4_0, le4_1, le4_2, show (x.toNat : Int) / 16777216 % 256 = ((UInt8.ofNat (x.toNat / 16777216)).toNat : Int) from by rw [← h3]; omega]
    rfl
  rw [hc] at own
  have hb := (Below.refl w.heap.size w).alloc (Nat.le_refl _) (.cells #[.int .u8 ((x.toNat : Int) % 256), .int .u8 (((U32.ofI ((x.toNat : Int) / 256)).toNat : Int) % 256), .int .u8 (((U32.ofI ((x.toNat : Int) / 65536)).toNat : Int) % 256), .int .u8 (((U32.ofI ((x.toNat : Int) / 16777216)).toNat : Int) % 256)] 5)
  have O := Lib.hid own
  clear own hc
  go_enter Tryd.func61, Tryd.ntmps61
  go_wp2
  go_ret
  exact ⟨_, rfl, O.out, hb⟩

set_option maxHeartbeats 400000 in
set_option maxRecDepth 100000 in
theorem concat_c (a : Option Addr) (cap : Nat) (rs : List Row) (w : World) (hl : rs.length ≤ 1000000) (hfl : (flat rs).length ≤ 1000000) (hr : Rd w a (rs.map Row.v)) (hrs : ∀ r ∈ rs, Rd w r.a (u8s r.l) ∧ (r.a = none → r.cap = 0)) :
    Calls Tryd.prog 86 #[.slice a rs.length cap] w fun e w' => ∃ v, e = .returned v ∧ w'.ownsRow w.heap.size 5 1 v (flat rs).length (u8s (flat rs)) ∧ Below w.heap.size w w' := by
  have hsub : ∀ k, (flat (rs.take k)).length ≤ (flat rs).length := by
    intro k
    have : flat rs = flat (rs.take k) ++ flat (rs.drop k) := by unfold flat; rw [← List.flatMap_append, List.take_append_drop]
    rw [this]; simp
  go_enter Tryd.func86, Tryd.ntmps86
  go_wp2
  go_loop [3, 5, 11] (fun s _ i => ∃ k : Nat, k ≤ rs.length ∧ i = .int .i64 k ∧ s = .int .i64 (flat (rs.take k)).length) (fun _ _ i => rs.length - (intOf i).toNat)
  case atStart => exact ⟨0, Nat.zero_le _, rfl, rfl⟩
  case round =>
    obtain ⟨k, hk, rfl, rfl⟩ := hrel
    have hs1 := hsub k
    by_cases hlt : k < rs.length
    · obtain ⟨b, off, ha, hck⟩ := hr.map_at k hlt
      have hs := hsub (k + 1)
      have he : flat (rs.take (k + 1)) = flat (rs.take k) ++ rs[k].l := by unfold flat; rw [List.take_succ_eq_append_getElem hlt, List.flatMap_append]; simp
      rw [he, List.length_append] at hs
      have He := Lib.hid he
      subst ha
      clear hr he
      generalize rs[k] = r at *
      obtain ⟨ra, rc, rl⟩ := r
      simp only [Row.v] at hck hs
      have Hsub := Lib.hid hsub
      have Hrs := Lib.hid hrs
      clear hsub hrs
      generalize hn : (flat (rs.take k)).length = n at *
      have Hn := Lib.hid hn
      clear hn
      go_wp2
      go_round
      case rel => exact ⟨k + 1, by omega, by go_num, by rw [He.out, List.length_append, Hn.out]; go_num⟩
      case measure => simp [intOf]; omega
    · rw [List.take_of_length_le (by omega)]
      go_wp2_with (go_at_call 101; refine (Sl.grow_c _ _ hfl).mono ?_; rintro e w1 ⟨v0, rfl, own0, hb0⟩)
      go_loopw [6, 8, 27] (fun v _ i wr => ∃ k : Nat, k ≤ rs.length ∧ i = .int .i64 k ∧ wr.ownsRow w.heap.size 5 1 v (flat (rs.take k)).length (u8s (flat (rs.take k))) ∧ Below w.heap.size w wr) (fun _ _ i _ => rs.length - (intOf i).toNat)
      case atStart => exact ⟨0, Nat.zero_le _, rfl, own0, hb0⟩
      case round =>
        obtain ⟨j, hj, rfl, own, hb⟩ := hrel
        have hs1 := hsub j
        by_cases hlt2 : j < rs.length
        · obtain ⟨b, off, ha, hck⟩ := (hr.keep hb).map_at j hlt2
          have hs := hsub (j + 1)
          have he : flat (rs.take (j + 1)) = flat (rs.take j) ++ rs[j].l := by unfold flat; rw [List.take_succ_eq_append_getElem hlt2, List.flatMap_append]; simp
          rw [he, List.length_append] at hs
          obtain ⟨q1, q2⟩ := hrs _ (List.getElem_mem hlt2)
          subst ha
          clear hr
          generalize rs[j] = r at *
          obtain ⟨ra, rc, rl⟩ := r
          simp only [Row.v] at hck hs q1 q2
          obtain ⟨v', w2, hrun, own2, gr2, _⟩ := Num.elU8.append w.heap.size (ty := 24) own rl.length rc (by simp [u8s]) (q1.keep hb) q2 (oneCell_u8s _) (by unfold maxLen; omega) (by omega) hb.size
          have hb2 := hb.trans (below_grown own gr2 (Nat.le_refl _) hb.size)
          rw [← u8s_append] at own2
          have O := Lib.hid own2
          have He := Lib.hid he
          have Hb2 := Lib.hid hb2
          clear own own2 he hb2 hb gr2 q1 q2 hrs hsub hs hs1
          go_wp2_with (at_builtin; (with_reducible apply wpList_append_run hrun); rfl; rfl; rfl; rfl; rfl)
          go_roundw
          case rel => exact ⟨j + 1, by omega, by go_num, by rw [He.out]; simpa using O.out, Hb2.out⟩
          case measure => simp [intOf]; omega
        · rw [List.take_of_length_le (by omega)] at own
          clear hsub hrs hr
          go_wp2
          go_ret
          exact ⟨_, rfl, own, hb⟩

set_option maxHeartbeats 1000000 in
set_option maxRecDepth 100000 in
theorem framed_c (a : Option Addr) (cap : Nat) (l : List UInt8) (w : World) (hl : l.length ≤ 10000) (hno : a = none → cap = 0) (hr : Rd w a (u8s l)) (ht : Tb w) :
    Calls Tryd.prog 60 #[.slice a l.length cap] w fun e w' => ∃ v, e = .returned v ∧ w'.ownsRow w.heap.size 5 1 v (l ++ le4 (more 0 l)).length (u8s (l ++ le4 (more 0 l))) ∧ Below w.heap.size w w' := by
  have b1 := (Below.refl w.heap.size w).alloc (Nat.le_refl _) (.cells #[.slice a l.length cap] 24)
  have r1 := Rd.new w #[.slice a l.length cap] 24 (0, 0) ([(⟨a, cap, l⟩ : Row)].map Row.v) rfl
  go_enter Tryd.func60, Tryd.ntmps60
  go_wp2_with fail
  refine (sum_c _ _ [⟨a, cap, l⟩] _ (by simp) (by intro r hr; simp at hr; subst hr; simp; omega) r1 (by intro r hr2; simp at hr2; subst hr2; exact hr.keep b1) (ht.keep b1)).mono ?_
  rintro e w' ⟨rfl, rfl⟩
  rw [show flat [⟨a, cap, l⟩] = l by simp [flat]]
  go_wp2_with fail
  refine (bytes_c (more 0 l) _).mono ?_
  rintro e w2 ⟨v, rfl, own2, hb2⟩
  obtain ⟨a2, c2, rfl, h21, h22, h23, h24⟩ := rd_own own2
  have B2 := b1.trans (hb2.mono b1.size)
  go_wp2_with fail
  have b3 := (Below.refl w2.heap.size w2).alloc (Nat.le_refl _) (.cells #[.slice a l.length cap, .slice a2 4 c2] 24)
  have r3 := Rd.new w2 #[.slice a l.length cap, .slice a2 4 c2] 24 (0, 0) ([(⟨a, cap, l⟩ : Row), ⟨a2, c2, le4 (more 0 l)⟩].map Row.v) rfl
  have B3 := B2.trans (b3.mono B2.size)
  have hf : flat [⟨a, cap, l⟩, ⟨a2, c2, le4 (more 0 l)⟩] = l ++ le4 (more 0 l) := by simp [flat]
  have hno2 : a2 = none → c2 = 0 := by
    rintro rfl
    have := h23.isNil8
    simp [le4] at this
  refine (concat_c _ _ [⟨a, cap, l⟩, ⟨a2, c2, le4 (more 0 l)⟩] _ (by simp) (by rw [hf, List.length_append, le4_length]; omega) r3 (by
    intro r hr2
    simp at hr2
    rcases hr2 with rfl | rfl
    · exact ⟨hr.keep B3, hno⟩
    · exact ⟨h23.keep b3, hno2⟩)).mono ?_
  rw [hf]
  rintro e w4 ⟨v4, rfl, own4, hb4⟩
  have B4 := B3.trans (hb4.mono B3.size)
  clear hf r3 h23 h24 own2
  go_wp2_with fail
  go_ret
  exact ⟨_, rfl, own_base own4 B3.size, B4⟩
end Crc
end Go.Proofs.YtjohljpcoodijaaDoor
