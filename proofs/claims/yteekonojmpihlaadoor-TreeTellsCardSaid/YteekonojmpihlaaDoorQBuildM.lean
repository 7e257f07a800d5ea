import Derived.Test.YteekonojmpihlaaDoorRows
import Derived.Test.YteekonojmpihlaaDoorQTreePure
import Derived.Lib.Builder
import Derived.Lib.AppendStr
import Derived.Lib.UnsafeStr
/- Slices of bytes as the laws on make and append ask them. -/
namespace Go.Proofs.YteekonojmpihlaaDoor
open Go Go.RowKit Kt
namespace Num
theorem elU8 : El Tryd.prog 129 5 (.int .u8 0) 1 1 := ⟨Tryd.underlying129, info_parts (by kernel_rfl), rfl, by decide⟩
end Num
end Go.Proofs.YteekonojmpihlaaDoor

/- doffernum.SameTexts. -/
namespace Go.Proofs.YteekonojmpihlaaDoor
open Go Go.RowKit Kt
namespace Sm
theorem sameT_next {xs ys : List (List UInt8)} (h : xs.length = ys.length) {k : Nat} (hk : k < xs.length) (ht : xs.take k = ys.take k) (he : xs[k] = ys[k]'(by omega)) : xs.take (k + 1) = ys.take (k + 1) := by
  rw [List.take_add_one, List.take_add_one, ht, List.getElem?_eq_getElem hk, List.getElem?_eq_getElem (by omega), he]
set_option maxHeartbeats 1000000 in
set_option maxRecDepth 100000 in
theorem sameT_c (a b : Option Addr) (c1 c2 n1 n2 : Nat) (xs ys : List (List UInt8)) (w : World) (hn1 : xs.length = n1) (hn2 : ys.length = n2) (h63 : n1 ≤ 9223372036854775807) (hx : Rd w a (xs.map fun t => Value.string (Str t))) (hy : Rd w b (ys.map fun t => Value.string (Str t))) :
    Calls Tryd.prog 20 #[.slice a n1 c1, .slice b n2 c2] w fun e w' => e = .returned (.bool (decide (xs = ys))) ∧ ∃ n, w.drewN n = w' := by
  by_cases hl : n1 = n2
  · subst hl
    go_enter Tryd.func20, Tryd.ntmps20
    go_wp2
    go_loopw [5, 13] (fun _ i W => ∃ k nn : Nat, k ≤ n1 ∧ i = .int .i64 k ∧ w.drewN nn = W ∧ xs.take k = ys.take k) (fun _ i _ => n1 - (intOf i).toNat)
    case atStart => exact ⟨0, 0, Nat.zero_le _, rfl, rfl, rfl⟩
    case round =>
      obtain ⟨k, nn, hk, rfl, rfl, ht⟩ := hrel
      by_cases hlt : k < n1
      · obtain ⟨b1, o1, rfl, e1⟩ := hx.map_at k (by omega)
        obtain ⟨b2, o2, rfl, e2⟩ := hy.map_at k (by omega)
        have hnx := sameT_next (hn1.trans hn2.symm) (k := k) (by omega) ht
        have hne : xs[k] ≠ ys[k] → xs ≠ ys := fun h e => h (by subst e; rfl)
        generalize xs[k] = x at *
        generalize ys[k] = y at *
        have Hn := Lib.hid hnx
        clear hnx ht
        by_cases hxy : x = y
        · subst hxy
          clear hne
          go_wp2
          go_quiet (fail)
          go_wp2
          go_roundw
          case rel => exact ⟨k + 1, _, by omega, by go_num, rfl, Hn.out (by first | trivial | rfl)⟩
          case measure => simp [intOf]; omega
        · have hnb : ((Str x).toList == (Str y).toList) = false := by rw [Str_list, Str_list]; simp [hxy]
          have hf : decide (xs = ys) = false := by simp [hne hxy]
          go_wp2
          go_quiet (fail)
          go_wp2
          go_ret
          exact ⟨by first | rfl | (rw [hf]; rfl), nn + nq, by simp [World.drewN, Nat.add_assoc]⟩
      · have : k = n1 := by omega
        subst this
        have he : xs = ys := by
          have h := ht
          rw [List.take_of_length_le (by omega), List.take_of_length_le (by omega)] at h
          exact h
        have hf : decide (xs = ys) = true := by simp [he]
        go_wp2
        go_ret
        exact ⟨by first | rfl | (rw [hf]; rfl), nn, rfl⟩
  · have hne : ((n1 : Int) == (n2 : Int)) = false := by simp; omega
    have hf : decide (xs = ys) = false := by
      simp only [decide_eq_false_iff_not]
      rintro rfl
      omega
    go_enter Tryd.func20, Tryd.ntmps20
    go_wp2
    go_ret
    exact ⟨by first | rfl | (rw [hf]; rfl), 0, rfl⟩
theorem sameT_eq (a b : Option Addr) (c1 c2 n1 n2 : Nat) (xs : List (List UInt8)) (w : World) (hn1 : xs.length = n1) (hn2 : xs.length = n2) (h63 : n1 ≤ 9223372036854775807) (hx : Rd w a (xs.map fun t => Value.string (Str t))) (hy : Rd w b (xs.map fun t => Value.string (Str t))) :
    Calls Tryd.prog 20 #[.slice a n1 c1, .slice b n2 c2] w fun e w' => e = .returned (.bool true) ∧ ∃ n, w.drewN n = w' :=
  (sameT_c a b c1 c2 n1 n2 xs xs w hn1 hn2 h63 hx hy).mono fun _ _ h => by simpa using h
end Sm
end Go.Proofs.YteekonojmpihlaaDoor

/- slices.Index and slices.Contains over strings. -/
namespace Go.Proofs.YteekonojmpihlaaDoor
open Go Go.RowKit Kt
namespace Tr
set_option maxHeartbeats 1000000 in
set_option maxRecDepth 100000 in
open Kt in
theorem has_idx (a : Option Addr) (cap n : Nat) (l : List (List UInt8)) (s : List UInt8) (w : World) (hn : l.length = n) (h63 : n ≤ 9223372036854775807) (hr : Rd w a (l.map fun t => Value.string (Str t))) :
    Calls Tryd.prog 94 #[.slice a n cap, .string (Str s)] w fun e w' => (∃ r : Int, e = .returned (.int .i64 r) ∧ (0 ≤ r ↔ s ∈ l)) ∧ w = w' := by
  go_enter Tryd.func94, Tryd.ntmps94
  go_wp2
  go_loopw [5, 8] (fun _ i W => ∃ k : Nat, k ≤ n ∧ i = .int .i64 k ∧ (∀ x ∈ l.take k, x ≠ s) ∧ w = W) (fun _ i _ => n - (intOf i).toNat)
  case atStart => exact ⟨0, Nat.zero_le _, rfl, by simp, rfl⟩
  case round =>
    obtain ⟨k, hk, rfl, hno, rfl⟩ := hrel
    by_cases hlt : k < n
    · have hkl : k < l.length := by omega
      obtain ⟨g, off, ha, hc⟩ := hr.map_at k hkl
      subst ha
      have hnx : l[k] ≠ s → ∀ x ∈ l.take (k + 1), x ≠ s := fun h x hx => by
        rw [← List.take_append_getElem hkl] at hx
        rcases List.mem_append.1 hx with h1 | h1
        · exact hno x h1
        · simp at h1; subst h1; exact h
      have hyes : l[k] = s → s ∈ l := fun h => h ▸ List.getElem_mem hkl
      have Hnx := Lib.hid hnx
      have Hyes := Lib.hid hyes
      clear hnx hyes hno
      generalize l[k] = x at *
      by_cases hv : x = s
      · subst hv
        go_wp2
        go_ret
        exact ⟨⟨_, rfl, by simp [Hyes.out trivial]⟩, rfl⟩
      · have hv' : ¬ s = x := fun h => hv h.symm
        have hvb : ((Str s).toList == (Str x).toList) = false := by rw [Str_list, Str_list]; simp [hv']
        have HV := Lib.hid (Hnx.out hv)
        clear hv Hnx Hyes
        go_wp2
        go_roundw
        case rel => exact ⟨k + 1, by omega, by go_num, HV.out, by first | trivial | rfl⟩
        case measure => simp [intOf]; omega
    · have hkn : k = n := by omega
      have ha : ¬ s ∈ l := fun h => by
        rw [List.take_of_length_le (by omega)] at hno
        exact hno s h rfl
      subst hkn
      have Ha := Lib.hid ha
      clear ha hno
      go_wp2
      go_ret
      exact ⟨⟨_, rfl, by simp [Ha.out]⟩, rfl⟩
set_option maxRecDepth 100000 in
open Kt in
theorem has_c (a : Option Addr) (cap n : Nat) (l : List (List UInt8)) (s : List UInt8) (w : World) (hn : l.length = n) (h63 : n ≤ 9223372036854775807) (hr : Rd w a (l.map fun t => Value.string (Str t))) :
    Calls Tryd.prog 65 #[.slice a n cap, .string (Str s)] w fun e w' => e = .returned (.bool (decide (s ∈ l))) ∧ w = w' := by
  have hi := has_idx a cap n l s w hn h63 hr
  have HI := Lib.hid hi
  clear hi hr
  go_enter Tryd.func65, Tryd.ntmps65
  go_wp2_with fail
  refine HI.out.mono ?_
  rintro e w1 ⟨⟨r, rfl, h⟩, rfl⟩
  have hd : decide (s ∈ l) = decide (0 ≤ r) := decide_eq_decide.2 h.symm
  have HD := Lib.hid hd
  clear hd h
  go_wp2
  go_ret
  refine ⟨?_, rfl⟩
  rw [HD.out]
  first | rfl | (congr 2; done) | (simp; done)
end Tr
end Go.Proofs.YteekonojmpihlaaDoor

/- strings.Builder: WriteString and String of a builder of the call's own that nothing has read yet. -/
namespace Go.Proofs.YteekonojmpihlaaDoor
open Go Go.RowKit Kt
namespace Bu
/-- A builder at block b that holds the bytes l. -/
def Is (w : World) (B b : Nat) (l : List UInt8) : Prop := Lib.IsBuilder 180 5 B b (u8s l) w ∧ (l = [] → ∃ p, w.heap[b]? = some (.cells #[p, .slice none 0 0] 180 (0, 0)))
theorem sizeB : (Tryd.prog.info? 180).map (·.size) = some 2 := by kernel_rfl
set_option maxHeartbeats 1000000 in
set_option maxRecDepth 100000 in
theorem check_fresh (b : Nat) (w : World) (h0 : w.cell? ⟨b, 0, none⟩ = some (.pointer none)) (hsh : w.shape? b = some (180, 2)) (hfz : w.frozen? ⟨b, 0, none⟩ = false) :
    Calls Tryd.prog 143 #[.pointer (some ⟨b, 0, none⟩)] w fun e w' => e = .returned (.tuple #[]) ∧ w' = w.setCell ⟨b, 0, none⟩ (.pointer (some ⟨b, 0, none⟩)) := by
  obtain ⟨j, hj, hjs⟩ := Option.map_eq_some_iff.1 sizeB
  go_enter Tryd.func143, Tryd.ntmps143
  go_wp2
  rw [Lib.run_to_unsafe w ⟨b, 0, none⟩ Tryd.underlying178 Tryd.underlying200 hj (by rw [hjs]; decide) hsh (Nat.zero_lt_succ 1)]
  simp only [Result.andThen]
  rw [Oper.upon_value]
  go_wp2
  rw [run_callFunc_extern Tryd.func151 (by kernel_rfl) (by kernel_rfl) (by kernel_rfl) (e := Extern.AbiNoEscape.same) (by kernel_rfl)]
  rw [Lib.run_noEscape]
  simp only [Result.andThen]
  rw [Oper.upon_value]
  go_wp2
  rw [Lib.run_from_unsafe w ⟨b, 0, none⟩ Tryd.underlying200 Tryd.underlying178 hj hsh (by kernel_rfl)]
  simp only [Result.andThen]
  rw [Oper.upon_value]
  go_wp2
  go_end0
  exact ⟨rfl, rfl⟩
set_option maxHeartbeats 1000000 in
set_option maxRecDepth 100000 in
theorem check_used (b : Nat) (w : World) (h0 : w.cell? ⟨b, 0, none⟩ = some (.pointer (some ⟨b, 0, none⟩))) :
    Calls Tryd.prog 143 #[.pointer (some ⟨b, 0, none⟩)] w fun e w' => e = .returned (.tuple #[]) ∧ w' = w := by
  obtain ⟨j, hj, hjs⟩ := Option.map_eq_some_iff.1 sizeB
  have hne := Lib.run_neq_ptr_same (P := Tryd.prog) w ⟨b, 0, none⟩ Tryd.underlying178 hj
  go_enter Tryd.func143, Tryd.ntmps143
  go_wp2
  go_end0
  exact ⟨rfl, rfl⟩
theorem cells_u8s (s : List UInt8) : Lib.strCells (Str s) = u8s s := by simp [Lib.strCells, u8s, Str_toList]
set_option maxHeartbeats 2000000 in
set_option maxRecDepth 100000 in
/-- String of a builder that holds nothing and has no row. -/
theorem string_nil (b : Nat) (p : Value) (w : World) (hbk : w.heap[b]? = some (.cells #[p, .slice none 0 0] 180 (0, 0))) :
    Calls Tryd.prog 133 #[.pointer (some ⟨b, 0, none⟩)] w fun e w' => e = .returned (.string (Str [])) ∧ Below w.heap.size w w' := by
  have hUS := fun w => Lib.run_unsafeString_none (P := Tryd.prog) w 197 3 9 none
  have c1 : w.drew.cell? ⟨b, 1, none⟩ = some (.slice none 0 0) := by
    have : w.drew.heap[b]? = some (.cells #[p, .slice none 0 0] 180 (0, 0)) := hbk
    rw [Lib.cell_of_heap this]; rfl
  have hSD : (Builtin.unsafeSliceData_ #[129] 197 #[.slice none 0 0]).run Tryd.prog w.drew = .ok (.pointer none) w.drew := rfl
  have Hb := Lib.hid (Below.refl w.heap.size w).drew
  clear hbk
  go_enter Tryd.func133, Tryd.ntmps133
  go_wp2
  go_region
  all_goals (go_wp2; go_ret; exact ⟨rfl, Hb.out⟩)
set_option maxHeartbeats 2000000 in
set_option maxRecDepth 100000 in
theorem string_row (B b g cap : Nat) (l : List UInt8) (h0 : l ≠ []) (p : Value) (w : World) (hbk : w.heap[b]? = some (.cells #[p, .slice (some ⟨g, 0, none⟩) l.length cap] 180 (0, 0)))
    (hown : w.ownsRow B 5 1 (.slice (some ⟨g, 0, none⟩) l.length cap) l.length (u8s l)) :
    Calls Tryd.prog 133 #[.pointer (some ⟨b, 0, none⟩)] w fun e w' => e = .returned (.string (Str l)) ∧ Below B w w' := by
  have hl0 : l.length ≠ 0 := by simpa using h0
  obtain ⟨cur, hbg, hg, hnc, hcm, hcs⟩ : ∃ cur, B ≤ g ∧ w.heap[g]? = some (.cells cur 5 (0, 0)) ∧ l.length ≤ cap ∧ cap ≤ maxLen ∧ cur.size = cap * 1 := by
    rcases hown.2 with ⟨h, _⟩ | ⟨g', cap', cur, hv, h1, h2, h3, h4, h5, _⟩
    · cases h
    · cases hv
      exact ⟨cur, h1, h2, h3, h4, h5⟩
  have c1 : w.drew.cell? ⟨b, 1, none⟩ = some (.slice (some ⟨g, 0, none⟩) l.length cap) := by
    have : w.drew.heap[b]? = some (.cells #[p, .slice (some ⟨g, 0, none⟩) l.length cap] 180 (0, 0)) := hbk
    rw [Lib.cell_of_heap this]; rfl
  have hSD : (Builtin.unsafeSliceData_ #[129] 197 #[.slice (some ⟨g, 0, none⟩) l.length cap]).run Tryd.prog w.drew = .ok (.pointer (some ⟨g, 0, none⟩)) w.drew :=
    Lib.run_unsafeSliceData_row _ _ _ _ _ _ (by omega)
  have hUS : (Builtin.unsafeString_ #[197, 3] 9 #[.pointer (some ⟨g, 0, none⟩), .int .i64 l.length]).run Tryd.prog w.drew = .ok (.string (Str l)) (w.drew.freeze ⟨g, 0, none⟩ l.length) := by
    refine Lib.run_unsafeString_row w.drew 197 3 9 5 Tryd.underlying197 (by kernel_rfl) g cur.size (by have hg' : w.drew.heap[g]? = some (.cells cur 5 (0, 0)) := hg; simp [World.shape?, hg']) l h0 (by omega) (by unfold maxLen at hcm; omega) ?_
    intro j x hx
    have := hown.cells (g := g) rfl j (.int .u8 x.toNat) (by simp [u8s, hx])
    exact this
  have Hb := Lib.hid (Lib.below_freeze (Below.drew (Below.refl B w)) (p := ⟨g, 0, none⟩) hbg l.length)
  obtain ⟨n, hn⟩ : ∃ n, l.length = n := ⟨_, rfl⟩
  rw [hn] at c1 hSD hUS Hb
  clear hown hbk hg hnc hcm hcs hl0 h0 hn
  go_enter Tryd.func133, Tryd.ntmps133
  go_wp2
  go_region
  all_goals (go_wp2; go_ret; exact ⟨rfl, Hb.out⟩)
theorem string_c (B b : Nat) (l : List UInt8) (w : World) (h : Is w B b l) (hB : B ≤ w.heap.size) :
    Calls Tryd.prog 133 #[.pointer (some ⟨b, 0, none⟩)] w fun e w' => e = .returned (.string (Str l)) ∧ Below B w w' := by
  obtain ⟨h, hn⟩ := h
  by_cases hl : l = []
  · subst hl
    obtain ⟨p, hp⟩ := hn rfl
    exact (string_nil b p w hp).mono fun _ _ ⟨h1, h2⟩ => ⟨h1, h2.mono hB⟩
  · obtain ⟨p, hAt⟩ : ∃ p, Lib.BuilderAt 180 5 B b p (u8s l) w := by
      rcases h with h | h
      · exact ⟨_, h⟩
      · exact ⟨_, h⟩
    obtain ⟨_, v, hbk, hown, _⟩ := hAt
    rw [u8s_length] at hown
    have h0 : l.length ≠ 0 := by simpa using hl
    obtain ⟨g, cap, rfl⟩ : ∃ g cap, v = .slice (some ⟨g, 0, none⟩) l.length cap := by
      rcases hown.2 with ⟨_, h⟩ | ⟨g, cap, cur, hv, _⟩
      · exact absurd h h0
      · exact ⟨g, cap, hv⟩
    exact string_row B b g cap l hl p w hbk hown
end Bu
end Go.Proofs.YteekonojmpihlaaDoor

/- strings.Builder: which blocks a write touches. -/
namespace Go.Proofs.YteekonojmpihlaaDoor
open Go Go.RowKit Kt Go.Lib
namespace Bu
/-- Where the row of an appended text lies. -/
theorem append_lies {P : Program} (w : World) (base : Nat) (t u ty e : TypeId) (i : TypeInfo) (ht : P.underlying t = some (.slice e)) (hu : P.underlying u = some .string) (hi : P.info? e = some i) (hz : i.zero = some (.int .u8 0))
    (hsize : i.size = 1) (hby : i.bytes = 1) (v : Value) (n : Nat) (xs : List Value) (hown : w.ownsRow base e 1 v n xs) (s : ByteArray)
    (h63 : n + s.size ≤ maxLen) (hbytes : n + s.size ≤ 140737488355328) (hbase : base ≤ w.heap.size) :
    ∃ v' w', (Builtin.append_ #[t, u] ty #[v, .string s]).run P w = .ok v' w' ∧ w'.ownsRow base e 1 v' (n + s.size) (xs ++ strCells s) ∧ w.grownBy w' v.ownBlock ∧
      (v' = .slice none 0 0 ↔ v = .slice none 0 0 ∧ s.size = 0) ∧ ∀ k, v'.ownBlock = some k → v.ownBlock = some k ∨ w.heap.size ≤ k := by
  obtain ⟨v', w', hr, h2, h3, h4⟩ := run_append_own_string (P := P) w base t u ty e i ht hu hi hz hsize hby v n xs hown s h63 hbytes hbase
  refine ⟨v', w', hr, h2, h3, h4, ?_⟩
  have hsmall : n + s.size ≤ 9223372036854775807 := by simp only [maxLen] at h63; omega
  have hxl : xs.length = n := by simpa using hown.1
  have inj : ∀ v1 w1, (Builtin.append_ #[t, u] ty #[v, .string s]).run P w = .ok v1 w1 → v' = v1 := fun v1 w1 h => by
    rw [hr] at h
    cases h
    rfl
  rcases hown.2 with ⟨rfl, rfl⟩ | ⟨g, cap, cur, rfl, hbg, hg, hnc, hcm, hcs, htake⟩
  · by_cases hm : s.size = 0
    · rw [h4.2 ⟨rfl, hm⟩]
      intro k hk
      cases hk
    · rw [inj _ _ (run_append_nil_string (P := P) w t u ty e i (.int .u8 0) ht hu hi hz s (by omega) (by omega) (by rw [hby]; omega))]
      intro k hk
      simp [Value.ownBlock] at hk
      exact .inr (by omega)
  · by_cases hroom : n + s.size ≤ cap
    · have hcs' : cur.size = cap := by simpa using hcs
      rw [inj _ _ (run_append_room_string (P := P) w t u ty e i ht hu hi hsize g n cap cur hg s hroom (by omega))]
      intro k hk
      exact .inl hk
    · have holds : ∀ j u, xs[j]? = some u → w.cell? ((⟨g, 0, none⟩ : Addr).add j) = some u := hown.cells (g := g) rfl
      rw [inj _ _ (run_append_grow_string (P := P) w t u ty e i (.int .u8 0) ht hu hi hz ⟨g, 0, none⟩ n cap xs (by rw [hsize]; simpa using hxl) holds s (by omega) (by omega) (by rw [hby]; exact growslice_fits (by omega) (by omega)))]
      intro k hk
      simp [Value.ownBlock] at hk
      exact .inr (by omega)
/-- A builder at block b with its row's block (gs). -/
structure Own (w : World) (B b : Nat) (gs : List Nat) (l : List UInt8) : Prop where
  ex : ∃ p v, (p = Value.pointer none ∨ p = .pointer (some ⟨b, 0, none⟩)) ∧ w.heap[b]? = some (.cells #[p, v] 180 (0, 0)) ∧ w.ownsRow B 5 1 v l.length (u8s l) ∧ v.ownBlock ≠ some b ∧ v.ownBlock.toList = gs ∧ (l = [] → v = .slice none 0 0)
  B : B ≤ b
variable {w w' : World} {B b : Nat} {gs : List Nat} {l : List UInt8}
theorem Own.lt (h : Own w B b gs l) : b < w.heap.size := by obtain ⟨p, v, _, h2, _⟩ := h.ex; exact block_lt h2
theorem Own.glt (h : Own w B b gs l) : ∀ k ∈ gs, k < w.heap.size ∧ B ≤ k := by
  obtain ⟨p, v, _, _, h3, _, h5, _⟩ := h.ex
  intro k hk
  rw [← h5] at hk
  exact (h3.lt k (by simpa using hk)).symm
theorem Own.mod {S : List Nat} (h : Own w B b gs l) (hM : Mod S w w') (hb : b ∉ S) (hg : ∀ k ∈ gs, k ∉ S) : Own w' B b gs l := by
  obtain ⟨p, v, h1, h2, h3, h4, h5, h6⟩ := h.ex
  exact ⟨⟨p, v, h1, by rw [hM.block b (block_lt h2) hb]; exact h2, own_mod h3 hM (fun k hk => hg k (by rw [← h5, hk]; simp)), h4, h5, h6⟩, h.B⟩
theorem Own.below (h : Own w B b gs l) (hb : Below w.heap.size w w') : Own w' B b gs l := h.mod (Mod.of_below hb []) (by simp) (by simp)
theorem Own.new (w : World) (B : Nat) (hB : B ≤ w.heap.size) : Own (w.alloc (.cells #[.pointer none, .slice none 0 0] 180)) B w.heap.size [] [] :=
  ⟨⟨_, _, .inl rfl, heap_alloc_new w _, World.ownsRow_nil _ _ _ _, by simp [Value.ownBlock], by simp [Value.ownBlock], fun _ => rfl⟩, hB⟩
theorem Own.is (h : Own w B b gs l) : Is w B b l := by
  obtain ⟨p, v, h1, h2, h3, h4, h5, h6⟩ := h.ex
  refine ⟨?_, fun e => ⟨p, by rw [← h6 e]; exact h2⟩⟩
  have h3' : w.ownsRow B 5 1 v (u8s l).length (u8s l) := by rw [u8s_length]; exact h3
  rcases h1 with rfl | rfl
  · exact .inl ⟨h.B, v, h2, h3', h4⟩
  · exact .inr ⟨h.B, v, h2, h3', h4⟩
theorem check_v {p v : Value} (w : World) (hp : p = Value.pointer none ∨ p = .pointer (some ⟨b, 0, none⟩)) (h2 : w.heap[b]? = some (.cells #[p, v] 180 (0, 0))) :
    Calls Tryd.prog 143 #[.pointer (some ⟨b, 0, none⟩)] w fun e w' => e = .returned (.tuple #[]) ∧ w'.heap[b]? = some (.cells #[.pointer (some ⟨b, 0, none⟩), v] 180 (0, 0)) ∧ Mod [b] w w' := by
  rcases hp with rfl | rfl
  · refine (check_fresh b w (by rw [cell_of_heap h2]; rfl) (by simp [World.shape?, h2]) (frozen_of_heap h2 0)).mono ?_
    rintro e w' ⟨rfl, rfl⟩
    exact ⟨rfl, by rw [block_setCell h2]; rfl, (Mod.refl _ _).setCell (.inl (by simp)) _⟩
  · refine (check_used b w (by rw [cell_of_heap h2]; rfl)).mono ?_
    rintro e w' ⟨rfl, rfl⟩
    exact ⟨rfl, h2, Mod.refl _ _⟩
set_option maxHeartbeats 2000000 in
set_option maxRecDepth 100000 in
theorem write_m (s : List UInt8) (h : Own w B b gs l) (hlen : l.length + s.length ≤ 140737488355328) (hBw : B ≤ w.heap.size) :
    Calls Tryd.prog 130 #[.pointer (some ⟨b, 0, none⟩), .string (Str s)] w fun e w' => e = .returned (.tuple #[.int .i64 (s.length : Int), .nilIface]) ∧ ∃ gs', Own w' B b gs' (l ++ s) ∧ Mod (b :: gs) w w' ∧ ∀ k ∈ gs', k ∈ gs ∨ w.heap.size ≤ k := by
  obtain ⟨i0, hi, hz0, hz1, hz2⟩ := Num.elU8.info
  have hss := Str_size s
  obtain ⟨p, v, h1, h2, h3, h4, h5, h6⟩ := h.ex
  have hB := h.B
  have HC := Lib.hid (check_v w h1 h2)
  have hblt := h.lt
  have H3 := Lib.hid h3
  have H6 := Lib.hid h6
  have hbg : b ∉ gs := by rw [← h5]; simpa using h4
  have H5 := Lib.hid h5
  clear h h1 h2 h3 h5 h6
  go_enter Tryd.func130, Tryd.ntmps130
  go_wp2_with fail
  refine HC.out.mono ?_
  rintro e w1 ⟨rfl, hbk, hM1⟩
  have hown : w1.ownsRow B 5 1 v l.length (u8s l) := own_mod H3.out hM1 (fun k hk hm => by
    have : k = b := by simpa using hm
    subst this
    exact h4 hk)
  obtain ⟨v', w2, hrun, hown', hgrow, hiff, hlie⟩ := append_lies (P := Tryd.prog) w1 B 129 9 129 5 i0 Tryd.underlying129 Tryd.underlying9 hi hz0 hz1 hz2 v l.length (u8s l) hown (Str s) (by unfold maxLen; rw [hss]; omega) (by rw [hss]; omega) (by have := hM1.size; omega)
  have hlt : b < w1.heap.size := block_lt hbk
  have hb2 : w2.heap[b]? = some (.cells #[.pointer (some ⟨b, 0, none⟩), v] 180 (0, 0)) := by
    rw [hgrow.block b hlt (fun e => h4 e.symm)]
    exact hbk
  have c0 : w1.cell? ⟨b, 0, none⟩ = some (.pointer (some ⟨b, 0, none⟩)) := by rw [cell_of_heap hbk]; rfl
  have c1 : w1.cell? ⟨b, 1, none⟩ = some v := by rw [cell_of_heap hbk]; rfl
  have d0 : w2.cell? ⟨b, 0, none⟩ = some (.pointer (some ⟨b, 0, none⟩)) := by rw [cell_of_heap hb2]; rfl
  have d1 : w2.cell? ⟨b, 1, none⟩ = some v := by rw [cell_of_heap hb2]; rfl
  have f1 : w2.frozen? ⟨b, 1, none⟩ = false := frozen_of_heap hb2 1
  obtain ⟨ao, n', cap, rfl⟩ : ∃ ao n' cap, v' = .slice ao n' cap := by
    rcases hown'.2 with ⟨hv, _⟩ | ⟨g, cap, cur, hv, _⟩
    · exact ⟨_, _, _, hv⟩
    · exact ⟨_, _, _, hv⟩
  rw [cells_u8s, ← u8s_append, hss, ← List.length_append] at hown'
  have hM : Mod (b :: gs) w (w2.setCell ⟨b, 1, none⟩ (.slice ao n' cap)) := by
    refine (((hM1.sub (by simp)).trans (Mod.of_grown hgrow) ?_)).setCell (.inl (by simp)) _
    intro k hk
    rw [H5.out] at hk
    exact .inl (by simp [hk])
  have hput := BuilderAt.put (p := .pointer (some ⟨b, 0, none⟩)) hB hb2 (bs' := u8s (l ++ s)) (by rw [u8s_length]; exact hown') (by decide : 180 ≠ 5)
  have hO : Own (w2.setCell ⟨b, 1, none⟩ (.slice ao n' cap)) B b (Value.slice ao n' cap).ownBlock.toList (l ++ s) := by
    obtain ⟨_, v2, q1, q2, q3⟩ := hput
    have hv2 : v2 = .slice ao n' cap := by
      have := block_setCell (i := 1) hb2 (.slice ao n' cap)
      rw [this] at q1
      simpa using q1.symm
    subst hv2
    refine ⟨⟨_, _, .inr rfl, q1, by rw [u8s_length] at q2; exact q2, q3, rfl, fun e => ?_⟩, hB⟩
    obtain ⟨e1, e2⟩ := List.append_eq_nil_iff.1 e
    exact hiff.2 ⟨H6.out e1, by rw [hss, e2]; rfl⟩
  have hnew : ∀ k ∈ (Value.slice ao n' cap).ownBlock.toList, k ∈ gs ∨ w.heap.size ≤ k := by
    intro k hk
    rcases hlie k (by simpa using hk) with h | h
    · exact .inl (by rw [← H5.out, h]; simp)
    · have := hM1.size
      exact .inr (by omega)
  have HO := Lib.hid hO
  have HM := Lib.hid hM
  have HN := Lib.hid hnew
  clear hown hown' hgrow hiff hlie hb2 hbk hM hput hO hnew hM1
  go_wp2_with (at_builtin; (with_reducible apply wpList_append_run hrun); rfl; rfl; rfl; rfl; rfl)
  go_ret2
  exact ⟨rfl, _, HO.out, HM.out, HN.out⟩
end Bu
end Go.Proofs.YteekonojmpihlaaDoor
