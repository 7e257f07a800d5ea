/- strings.Split at one blank, strings.Join at a blank: the library's contracts laid here, over lists of bytes. Condition: texts of at most 1000000 bytes. -/
import Derived.Test.YtmfcabidmacdcaaDoorRows
import Derived.Test.YtmfcabidmacdcaaDoorActPure
import Derived.Shelf.Strings.SplitCore
import Derived.Shelf.Strings.Search3
import Derived.Shelf.Strings.Count
import Derived.Shelf.Strings.OnBuilder
import Derived.Lib.SplitLaws
namespace Go.Proofs.YtmfcabidmacdcaaDoor
open Go Go.RowKit Go.Shelf Kt
namespace Ac
def lays146_ren : Go.Shelf.Ren := ⟨fun | 138 => 158 | 143 => 159 | 146 => 65 | 195 => 172 | 197 => 173 | 217 => 178 | 218 => 174 | 219 => 175 | 221 => 117 | 224 => 183 | 225 => 182 | 260 => 181 | 266 => 185 | 267 => 184 | 268 => 157 | 314 => 187 | n => n,
  fun | 0 => 0 | 3 => 3 | 4 => 4 | 5 => 5 | 9 => 9 | 21 => 21 | 31 => 62 | 46 => 41 | 51 => 91 | 105 => 242 | 119 => 248 | 138 => 250 | 139 => 251 | 146 => 252 | n => n,
  fun | 1 => 20 | 3 => 21 | 4 => 22 | n => n⟩
set_option maxRecDepth 100000 in
theorem lays146 : Go.Proofs.Lays.n146 Tryd.prog lays146_ren := {
  mixed := by kernel_rfl,
  f138 := Tryd.func158.trans (by kernel_rfl),
  f143 := Tryd.func159.trans (by kernel_rfl),
  f146 := Tryd.func65.trans (by kernel_rfl),
  f195 := Tryd.func172.trans (by kernel_rfl),
  f197 := Tryd.func173.trans (by kernel_rfl),
  f217 := Tryd.func178.trans (by kernel_rfl),
  f218 := Tryd.func174.trans (by kernel_rfl),
  f219 := Tryd.func175.trans (by kernel_rfl),
  f221 := Tryd.func117.trans (by kernel_rfl),
  f224 := Tryd.func183.trans (by kernel_rfl),
  f225 := Tryd.func182.trans (by kernel_rfl),
  f260 := Tryd.func181.trans (by kernel_rfl),
  f266 := Tryd.func185.trans (by kernel_rfl),
  f267 := Tryd.func184.trans (by kernel_rfl),
  f268 := Tryd.func157.trans (by kernel_rfl),
  f314 := Tryd.func187.trans (by kernel_rfl),
  t0 := by kernel_rfl,
  a0 := fun _ => by kernel_rfl,
  z0 := fun _ => by kernel_rfl,
  v0 := fun _ => by kernel_rfl,
  t3 := by kernel_rfl,
  a3 := fun _ => by kernel_rfl,
  z3 := fun _ => by kernel_rfl,
  v3 := fun _ => by kernel_rfl,
  t4 := by kernel_rfl,
  a4 := fun _ => by kernel_rfl,
  z4 := fun _ => by kernel_rfl,
  v4 := fun _ => by kernel_rfl,
  t5 := by kernel_rfl,
  a5 := fun _ => by kernel_rfl,
  z5 := fun _ => by kernel_rfl,
  v5 := fun _ => by kernel_rfl,
  t9 := by kernel_rfl,
  a9 := fun _ => by kernel_rfl,
  z9 := fun _ => by kernel_rfl,
  v9 := fun _ => by kernel_rfl,
  t21 := by kernel_rfl,
  a21 := fun _ => by kernel_rfl,
  z21 := fun _ => by kernel_rfl,
  v21 := fun _ => by kernel_rfl,
  t31 := by kernel_rfl,
  a31 := fun _ => by kernel_rfl,
  z31 := fun _ => by kernel_rfl,
  v31 := fun _ => by kernel_rfl,
  t46 := by kernel_rfl,
  a46 := fun _ => by kernel_rfl,
  z46 := fun _ => by kernel_rfl,
  v46 := fun _ => by kernel_rfl,
  t51 := by kernel_rfl,
  a51 := fun _ => by kernel_rfl,
  z51 := fun _ => by kernel_rfl,
  v51 := fun _ => by kernel_rfl,
  t105 := by kernel_rfl,
  a105 := fun _ => by kernel_rfl,
  z105 := fun _ => by kernel_rfl,
  v105 := fun _ => by kernel_rfl,
  t119 := by kernel_rfl,
  a119 := fun _ => by kernel_rfl,
  z119 := fun _ => by kernel_rfl,
  t138 := by kernel_rfl,
  a138 := fun _ => by kernel_rfl,
  z138 := fun _ => by kernel_rfl,
  v138 := fun _ => by kernel_rfl,
  t139 := by kernel_rfl,
  a139 := fun _ => by kernel_rfl,
  z139 := fun _ => by kernel_rfl,
  v139 := fun _ => by kernel_rfl,
  t146 := by kernel_rfl,
  a146 := fun _ => by kernel_rfl,
  z146 := fun _ => by kernel_rfl,
  v146 := fun _ => by kernel_rfl,
  g1 := by kernel_rfl,
  g3 := by kernel_rfl,
  g4 := by kernel_rfl }

def lays156_ren : Go.Shelf.Ren := ⟨fun | 156 => 63 | 165 => 115 | 166 => 53 | 169 => 56 | 240 => 111 | 241 => 156 | 276 => 150 | 277 => 171 | n => n,
  fun | 0 => 0 | 3 => 3 | 4 => 4 | 5 => 5 | 9 => 9 | 20 => 20 | 31 => 62 | 37 => 40 | 70 => 109 | 72 => 111 | 75 => 27 | 76 => 81 | 80 => 118 | 127 => 186 | 164 => 223 | n => n,
  fun n => n⟩
set_option maxRecDepth 100000 in
theorem lays156 : Go.Proofs.Lays.n156 Tryd.prog lays156_ren := {
  mixed := by kernel_rfl,
  f156 := Tryd.func63.trans (by kernel_rfl),
  f165 := Tryd.func115.trans (by kernel_rfl),
  f166 := Tryd.func53.trans (by kernel_rfl),
  f169 := Tryd.func56.trans (by kernel_rfl),
  f240 := Tryd.func111.trans (by kernel_rfl),
  f241 := Tryd.func156.trans (by kernel_rfl),
  f276 := Tryd.func150.trans (by kernel_rfl),
  f277 := Tryd.func171.trans (by kernel_rfl),
  t0 := by kernel_rfl,
  a0 := fun _ => by kernel_rfl,
  z0 := fun _ => by kernel_rfl,
  v0 := fun _ => by kernel_rfl,
  t3 := by kernel_rfl,
  a3 := fun _ => by kernel_rfl,
  z3 := fun _ => by kernel_rfl,
  v3 := fun _ => by kernel_rfl,
  t4 := by kernel_rfl,
  a4 := fun _ => by kernel_rfl,
  z4 := fun _ => by kernel_rfl,
  v4 := fun _ => by kernel_rfl,
  t9 := by kernel_rfl,
  a9 := fun _ => by kernel_rfl,
  z9 := fun _ => by kernel_rfl,
  v9 := fun _ => by kernel_rfl,
  t20 := by kernel_rfl,
  a20 := fun _ => by kernel_rfl,
  z20 := fun _ => by kernel_rfl,
  v20 := fun _ => by kernel_rfl,
  t31 := by kernel_rfl,
  a31 := fun _ => by kernel_rfl,
  z31 := fun _ => by kernel_rfl,
  v31 := fun _ => by kernel_rfl,
  t37 := by kernel_rfl,
  a37 := fun _ => by kernel_rfl,
  z37 := fun _ => by kernel_rfl,
  v37 := fun _ => by kernel_rfl,
  t70 := by kernel_rfl,
  a70 := fun _ => by kernel_rfl,
  z70 := fun _ => by kernel_rfl,
  v70 := fun _ => by kernel_rfl,
  t72 := by kernel_rfl,
  a72 := fun _ => by kernel_rfl,
  z72 := fun _ => by kernel_rfl,
  v72 := fun _ => by kernel_rfl,
  t75 := by kernel_rfl,
  a75 := fun _ => by kernel_rfl,
  z75 := fun _ => by kernel_rfl,
  v75 := fun _ => by kernel_rfl,
  t76 := by kernel_rfl,
  a76 := fun _ => by kernel_rfl,
  z76 := fun _ => by kernel_rfl,
  v76 := fun _ => by kernel_rfl,
  t127 := by kernel_rfl,
  a127 := fun _ => by kernel_rfl,
  z127 := fun _ => by kernel_rfl,
  v127 := fun _ => by kernel_rfl,
  t164 := by kernel_rfl,
  a164 := fun _ => by kernel_rfl,
  z164 := fun _ => by kernel_rfl,
  v164 := fun _ => by kernel_rfl }
theorem hi9 : (Tryd.prog.info? (lays146_ren.t 9)).map (fun i => (i.zero, i.size, i.bytes)) = some (some (.string ByteArray.empty), 1, 16) := by kernel_rfl
theorem index_cut {w : List UInt8} (h : (32 : UInt8) ∉ w) (l : List UInt8) : Lib.indexByte (w ++ 32 :: l) 32 = w.length := by
  induction w with
  | nil => simp [Lib.indexByte]
  | cons c t ih =>
    simp only [List.mem_cons, not_or] at h
    have := ih h.2
    rw [List.cons_append]
    unfold Lib.indexByte
    rw [this]
    have h1 : (c == (32 : UInt8)) = false := by simpa using fun e : c = 32 => h.1 e.symm
    simp [h1]
    try omega
theorem split_words : ∀ (k : Nat) (ws : List (List UInt8)), ws.length = k + 1 → (∀ w ∈ ws, (32 : UInt8) ∉ w) → Lib.splitK [32] 0 k (join ws) = ws
  | 0, ws, hl, _ => by
    match ws, hl with
    | [w], _ => rfl
  | k + 1, ws, hl, h => by
    match ws, hl with
    | w :: v :: r, hl =>
      have hw := h w (by simp)
      have ih := split_words k (v :: r) (by simpa using hl) (fun x hx => h x (by simp [List.mem_cons.1 hx]))
      show Lib.splitK [32] 0 (k + 1) (w ++ 32 :: join (v :: r)) = _
      unfold Lib.splitK
      rw [Lib.index_one, index_cut hw]
      have : ((w.length : Int) == -1) = false := by first | (simp; done) | (simp; omega)
      rw [this]
      simp only [Bool.false_eq_true, if_false, Int.toNat_natCast, Nat.add_zero, List.length_singleton]
      rw [List.take_left, show List.drop (w.length + 1) (w ++ 32 :: join (v :: r)) = join (v :: r) by (rw [← List.drop_drop, List.drop_left]; first | rfl | done), ih]
theorem count_join : ∀ (ws : List (List UInt8)), ws ≠ [] → (∀ w ∈ ws, (32 : UInt8) ∉ w) → (join ws).count 32 + 1 = ws.length
  | [], h, _ => absurd rfl h
  | [w], _, h => by
    have := List.count_eq_zero.2 (h w (by simp))
    simp [join, this]
  | w :: v :: r, _, h => by
    have h1 := List.count_eq_zero.2 (h w (by simp))
    have h2 := count_join (v :: r) (by simp) (fun x hx => h x (by simp [List.mem_cons.1 hx]))
    show (w ++ 32 :: join (v :: r)).count 32 + 1 = _
    rw [List.count_append, h1, List.count_cons_self, List.length_cons, ← h2]
    omega
theorem count_words (s : List UInt8) : s.count 32 + 1 = (words s).length := by
  have := count_join (words s) (words_ne s) (words_noblank s)
  rwa [join_words] at this
def Sw (l : List UInt8) : Value := .string (Str l)
theorem splitB_words (s : List UInt8) : (Lib.splitB ⟨#[32]⟩ 0 (s.count 32) (Str s)).map Value.string = (words s).map Sw := by
  have h1 := Lib.splitB_data ⟨#[32]⟩ 0 (s.count 32) (Str s)
  rw [Str_toList, show (⟨#[32]⟩ : ByteArray).data.toList = [32] from rfl] at h1
  have h2 := split_words (s.count 32) (words s) (count_words s).symm (words_noblank s)
  rw [join_words] at h2
  rw [h2] at h1
  rw [← h1, List.map_map]
  refine List.map_congr_left fun x _ => ?_
  show Value.string x = .string (Str x.data.toList)
  rfl
theorem countB_one (s : List UInt8) : Lib.countB (Str s) ⟨#[32]⟩ = s.count 32 := by
  show Lib.count (Str s).data.toList [32] = _
  rw [Str_toList, Lib.count_one]
set_option maxHeartbeats 1000000 in
theorem split_c (s : List UInt8) (hs : s.length ≤ 1000000) (w : World) : Calls Tryd.prog 65 #[.string (Str s), .string ⟨#[32]⟩] w fun e w' =>
    e = .returned (.slice (some ⟨w.heap.size, 0, none⟩) (words s).length (words s).length) ∧ w' = w.alloc (.cells ((words s).map Sw).toArray 9) := by
  have hz := Str_size s
  have hk := countB_one s
  have hw := count_words s
  have hle : s.count 32 ≤ s.length := List.count_le_length
  have c := Any.strings_genSplit_core { lays146 with } hi9 (Str s) ⟨#[32]⟩ 0 (-1) (s.count 32 + 1) w (by omega) (by decide) (by decide)
    (fun x c hx => by
      have := Any.strings_Index_one { lays146 with } x 32 (w.alloc (.cells c (lays146_ren.t 9)))
      refine this.mono fun e w' ⟨h1, h2⟩ => ⟨?_, h2⟩
      rw [h1]
      show _ = Ending.returned (.int .i64 (Lib.index x.data.toList [32]))
      rw [Lib.index_one])
    (by
      have := Any.strings_Count_one { lays146 with } (Str s) 32 w
      refine this.mono fun e w' ⟨h1, h2⟩ => ⟨?_, h2⟩
      rw [h1, hk, Str_toList]
      rfl) (by decide) (by decide) (by rw [if_pos (by decide), hk, hz]; omega)
  rw [Nat.add_sub_cancel] at c
  have hl : (Lib.splitB ⟨#[32]⟩ 0 (s.count 32) (Str s)).length = (words s).length := by
    have := congrArg List.length (splitB_words s)
    simpa using this
  have hc : Lib.cellsOf (Lib.splitB ⟨#[32]⟩ 0 (s.count 32) (Str s)) (s.count 32 + 1) = ((words s).map Sw).toArray := by
    rw [hw, ← hl, Lib.cellsOf_full, splitB_words]
  rw [hl, hc, hw, show ((0 : Nat) : Int) = 0 from rfl, show lays146_ren.f 221 = 117 from rfl, show lays146_ren.t 9 = 9 from rfl] at c
  have HC := Lib.hid c
  obtain ⟨S, hS⟩ : ∃ S, Str s = S := ⟨_, rfl⟩
  rw [hS] at HC ⊢
  generalize (words s).length = n at *
  generalize ((words s).map Sw).toArray = cs at *
  clear c hz hk hw hle hl hc hS hs
  go_enter Tryd.func65, Tryd.ntmps65
  go_wp2_with (go_at_call 117; (with_reducible refine HC.out.mono ?_); rintro e w' ⟨rfl, rfl⟩)
  go_ret
  exact ⟨rfl, rfl⟩
end Ac
end Go.Proofs.YtmfcabidmacdcaaDoor
