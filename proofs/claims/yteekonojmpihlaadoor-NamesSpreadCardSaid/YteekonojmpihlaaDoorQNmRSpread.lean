import Derived.Test.YteekonojmpihlaaDoorQNmRAdd
import Derived.Test.YteekonojmpihlaaDoorQNmSpL
import Derived.Test.YteekonojmpihlaaDoorQTreeOf
import Derived.Deep.RegionHeld3
/- The document's Spread, the spread with one call less at hand. Printed by gen_nmrspread.py. -/
namespace Go.Proofs.YteekonojmpihlaaDoor
namespace Kt
end Kt
namespace St
end St
namespace Sp
end Sp
namespace Bk
end Bk
namespace Tr
end Tr
open Go Go.RowKit Kt St Sp Bk Tr
namespace Bo
/-- Where the document's spread may begin. -/
structure RsC (w0 : World) (B : Bks) (f : Nat) (path : List (List UInt8)) (lv many : Nat) (n : Nd) (W : World) (pa : Option Addr) (pn pc : Nat) : Prop where
  hb : Below w0.heap.size w0 W
  hr : Rd W pa (strs path)
  hn : path.length = pn
  hno : pa = none → pc = 0
  nd : path.Nodup
  hp : ∀ x ∈ path, x ∈ B.map (·.1)
  hv : lv ≤ 25
  hm : many ≤ 600
  hf : (25 - lv) + (B.length - path.length) < f
  hi : Is w0.heap.size w0 n
  hz : sz n ≤ 600
/-- What it answers. -/
def RsP (r : Int × Nat × Nd) (W : World) (e : Ending) (W' : World) : Prop := ∃ m, e = .returned (.tuple #[nv m, .int .i64 (r.2.1 : Int), .int .i64 r.1]) ∧ (r.1 = 0 → er m = r.2.2) ∧ Is W'.heap.size W' m ∧ Bl (W.heap.size ≤ ·) m ∧ Below W.heap.size W W'
theorem RsP.no {r : Int × Nat × Nd} {W W3 w4 : World} (h0 : r.1 ≠ 0) (hB : Below W.heap.size W W3) (hb : Below W3.heap.size W3 w4) (b : Nat) (hbW : W.heap.size ≤ b) {w5 : World} (hM : Mod [b] w4 w5) : RsP r W (.returned (.tuple #[nv nil0, .int .i64 (r.2.1 : Int), .int .i64 r.1])) w5 := by
  have h1 := hB.trans (hb.mono hB.size)
  exact ⟨nil0, rfl, fun h => absurd h h0, is_nil0 _ _, bl_nil0 _, h1.trans (hM.toBelow h1.size (by intro k hk; simp at hk; omega))⟩
set_option maxRecDepth 100000 in
set_option maxHeartbeats 1000000 in
theorem rs_deep (w0 : World) (q f : Nat) (ra : Option Addr) (rc rn : Nat) (X : List Nat) (Ts : Bks) (hrb : RB w0 q ra rc rn X Ts)
    (path : List (List UInt8)) (lv many : Nat) {k : Int} {s : List Nat} {mn mx : Int} {t : List UInt8} {a : Option Addr} {c : Nat} {ks : List Nd} (W : World) (pa : Option Addr) (pn pc : Nat) (hC : RsC w0 (erB Ts) (f + 1) path lv many (.mk k s mn mx t a c ks) W pa pn pc) (hk : k ≠ 5) (h24 : 24 < lv) :
    Calls Tryd.prog 28 #[.pointer (some ⟨q, 0, none⟩), nv (.mk k s mn mx t a c ks), .int .i64 (lv : Int), .int .i64 (many : Int), .slice pa pn pc] W (RsP (spr (erB Ts) (f + 1) path lv many (er (.mk k s mn mx t a c ks))) W) := by
  have hres : spr (erB Ts) (f + 1) path lv many (er (.mk k s mn mx t a c ks)) = (7, many, nil0) := by
    have hk' : (er (.mk k s mn mx t a c ks)).kind ≠ 5 := hk
    unfold spr
    rw [if_neg hk', if_pos h24]
  rw [hres]
  have hIs : Is W.heap.size W (.mk k s mn mx t a c ks) := Is.mono hC.hb.size (Is.below hC.hb hC.hi)
  obtain ⟨x0, x1, x2, x3, hl⟩ := four' hIs.1
  subst hl
  have hnv : nv (.mk k [x0, x1, x2, x3] mn mx t a c ks) = .agg #[.int .i64 k, .int .u64 (x0 : Int), .int .u64 (x1 : Int), .int .u64 (x2 : Int), .int .u64 (x3 : Int), .slice a ks.length c, .int .i64 mn, .int .i64 mx, .string (Str t)] := rfl
  rw [hnv]
  clear hnv
  obtain ⟨nl, hnl⟩ : ∃ nl, ks.length = nl := ⟨_, rfl⟩
  rw [hnl]
  obtain ⟨B2, hB2⟩ : ∃ B2, Obj.cells #[.int .i64 k, .int .u64 (x0 : Int), .int .u64 (x1 : Int), .int .u64 (x2 : Int), .int .u64 (x3 : Int), .slice a nl c, .int .i64 mn, .int .i64 mx, .string (Str t)] 44 (0, 0) = B2 := ⟨_, rfl⟩
  obtain ⟨B4, hB4⟩ : ∃ B4, Obj.cells #[.int .i64 0, .int .u64 0, .int .u64 0, .int .u64 0, .int .u64 0, .slice none 0 0, .int .i64 0, .int .i64 0, .string ⟨#[]⟩] 44 (0, 0) = B4 := ⟨_, rfl⟩
  have z1 : (W.alloc B2).heap.size = W.heap.size + 1 := by simp
  have z2 : ((W.alloc B2).alloc B4).heap.size = W.heap.size + 2 := by simp
  have l2 : (((W.alloc B2).alloc B4).alloc B4).heap[W.heap.size]? = some B2 := block_alloc (block_alloc (World.alloc_heap_new W B2))
  have l4 : (((W.alloc B2).alloc B4).alloc B4).heap[W.heap.size + 1]? = some B4 := block_alloc (by rw [← z1]; exact World.alloc_heap_new _ B4)
  have l6 : (((W.alloc B2).alloc B4).alloc B4).heap[W.heap.size + 2]? = some B4 := by rw [← z2]; exact World.alloc_heap_new _ B4
  have hB : Below W.heap.size W (((W.alloc B2).alloc B4).alloc B4) := (((Below.refl _ W).alloc (Nat.le_refl _) _).alloc (by simp) _).alloc (by simp; omega) _
  obtain ⟨W3, hW3⟩ : ∃ W3, ((W.alloc B2).alloc B4).alloc B4 = W3 := ⟨_, rfl⟩
  have z3 : W3.heap.size = W.heap.size + 3 := by rw [← hW3]; simp
  rw [hW3] at l2 l4 l6 hB
  rw [← hB2, ← hB4] at hW3
  rw [← hB2] at l2
  rw [← hB4] at l4 l6
  clear hB2 hB4 z1 z2 B2 B4
  have hb3 := hC.hb.trans (hB.mono hC.hb.size)
  have HW3 := Lib.hid hW3
  have HB := Lib.hid hB
  have HZ := Lib.hid z3
  have H2 := Lib.hid l2
  have H4 := Lib.hid l4
  have H6 := Lib.hid l6
  have hno : ∀ w4 w5, Below W3.heap.size W3 w4 → Mod [W.heap.size + 1] w4 w5 → RsP (7, many, nil0) W (.returned (.tuple #[nv nil0, .int .i64 (many : Int), .int .i64 7])) w5 := fun w4 w5 h1 h2 => RsP.no (r := (7, many, nil0)) (by simp) hB h1 (W.heap.size + 1) (by omega) h2
  have HNo := Lib.hid hno
  have hbw : Below W3.heap.size W3 W3 := Below.refl _ _
  have l4w := (hbw.block _ (block_lt H4.out)).trans H4.out
  have l6w := (hbw.block _ (block_lt H6.out)).trans H6.out
  obtain ⟨u0, u1, u2, u3, u4, u5, u6, u7, u8⟩ := nd_cells l6w
  obtain ⟨d0, d1, d2, d3, d4, d5, d6, d7, d8⟩ := nd_cells l4w
  obtain ⟨f0, f1, f2, f3, f4, f5, f6, f7, f8⟩ := frz9 l4w
  have hpb := put9_block l4w (.int .i64 0) (.int .u64 0) (.int .u64 0) (.int .u64 0) (.int .u64 0) (.slice none 0 0) (.int .i64 0) (.int .i64 0) (.string ⟨#[]⟩)
  have hre := HNo.out W3 _ hbw (put9_mod W3 (W.heap.size + 1) (.int .i64 0) (.int .u64 0) (.int .u64 0) (.int .u64 0) (.int .u64 0) (.slice none 0 0) (.int .i64 0) (.int .i64 0) (.string ⟨#[]⟩))
  have HRe := Lib.hid hre
  have HPb := Lib.hid hpb
  have q0 : W3.cell? ⟨W.heap.size, 0, none⟩ = some (.int .i64 k) := cell_block l2 0
  have hke : (k == 5) = false := by simpa using hk
  have hkd : decide (k = 5) = false := by simpa using hk
  have hgt : (24 : Int) < (lv : Int) := by omega
  clear hno hre hpb l4w l6w hbw l2 l4 l6 hB hW3 hnl hIs hC hres hb3 z3
  go_enter Tryd.func28, Tryd.ntmps28
  go_upto_region 2 with (fail)
  rw [HW3.out]
  go_wp2
  ((try simp only [Exit.inBlock, Exit.then]); refine bodyPost_ret (Kt.results_cell3_row rfl _ _ (W.heap.size + 1) 44 _ (0, 0) _ rfl (HPb.out) Tryd.underlying44 rfl ?hi1) rfl ?_; (case hi1 => kernel_rfl))
  exact HRe.out
set_option maxRecDepth 100000 in
set_option maxHeartbeats 1000000 in
theorem rs_many (w0 : World) (q f : Nat) (ra : Option Addr) (rc rn : Nat) (X : List Nat) (Ts : Bks) (hrb : RB w0 q ra rc rn X Ts)
    (path : List (List UInt8)) (lv many : Nat) {k : Int} {s : List Nat} {mn mx : Int} {t : List UInt8} {a : Option Addr} {c : Nat} {ks : List Nd} (W : World) (pa : Option Addr) (pn pc : Nat) (hC : RsC w0 (erB Ts) (f + 1) path lv many (.mk k s mn mx t a c ks) W pa pn pc) (hk : k ≠ 5) (h24 : ¬ 24 < lv) (h6 : 600 ≤ many) :
    Calls Tryd.prog 28 #[.pointer (some ⟨q, 0, none⟩), nv (.mk k s mn mx t a c ks), .int .i64 (lv : Int), .int .i64 (many : Int), .slice pa pn pc] W (RsP (spr (erB Ts) (f + 1) path lv many (er (.mk k s mn mx t a c ks))) W) := by
  have hres : spr (erB Ts) (f + 1) path lv many (er (.mk k s mn mx t a c ks)) = (9, many, nil0) := by
    have hk' : (er (.mk k s mn mx t a c ks)).kind ≠ 5 := hk
    unfold spr
    rw [if_neg hk', if_neg h24, if_pos h6]
  rw [hres]
  have hIs : Is W.heap.size W (.mk k s mn mx t a c ks) := Is.mono hC.hb.size (Is.below hC.hb hC.hi)
  obtain ⟨x0, x1, x2, x3, hl⟩ := four' hIs.1
  subst hl
  have hnv : nv (.mk k [x0, x1, x2, x3] mn mx t a c ks) = .agg #[.int .i64 k, .int .u64 (x0 : Int), .int .u64 (x1 : Int), .int .u64 (x2 : Int), .int .u64 (x3 : Int), .slice a ks.length c, .int .i64 mn, .int .i64 mx, .string (Str t)] := rfl
  rw [hnv]
  clear hnv
  obtain ⟨nl, hnl⟩ : ∃ nl, ks.length = nl := ⟨_, rfl⟩
  rw [hnl]
  obtain ⟨B2, hB2⟩ : ∃ B2, Obj.cells #[.int .i64 k, .int .u64 (x0 : Int), .int .u64 (x1 : Int), .int .u64 (x2 : Int), .int .u64 (x3 : Int), .slice a nl c, .int .i64 mn, .int .i64 mx, .string (Str t)] 44 (0, 0) = B2 := ⟨_, rfl⟩
  obtain ⟨B4, hB4⟩ : ∃ B4, Obj.cells #[.int .i64 0, .int .u64 0, .int .u64 0, .int .u64 0, .int .u64 0, .slice none 0 0, .int .i64 0, .int .i64 0, .string ⟨#[]⟩] 44 (0, 0) = B4 := ⟨_, rfl⟩
  have z1 : (W.alloc B2).heap.size = W.heap.size + 1 := by simp
  have z2 : ((W.alloc B2).alloc B4).heap.size = W.heap.size + 2 := by simp
  have l2 : (((W.alloc B2).alloc B4).alloc B4).heap[W.heap.size]? = some B2 := block_alloc (block_alloc (World.alloc_heap_new W B2))
  have l4 : (((W.alloc B2).alloc B4).alloc B4).heap[W.heap.size + 1]? = some B4 := block_alloc (by rw [← z1]; exact World.alloc_heap_new _ B4)
  have l6 : (((W.alloc B2).alloc B4).alloc B4).heap[W.heap.size + 2]? = some B4 := by rw [← z2]; exact World.alloc_heap_new _ B4
  have hB : Below W.heap.size W (((W.alloc B2).alloc B4).alloc B4) := (((Below.refl _ W).alloc (Nat.le_refl _) _).alloc (by simp) _).alloc (by simp; omega) _
  obtain ⟨W3, hW3⟩ : ∃ W3, ((W.alloc B2).alloc B4).alloc B4 = W3 := ⟨_, rfl⟩
  have z3 : W3.heap.size = W.heap.size + 3 := by rw [← hW3]; simp
  rw [hW3] at l2 l4 l6 hB
  rw [← hB2, ← hB4] at hW3
  rw [← hB2] at l2
  rw [← hB4] at l4 l6
  clear hB2 hB4 z1 z2 B2 B4
  have hb3 := hC.hb.trans (hB.mono hC.hb.size)
  have HW3 := Lib.hid hW3
  have HB := Lib.hid hB
  have HZ := Lib.hid z3
  have H2 := Lib.hid l2
  have H4 := Lib.hid l4
  have H6 := Lib.hid l6
  have hno : ∀ w4 w5, Below W3.heap.size W3 w4 → Mod [W.heap.size + 1] w4 w5 → RsP (9, many, nil0) W (.returned (.tuple #[nv nil0, .int .i64 (many : Int), .int .i64 9])) w5 := fun w4 w5 h1 h2 => RsP.no (r := (9, many, nil0)) (by simp) hB h1 (W.heap.size + 1) (by omega) h2
  have HNo := Lib.hid hno
  have hbw : Below W3.heap.size W3 W3 := Below.refl _ _
  have l4w := (hbw.block _ (block_lt H4.out)).trans H4.out
  have l6w := (hbw.block _ (block_lt H6.out)).trans H6.out
  obtain ⟨u0, u1, u2, u3, u4, u5, u6, u7, u8⟩ := nd_cells l6w
  obtain ⟨d0, d1, d2, d3, d4, d5, d6, d7, d8⟩ := nd_cells l4w
  obtain ⟨f0, f1, f2, f3, f4, f5, f6, f7, f8⟩ := frz9 l4w
  have hpb := put9_block l4w (.int .i64 0) (.int .u64 0) (.int .u64 0) (.int .u64 0) (.int .u64 0) (.slice none 0 0) (.int .i64 0) (.int .i64 0) (.string ⟨#[]⟩)
  have hre := HNo.out W3 _ hbw (put9_mod W3 (W.heap.size + 1) (.int .i64 0) (.int .u64 0) (.int .u64 0) (.int .u64 0) (.int .u64 0) (.slice none 0 0) (.int .i64 0) (.int .i64 0) (.string ⟨#[]⟩))
  have HRe := Lib.hid hre
  have HPb := Lib.hid hpb
  have q0 : W3.cell? ⟨W.heap.size, 0, none⟩ = some (.int .i64 k) := cell_block l2 0
  have hke : (k == 5) = false := by simpa using hk
  have hkd : decide (k = 5) = false := by simpa using hk
  have hgt : ¬ (24 : Int) < (lv : Int) := by omega
  have hge : (600 : Int) ≤ (many : Int) := by omega
  clear hno hre hpb l4w l6w hbw l2 l4 l6 hB hW3 hnl hIs hC hres hb3 z3
  go_enter Tryd.func28, Tryd.ntmps28
  go_upto_region 2 with (fail)
  rw [HW3.out]
  go_wp2
  ((try simp only [Exit.inBlock, Exit.then]); refine bodyPost_ret (Kt.results_cell3_row rfl _ _ (W.heap.size + 1) 44 _ (0, 0) _ rfl (HPb.out) Tryd.underlying44 rfl ?hi2) rfl ?_; (case hi2 => kernel_rfl))
  exact HRe.out
set_option maxRecDepth 100000 in
set_option maxHeartbeats 1000000 in
theorem rs_none (w0 : World) (q f : Nat) (ra : Option Addr) (rc rn : Nat) (X : List Nat) (Ts : Bks) (hrb : RB w0 q ra rc rn X Ts)
    (path : List (List UInt8)) (lv many : Nat) {k : Int} {s : List Nat} {mn mx : Int} {t : List UInt8} {a : Option Addr} {c : Nat} {ks : List Nd} (W : World) (pa : Option Addr) (pn pc : Nat) (hC : RsC w0 (erB Ts) (f + 1) path lv many (.mk k s mn mx t a c ks) W pa pn pc) (hk : k = 5) (hl0 : lkS Ts t = none) :
    Calls Tryd.prog 28 #[.pointer (some ⟨q, 0, none⟩), nv (.mk k s mn mx t a c ks), .int .i64 (lv : Int), .int .i64 (many : Int), .slice pa pn pc] W (RsP (spr (erB Ts) (f + 1) path lv many (er (.mk k s mn mx t a c ks))) W) := by
  have hk' : (er (.mk k s mn mx t a c ks)).kind = 5 := hk
  have hres : spr (erB Ts) (f + 1) path lv many (er (.mk k s mn mx t a c ks)) = nres (erB Ts) f path lv many t := by
    unfold spr nres
    rw [if_pos hk']
    rfl
  rw [hres]
  rw [show nres (erB Ts) f path lv many t = (15, many, nil0) by rw [nres, lkS_er, hl0]; rfl]
  have hIs : Is W.heap.size W (.mk k s mn mx t a c ks) := Is.mono hC.hb.size (Is.below hC.hb hC.hi)
  obtain ⟨x0, x1, x2, x3, hl⟩ := four' hIs.1
  subst hl
  have hnv : nv (.mk k [x0, x1, x2, x3] mn mx t a c ks) = .agg #[.int .i64 k, .int .u64 (x0 : Int), .int .u64 (x1 : Int), .int .u64 (x2 : Int), .int .u64 (x3 : Int), .slice a ks.length c, .int .i64 mn, .int .i64 mx, .string (Str t)] := rfl
  rw [hnv]
  clear hnv
  obtain ⟨nl, hnl⟩ : ∃ nl, ks.length = nl := ⟨_, rfl⟩
  rw [hnl]
  obtain ⟨B2, hB2⟩ : ∃ B2, Obj.cells #[.int .i64 k, .int .u64 (x0 : Int), .int .u64 (x1 : Int), .int .u64 (x2 : Int), .int .u64 (x3 : Int), .slice a nl c, .int .i64 mn, .int .i64 mx, .string (Str t)] 44 (0, 0) = B2 := ⟨_, rfl⟩
  obtain ⟨B4, hB4⟩ : ∃ B4, Obj.cells #[.int .i64 0, .int .u64 0, .int .u64 0, .int .u64 0, .int .u64 0, .slice none 0 0, .int .i64 0, .int .i64 0, .string ⟨#[]⟩] 44 (0, 0) = B4 := ⟨_, rfl⟩
  have z1 : (W.alloc B2).heap.size = W.heap.size + 1 := by simp
  have z2 : ((W.alloc B2).alloc B4).heap.size = W.heap.size + 2 := by simp
  have l2 : (((W.alloc B2).alloc B4).alloc B4).heap[W.heap.size]? = some B2 := block_alloc (block_alloc (World.alloc_heap_new W B2))
  have l4 : (((W.alloc B2).alloc B4).alloc B4).heap[W.heap.size + 1]? = some B4 := block_alloc (by rw [← z1]; exact World.alloc_heap_new _ B4)
  have l6 : (((W.alloc B2).alloc B4).alloc B4).heap[W.heap.size + 2]? = some B4 := by rw [← z2]; exact World.alloc_heap_new _ B4
  have hB : Below W.heap.size W (((W.alloc B2).alloc B4).alloc B4) := (((Below.refl _ W).alloc (Nat.le_refl _) _).alloc (by simp) _).alloc (by simp; omega) _
  obtain ⟨W3, hW3⟩ : ∃ W3, ((W.alloc B2).alloc B4).alloc B4 = W3 := ⟨_, rfl⟩
  have z3 : W3.heap.size = W.heap.size + 3 := by rw [← hW3]; simp
  rw [hW3] at l2 l4 l6 hB
  rw [← hB2, ← hB4] at hW3
  rw [← hB2] at l2
  rw [← hB4] at l4 l6
  clear hB2 hB4 z1 z2 B2 B4
  have hb3 := hC.hb.trans (hB.mono hC.hb.size)
  have HW3 := Lib.hid hW3
  have HB := Lib.hid hB
  have HZ := Lib.hid z3
  have H2 := Lib.hid l2
  have H4 := Lib.hid l4
  have H6 := Lib.hid l6
  have hfi := rfind_c q ra rc rn X Ts t W3 (hrb.mod (Mod.of_below hb3 []) (by simp))
  have HFi := Lib.hid hfi
  obtain ⟨_, _, _, _, _, _, _, _, u8⟩ := nd_cells l2
  have u0 : W3.cell? ⟨W.heap.size, 0, none⟩ = some (.int .i64 k) := cell_block l2 0
  subst hk
  have hno : ∀ w4 w5, Below W3.heap.size W3 w4 → Mod [W.heap.size + 1] w4 w5 → RsP (15, many, nil0) W (.returned (.tuple #[nv nil0, .int .i64 (many : Int), .int .i64 15])) w5 := fun w4 w5 h1 h2 => RsP.no (r := (15, many, nil0)) (by simp) hB h1 (W.heap.size + 1) (by omega) h2
  have HNo := Lib.hid hno
  have HL0 := Lib.hid hl0
  clear hno hfi l2 l4 l6 hB hW3 hnl hIs hC hres hb3 z3 hk' hl0
  go_enter Tryd.func28, Tryd.ntmps28
  go_upto_region 2 with (fail)
  rw [HW3.out]
  go_wp2_with fail
  with_reducible refine HFi.out.mono ?_
  rintro e w4 ⟨r, rfl, hfp, hbw⟩
  obtain rfl : r = -1 := by
    rcases hfp with ⟨h, _⟩ | ⟨j, hj, _, _, h⟩
    · exact h
    · rw [HL0.out] at h; cases h
  have l4w := (hbw.block _ (block_lt H4.out)).trans H4.out
  have l6w := (hbw.block _ (block_lt H6.out)).trans H6.out
  obtain ⟨u0, u1, u2, u3, u4, u5, u6, u7, u8⟩ := nd_cells l6w
  obtain ⟨d0, d1, d2, d3, d4, d5, d6, d7, d8⟩ := nd_cells l4w
  obtain ⟨f0, f1, f2, f3, f4, f5, f6, f7, f8⟩ := frz9 l4w
  have hpb := put9_block l4w (.int .i64 0) (.int .u64 0) (.int .u64 0) (.int .u64 0) (.int .u64 0) (.slice none 0 0) (.int .i64 0) (.int .i64 0) (.string ⟨#[]⟩)
  have hre := HNo.out w4 _ hbw (put9_mod w4 (W.heap.size + 1) (.int .i64 0) (.int .u64 0) (.int .u64 0) (.int .u64 0) (.int .u64 0) (.slice none 0 0) (.int .i64 0) (.int .i64 0) (.string ⟨#[]⟩))
  have HRe := Lib.hid hre
  have HPb := Lib.hid hpb
  clear hre hpb l4w l6w hbw hfp
  go_wp2
  ((try simp only [Exit.inBlock, Exit.then]); refine bodyPost_ret (Kt.results_cell3_row rfl _ _ (W.heap.size + 1) 44 _ (0, 0) _ rfl (HPb.out) Tryd.underlying44 rfl ?hi3) rfl ?_; (case hi3 => kernel_rfl))
  exact HRe.out
set_option maxRecDepth 100000 in
set_option maxHeartbeats 1000000 in
theorem rs_loop (w0 : World) (q f : Nat) (ra : Option Addr) (rc rn : Nat) (X : List Nat) (Ts : Bks) (hrb : RB w0 q ra rc rn X Ts)
    (path : List (List UInt8)) (lv many : Nat) {k : Int} {s : List Nat} {mn mx : Int} {t : List UInt8} {a : Option Addr} {c : Nat} {ks : List Nd} (W : World) (pa : Option Addr) (pn pc : Nat) (hC : RsC w0 (erB Ts) (f + 1) path lv many (.mk k s mn mx t a c ks) W pa pn pc) (hk : k = 5) (m0 : Nd) (hl0 : lkS Ts t = some m0) (hin : t ∈ path) :
    Calls Tryd.prog 28 #[.pointer (some ⟨q, 0, none⟩), nv (.mk k s mn mx t a c ks), .int .i64 (lv : Int), .int .i64 (many : Int), .slice pa pn pc] W (RsP (spr (erB Ts) (f + 1) path lv many (er (.mk k s mn mx t a c ks))) W) := by
  have hk' : (er (.mk k s mn mx t a c ks)).kind = 5 := hk
  have hres : spr (erB Ts) (f + 1) path lv many (er (.mk k s mn mx t a c ks)) = nres (erB Ts) f path lv many t := by
    unfold spr nres
    rw [if_pos hk']
    rfl
  rw [hres]
  rw [show nres (erB Ts) f path lv many t = (8, many, nil0) by rw [nres, lkS_er, hl0]; simp [hin]]
  have hIs : Is W.heap.size W (.mk k s mn mx t a c ks) := Is.mono hC.hb.size (Is.below hC.hb hC.hi)
  obtain ⟨x0, x1, x2, x3, hl⟩ := four' hIs.1
  subst hl
  have hnv : nv (.mk k [x0, x1, x2, x3] mn mx t a c ks) = .agg #[.int .i64 k, .int .u64 (x0 : Int), .int .u64 (x1 : Int), .int .u64 (x2 : Int), .int .u64 (x3 : Int), .slice a ks.length c, .int .i64 mn, .int .i64 mx, .string (Str t)] := rfl
  rw [hnv]
  clear hnv
  obtain ⟨nl, hnl⟩ : ∃ nl, ks.length = nl := ⟨_, rfl⟩
  rw [hnl]
  obtain ⟨B2, hB2⟩ : ∃ B2, Obj.cells #[.int .i64 k, .int .u64 (x0 : Int), .int .u64 (x1 : Int), .int .u64 (x2 : Int), .int .u64 (x3 : Int), .slice a nl c, .int .i64 mn, .int .i64 mx, .string (Str t)] 44 (0, 0) = B2 := ⟨_, rfl⟩
  obtain ⟨B4, hB4⟩ : ∃ B4, Obj.cells #[.int .i64 0, .int .u64 0, .int .u64 0, .int .u64 0, .int .u64 0, .slice none 0 0, .int .i64 0, .int .i64 0, .string ⟨#[]⟩] 44 (0, 0) = B4 := ⟨_, rfl⟩
  have z1 : (W.alloc B2).heap.size = W.heap.size + 1 := by simp
  have z2 : ((W.alloc B2).alloc B4).heap.size = W.heap.size + 2 := by simp
  have l2 : (((W.alloc B2).alloc B4).alloc B4).heap[W.heap.size]? = some B2 := block_alloc (block_alloc (World.alloc_heap_new W B2))
  have l4 : (((W.alloc B2).alloc B4).alloc B4).heap[W.heap.size + 1]? = some B4 := block_alloc (by rw [← z1]; exact World.alloc_heap_new _ B4)
  have l6 : (((W.alloc B2).alloc B4).alloc B4).heap[W.heap.size + 2]? = some B4 := by rw [← z2]; exact World.alloc_heap_new _ B4
  have hB : Below W.heap.size W (((W.alloc B2).alloc B4).alloc B4) := (((Below.refl _ W).alloc (Nat.le_refl _) _).alloc (by simp) _).alloc (by simp; omega) _
  obtain ⟨W3, hW3⟩ : ∃ W3, ((W.alloc B2).alloc B4).alloc B4 = W3 := ⟨_, rfl⟩
  have z3 : W3.heap.size = W.heap.size + 3 := by rw [← hW3]; simp
  rw [hW3] at l2 l4 l6 hB
  rw [← hB2, ← hB4] at hW3
  rw [← hB2] at l2
  rw [← hB4] at l4 l6
  clear hB2 hB4 z1 z2 B2 B4
  have hb3 := hC.hb.trans (hB.mono hC.hb.size)
  have HW3 := Lib.hid hW3
  have HB := Lib.hid hB
  have HZ := Lib.hid z3
  have H2 := Lib.hid l2
  have H4 := Lib.hid l4
  have H6 := Lib.hid l6
  have hfi := rfind_c q ra rc rn X Ts t W3 (hrb.mod (Mod.of_below hb3 []) (by simp))
  have HFi := Lib.hid hfi
  obtain ⟨_, _, _, _, _, _, _, _, u8⟩ := nd_cells l2
  have u0 : W3.cell? ⟨W.heap.size, 0, none⟩ = some (.int .i64 k) := cell_block l2 0
  subst hk
  have hrp := hC.hr
  have hpn := hC.hn
  have HPr := Lib.hid (And.intro hrp hpn)
  have hpn6 : pn ≤ 1000 := by have h2 := nodup_le hC.nd hC.hp; have := hrb.le; have := hrb.hn; simp [erB] at h2; omega
  have hno : ∀ w4 w5, Below W3.heap.size W3 w4 → Mod [W.heap.size + 1] w4 w5 → RsP (8, many, nil0) W (.returned (.tuple #[nv nil0, .int .i64 (many : Int), .int .i64 8])) w5 := fun w4 w5 h1 h2 => RsP.no (r := (8, many, nil0)) (by simp) hB h1 (W.heap.size + 1) (by omega) h2
  have HNo := Lib.hid hno
  have HL0 := Lib.hid (And.intro hl0 hin)
  clear hno hfi l2 l4 l6 hW3 hnl hIs hres hb3 z3 hk' hl0 hrp hpn hin
  have hCb := Lib.hid (And.intro hC hB)
  clear hC hB
  go_enter Tryd.func28, Tryd.ntmps28
  go_upto_region 2 with (fail)
  rw [HW3.out]
  go_wp2_with fail
  with_reducible refine HFi.out.mono ?_
  rintro e w4 ⟨r, rfl, hfp, hbw⟩
  obtain ⟨j, hjr⟩ : ∃ j : Nat, r = (j : Int) := by
    rcases hfp with ⟨_, h⟩ | ⟨j, hj, h, _, _⟩
    · rw [HL0.out.1] at h; cases h
    · exact ⟨j, h⟩
  subst hjr
  have hj0 : ¬ (j : Int) < 0 := by omega
  have u84 : w4.cell? ⟨W.heap.size, 8, none⟩ = some (.string (Str t)) := cell_block ((hbw.block _ (block_lt H2.out)).trans H2.out) 8
  have HBw := Lib.hid hbw
  clear hfp hbw u0 u8
  go_wp2_with fail
  go_loopw [37] (fun i V => ∃ jj : Nat, jj ≤ pn ∧ i = .int .i64 (jj : Int) ∧ V = w4 ∧ t ∉ path.take jj) (fun i _ => pn - (intOf i).toNat)
  case atStart => exact ⟨0, Nat.zero_le _, rfl, rfl, by simp⟩
  case round =>
    obtain ⟨jj, hj, rfl, rfl, hnin⟩ := hrel
    by_cases hjl : jj < pn
    · obtain ⟨hrp, hpn⟩ := HPr.out
      have hjk : jj < path.length := by omega
      obtain ⟨hC, hB⟩ := hCb.out
      obtain ⟨b, off, rfl, e1⟩ := (hrp.keep (hB.trans (HBw.out.mono hB.size))).map_at jj hjk
      have hnx : path[jj] ≠ t → t ∉ path.take (jj + 1) := fun hne hm => by
        rw [List.take_add_one, List.getElem?_eq_getElem hjk, Option.toList_some] at hm
        rcases List.mem_append.1 hm with hm | hm
        · exact hnin hm
        · simp only [List.mem_singleton] at hm; exact hne hm.symm
      generalize path[jj] = x at *
      have HX := Lib.hid hnx
      clear hnx hrp hpn hnin hC hB
      by_cases hxt : x = t
      · subst hxt
        have hbw := HBw.out
        have l4w := (hbw.block _ (block_lt H4.out)).trans H4.out
        have l6w := (hbw.block _ (block_lt H6.out)).trans H6.out
        obtain ⟨u0, u1, u2, u3, u4, u5, u6, u7, u8⟩ := nd_cells l6w
        obtain ⟨d0, d1, d2, d3, d4, d5, d6, d7, d8⟩ := nd_cells l4w
        obtain ⟨f0, f1, f2, f3, f4, f5, f6, f7, f8⟩ := frz9 l4w
        have hpb := put9_block l4w (.int .i64 0) (.int .u64 0) (.int .u64 0) (.int .u64 0) (.int .u64 0) (.slice none 0 0) (.int .i64 0) (.int .i64 0) (.string ⟨#[]⟩)
        have hre := HNo.out wr _ hbw (put9_mod wr (W.heap.size + 1) (.int .i64 0) (.int .u64 0) (.int .u64 0) (.int .u64 0) (.int .u64 0) (.slice none 0 0) (.int .i64 0) (.int .i64 0) (.string ⟨#[]⟩))
        have HRe := Lib.hid hre
        have HPb := Lib.hid hpb
        clear hre hpb l4w l6w hbw
        go_wp2
        ((try simp only [Exit.inBlock, Exit.then]); refine bodyPost_ret (Kt.results_cell3_row rfl _ _ (W.heap.size + 1) 44 _ (0, 0) _ rfl (HPb.out) Tryd.underlying44 rfl ?hi4) rfl ?_; (case hi4 => kernel_rfl))
        exact HRe.out
      · have hnb : ((Str x).toList == (Str t).toList) = false := by rw [Str_list, Str_list]; simp [hxt]
        go_wp2
        go_roundw
        case rel => exact ⟨jj + 1, by omega, by go_num, by first | rfl | trivial, HX.out (by first | exact hxt | trivial)⟩
        case measure => simp [intOf]; omega
    · exfalso
      rw [List.take_of_length_le (by have := HPr.out.2; omega)] at hnin
      exact hnin HL0.out.2
theorem appS1 (b0 : Nat) (U : World) (z m c : Nat) (a : Option Addr) (l : List (List UInt8)) (own0 : U.ownsRow b0 9 1 (.slice (some ⟨z, 0, none⟩) 0 0) 0 []) (hb : b0 ≤ U.heap.size) (hl : l.length = m) (hm : m ≤ 1000000) (hr : Rd U a (strs l)) (hno : a = none → c = 0) :
    ∃ a1 c1 w1, (Builtin.append_ #[38, 38] 38 #[.slice (some ⟨z, 0, none⟩) 0 0, .slice a m c]).run Tryd.prog U = .ok (.slice a1 m c1) w1 ∧ w1.ownsRow b0 9 1 (.slice a1 m c1) m (strs l) ∧ Mod [z] U w1 ∧ Below b0 U w1 := by
  obtain ⟨v1, w1, hrun1, own1, gr1, _⟩ := elStr.append b0 (ty := 38) own0 m c (by simp [hl]) hr hno (by intro u hu; obtain ⟨x, _, rfl⟩ := List.mem_map.1 hu; rfl) (by unfold maxLen; omega) (by omega) hb
  simp only [Nat.zero_add, List.nil_append] at hrun1 own1
  obtain ⟨a1, c1, rfl, _⟩ := rd_own own1
  exact ⟨a1, c1, w1, hrun1, own1, (Mod.refl [z] U).grown gr1 (fun k hk => .inl (by simp [Value.ownBlock] at hk; simp [hk])), below_grown own0 gr1 (Nat.le_refl _) hb⟩
theorem appS2 (b0 : Nat) (U : World) (y m c1 : Nat) (a1 : Option Addr) (l : List (List UInt8)) (x : List UInt8) (own1 : U.ownsRow b0 9 1 (.slice a1 m c1) m (strs l)) (hb : b0 ≤ U.heap.size) (hm : m ≤ 1000000) (hr : Rd U (some ⟨y, 0, none⟩) [.string (Str x)]) :
    ∃ av c2 w2, (Builtin.append_ #[38, 38] 38 #[.slice a1 m c1, .slice (some ⟨y, 0, none⟩) 1 1]).run Tryd.prog U = .ok (.slice av (m + 1) c2) w2 ∧ w2.ownsRow b0 9 1 (.slice av (m + 1) c2) (m + 1) (strs (l ++ [x])) ∧ Below b0 U w2 := by
  obtain ⟨v2, w2, hrun2, own2, gr2, _⟩ := elStr.append b0 (ty := 38) own1 1 1 rfl hr (fun h => by cases h) (by intro u hu; simp at hu; subst hu; rfl) (by unfold maxLen; omega) (by omega) hb
  obtain ⟨av, c2, rfl, _⟩ := rd_own own2
  exact ⟨av, c2, w2, hrun2, by simpa [strs] using own2, below_grown own1 gr2 (Nat.le_refl _) hb⟩
set_option maxRecDepth 100000 in
set_option maxHeartbeats 1000000 in
theorem rs_name (w0 : World) (q f : Nat) (ra : Option Addr) (rc rn : Nat) (X : List Nat) (Ts : Bks) (hrb : RB w0 q ra rc rn X Ts)
    (path : List (List UInt8)) (lv many : Nat) {k : Int} {s : List Nat} {mn mx : Int} {t : List UInt8} {a : Option Addr} {c : Nat} {ks : List Nd} (W : World) (pa : Option Addr) (pn pc : Nat) (hC : RsC w0 (erB Ts) (f + 1) path lv many (.mk k s mn mx t a c ks) W pa pn pc) (hk : k = 5) (m0 : Nd) (hl0 : lkS Ts t = some m0) (hin : t ∉ path) (hsp : ∀ path lv many n W pa pn pc, RsC w0 (erB Ts) f path lv many n W pa pn pc → Calls Tryd.prog 28 #[.pointer (some ⟨q, 0, none⟩), nv n, .int .i64 (lv : Int), .int .i64 (many : Int), .slice pa pn pc] W (RsP (spr (erB Ts) f path lv many (er n)) W)) :
    Calls Tryd.prog 28 #[.pointer (some ⟨q, 0, none⟩), nv (.mk k s mn mx t a c ks), .int .i64 (lv : Int), .int .i64 (many : Int), .slice pa pn pc] W (RsP (spr (erB Ts) (f + 1) path lv many (er (.mk k s mn mx t a c ks))) W) := by
  have hk' : (er (.mk k s mn mx t a c ks)).kind = 5 := hk
  have hres : spr (erB Ts) (f + 1) path lv many (er (.mk k s mn mx t a c ks)) = nres (erB Ts) f path lv many t := by
    unfold spr nres
    rw [if_pos hk']
    rfl
  rw [hres]
  have hl1 : lkS (erB Ts) t = some (er m0) := by rw [lkS_er, hl0]; rfl
  rw [show nres (erB Ts) f path lv many t = spr (erB Ts) f (path ++ [t]) lv many (er m0) by rw [nres, hl1]; simp [hin]]
  obtain ⟨rr, hrr⟩ : ∃ rr, spr (erB Ts) f (path ++ [t]) lv many (er m0) = rr := ⟨_, rfl⟩
  rw [hrr]
  have hIs : Is W.heap.size W (.mk k s mn mx t a c ks) := Is.mono hC.hb.size (Is.below hC.hb hC.hi)
  obtain ⟨x0, x1, x2, x3, hl⟩ := four' hIs.1
  subst hl
  have hnv : nv (.mk k [x0, x1, x2, x3] mn mx t a c ks) = .agg #[.int .i64 k, .int .u64 (x0 : Int), .int .u64 (x1 : Int), .int .u64 (x2 : Int), .int .u64 (x3 : Int), .slice a ks.length c, .int .i64 mn, .int .i64 mx, .string (Str t)] := rfl
  rw [hnv]
  clear hnv
  obtain ⟨nl, hnl⟩ : ∃ nl, ks.length = nl := ⟨_, rfl⟩
  rw [hnl]
  obtain ⟨B2, hB2⟩ : ∃ B2, Obj.cells #[.int .i64 k, .int .u64 (x0 : Int), .int .u64 (x1 : Int), .int .u64 (x2 : Int), .int .u64 (x3 : Int), .slice a nl c, .int .i64 mn, .int .i64 mx, .string (Str t)] 44 (0, 0) = B2 := ⟨_, rfl⟩
  obtain ⟨B4, hB4⟩ : ∃ B4, Obj.cells #[.int .i64 0, .int .u64 0, .int .u64 0, .int .u64 0, .int .u64 0, .slice none 0 0, .int .i64 0, .int .i64 0, .string ⟨#[]⟩] 44 (0, 0) = B4 := ⟨_, rfl⟩
  have z1 : (W.alloc B2).heap.size = W.heap.size + 1 := by simp
  have z2 : ((W.alloc B2).alloc B4).heap.size = W.heap.size + 2 := by simp
  have l2 : (((W.alloc B2).alloc B4).alloc B4).heap[W.heap.size]? = some B2 := block_alloc (block_alloc (World.alloc_heap_new W B2))
  have l4 : (((W.alloc B2).alloc B4).alloc B4).heap[W.heap.size + 1]? = some B4 := block_alloc (by rw [← z1]; exact World.alloc_heap_new _ B4)
  have l6 : (((W.alloc B2).alloc B4).alloc B4).heap[W.heap.size + 2]? = some B4 := by rw [← z2]; exact World.alloc_heap_new _ B4
  have hB : Below W.heap.size W (((W.alloc B2).alloc B4).alloc B4) := (((Below.refl _ W).alloc (Nat.le_refl _) _).alloc (by simp) _).alloc (by simp; omega) _
  obtain ⟨W3, hW3⟩ : ∃ W3, ((W.alloc B2).alloc B4).alloc B4 = W3 := ⟨_, rfl⟩
  have z3 : W3.heap.size = W.heap.size + 3 := by rw [← hW3]; simp
  rw [hW3] at l2 l4 l6 hB
  rw [← hB2, ← hB4] at hW3
  rw [← hB2] at l2
  rw [← hB4] at l4 l6
  clear hB2 hB4 z1 z2 B2 B4
  have hb3 := hC.hb.trans (hB.mono hC.hb.size)
  have HW3 := Lib.hid hW3
  have HB := Lib.hid hB
  have HZ := Lib.hid z3
  have H2 := Lib.hid l2
  have H4 := Lib.hid l4
  have H6 := Lib.hid l6
  have hfi := rfind_c q ra rc rn X Ts t W3 (hrb.mod (Mod.of_below hb3 []) (by simp))
  have HFi := Lib.hid hfi
  obtain ⟨_, _, _, _, _, _, _, _, u8⟩ := nd_cells l2
  have u0 : W3.cell? ⟨W.heap.size, 0, none⟩ = some (.int .i64 k) := cell_block l2 0
  subst hk
  have hrp := hC.hr
  have hpn := hC.hn
  have HPr := Lib.hid (And.intro hrp hpn)
  have hpn6 : pn ≤ 1000 := by have h2 := nodup_le hC.nd hC.hp; have := hrb.le; have := hrb.hn; simp [erB] at h2; omega
  obtain ⟨g1, g2, g3⟩ := path_room hC.nd hC.hp hl1 hin
  have hrbW := fun (V : World) (hb : Below w0.heap.size w0 V) => hrb.mod (Mod.of_below hb []) (by simp)
  have hm0t := hrb.ht _ (lkS_mem hl0)
  have HL0 := Lib.hid (And.intro hl0 (And.intro hin (And.intro g1 (And.intro g2 (And.intro g3 hm0t)))))
  have HRb := Lib.hid (And.intro hrb hrbW)
  have hCb := Lib.hid (And.intro hC (And.intro hB (And.intro hb3 hrr)))
  have HSp := Lib.hid hsp
  clear hfi l2 l4 l6 hW3 hnl hIs hres hb3 z3 hk' hl0 hrp hpn hin hC hB g1 g2 g3 hm0t hrbW hsp hl1 hrr
  go_enter Tryd.func28, Tryd.ntmps28
  go_upto_region 2 with (fail)
  rw [HW3.out]
  go_wp2_with fail
  with_reducible refine HFi.out.mono ?_
  rintro e w4 ⟨r, rfl, hfp, hbw⟩
  obtain ⟨j, hj, hjr, hjt⟩ : ∃ (j : Nat) (hj : j < Ts.length), r = (j : Int) ∧ Ts[j].2 = m0 := by
    rcases hfp with ⟨_, h⟩ | ⟨j, hj, h, _, h2⟩
    · rw [HL0.out.1] at h; cases h
    · refine ⟨j, hj, h, ?_⟩
      rw [HL0.out.1] at h2
      exact (Option.some.inj h2).symm
  subst hjr
  have hj0 : ¬ (j : Int) < 0 := by omega
  have u84 : w4.cell? ⟨W.heap.size, 8, none⟩ = some (.string (Str t)) := cell_block ((hbw.block _ (block_lt H2.out)).trans H2.out) 8
  have HBw := Lib.hid hbw
  have HJ := Lib.hid (And.intro hj hjt)
  clear hfp hbw u0 u8
  go_wp2_with fail
  go_loopw [37] (fun i V => ∃ jj : Nat, jj ≤ pn ∧ i = .int .i64 (jj : Int) ∧ V = w4) (fun i _ => pn - (intOf i).toNat)
  case atStart => exact ⟨0, Nat.zero_le _, rfl, rfl⟩
  case round =>
    obtain ⟨jj, hj2, rfl, rfl⟩ := hrel
    obtain ⟨hC, hB, hb3, hrr⟩ := hCb.out
    by_cases hjl : jj < pn
    · obtain ⟨hrp, hpn⟩ := HPr.out
      have hjk : jj < path.length := by omega
      obtain ⟨b, off, rfl, e1⟩ := (hrp.keep (hB.trans (HBw.out.mono hB.size))).map_at jj hjk
      have hxt : path[jj] ≠ t := fun e => HL0.out.2.1 (e ▸ List.getElem_mem hjk)
      generalize path[jj] = x at *
      have hnb : ((Str x).toList == (Str t).toList) = false := by rw [Str_list, Str_list]; simp [hxt]
      clear hrp hpn hC hB hb3 hrr
      go_wp2
      go_roundw
      case rel => exact ⟨jj + 1, by omega, by go_num, by first | rfl | trivial⟩
      case measure => simp [intOf]; omega
    · have hjl2 : ¬ (jj : Int) < (pn : Int) := by omega
      obtain ⟨hj, hjt⟩ := HJ.out
      obtain ⟨hl0, hin, g1, g2, g3, hm0i, hm0r, _⟩ := HL0.out
      obtain ⟨hrp, hpn⟩ := HPr.out
      have hno := hC.hno
      have hz3 := HZ.out
      have hbw := HBw.out
      have hzw := hbw.size
      have hB4 : Below W.heap.size W wr := hB.trans (hbw.mono hB.size)
      have hb04 : Below w0.heap.size w0 wr := hb3.trans (hbw.mono hb3.size)
      have hrp4 := hrp.keep hB4
      have hRB4 := HRb.out.2 wr hb04
      have hcall : ∀ (V : World) (av : Option Addr) (c2 : Nat), V.ownsRow wr.heap.size 9 1 (.slice av (pn + 1) c2) (pn + 1) (strs (path ++ [t])) → Below wr.heap.size wr V → Calls Tryd.prog 28 #[.pointer (some ⟨q, 0, none⟩), nv m0, .int .i64 (lv : Int), .int .i64 (many : Int), .slice av (pn + 1) c2] V (RsP rr V) := fun V av c2 ho hb => by
        have := HSp.out (path ++ [t]) lv many m0 V av (pn + 1) c2 ⟨hb04.trans (hb.mono hb04.size), Rd.own ho, by simp [hpn], fun h => by subst h; exact (own_none ho).1, g1, g2, hC.hv, hC.hm, by rw [List.length_append, List.length_cons, List.length_nil]; have := hC.hf; omega, hm0i, rgt_sz hm0r⟩
        rw [hrr] at this
        exact this
      have hre0 : ∀ (V g2 : World) (m : Nd), Below wr.heap.size wr V → Below V.heap.size V g2 → (rr.1 = 0 → er m = rr.2.2) → Is g2.heap.size g2 m → Bl (V.heap.size ≤ ·) m → ∀ w5, Mod [W.heap.size + 1] g2 w5 → RsP rr W (.returned (.tuple #[nv m, .int .i64 (rr.2.1 : Int), .int .i64 rr.1])) w5 := fun V g2 m c1 c2 c3 c4 c5 w5 c6 => by
        have e1 := c1.size
        have e2 := (hB4.trans (c1.mono hB4.size)).trans (c2.mono (by have := hB4.size; omega))
        exact ⟨m, rfl, c3, is_mod c4 c5 c6 (fun b hb => .inl fun hq => by simp at hb; omega), c5.mono fun b hb => by have := hB4.size; omega, e2.trans (c6.toBelow e2.size (by simp))⟩
      have l44 := (hbw.block _ (block_lt H4.out)).trans H4.out
      have l24 := (hbw.block _ (block_lt H2.out)).trans H2.out
      obtain ⟨rb, ro, rfl, hcs⟩ := hRB4.at j hj
      have hset := hm0i.len
      rw [hjt.symm] at hset hcall
      obtain ⟨⟨nm, kid⟩, hkd⟩ : ∃ x, Ts[j] = x := ⟨_, rfl⟩
      rw [hkd] at hcs hset hcall
      simp only at hcall
      obtain ⟨y0, y1, y2, y3, hys⟩ := four' hset
      obtain ⟨kk, ksx, kmn, kmx, kt, ka, kc, kks⟩ := kid
      simp only [Nd.set] at hys
      subst hys
      have hnvk : nv (.mk kk [y0, y1, y2, y3] kmn kmx kt ka kc kks) = .agg #[.int .i64 kk, .int .u64 (y0 : Int), .int .u64 (y1 : Int), .int .u64 (y2 : Int), .int .u64 (y3 : Int), .slice ka kks.length kc, .int .i64 kmn, .int .i64 kmx, .string (Str kt)] := rfl
      rw [hnvk] at hcall
      obtain ⟨kl, hkl⟩ : ∃ kl, kks.length = kl := ⟨_, rfl⟩
      rw [hkl] at hcall
      have hrbl : rb < w0.heap.size := by
        obtain ⟨p', hp', hl'⟩ := HRb.out.1.hr.lt (dflat_ne (by intro h; rw [h] at hj; simp at hj))
        cases hp'
        exact hl'
      have hW0 := hC.hb.size
      have hqb := hRB4.hq
      have hq0 := block_lt HRb.out.1.hq
      have skc : ∀ V : World, V.heap[q]? = wr.heap[q]? → V.heap[rb]? = wr.heap[rb]? → V.heap[W.heap.size]? = wr.heap[W.heap.size]? → V.cell? ⟨q, 0, none⟩ = some (.slice (some ⟨rb, ro, none⟩) rn rc) ∧ V.cell? ⟨rb, ro + j * 10 + 1, none⟩ = some (.int .i64 kk) ∧ V.cell? ⟨rb, ro + j * 10 + 1 + 1, none⟩ = some (.int .u64 (y0 : Int)) ∧ V.cell? ⟨rb, ro + j * 10 + 1 + 2, none⟩ = some (.int .u64 (y1 : Int)) ∧ V.cell? ⟨rb, ro + j * 10 + 1 + 3, none⟩ = some (.int .u64 (y2 : Int)) ∧ V.cell? ⟨rb, ro + j * 10 + 1 + 4, none⟩ = some (.int .u64 (y3 : Int)) ∧ V.cell? ⟨rb, ro + j * 10 + 1 + 5, none⟩ = some (.slice ka kl kc) ∧ V.cell? ⟨rb, ro + j * 10 + 1 + 6, none⟩ = some (.int .i64 kmn) ∧ V.cell? ⟨rb, ro + j * 10 + 1 + 7, none⟩ = some (.int .i64 kmx) ∧ V.cell? ⟨rb, ro + j * 10 + 1 + 8, none⟩ = some (.string (Str kt)) ∧ V.cell? ⟨W.heap.size, 8, none⟩ = some (.string (Str t)) := fun V c1 c2 c3 => by
        have hc := fun (i : Nat) (x : Value) (hi : (dcells (nm, Nd.mk kk [y0, y1, y2, y3] kmn kmx kt ka kc kks))[i]? = some x) (h10 : i < 10) => ((World.cell?_of_block (w := wr) (a := ⟨rb, ro + (j * 10 + i), none⟩) c2).trans (hcs i x hi h10) : V.cell? ⟨rb, ro + (j * 10 + i), none⟩ = some x)
        refine ⟨cell_block (c1.trans hqb) 0, ?_, ?_, ?_, ?_, ?_, ?_, ?_, ?_, ?_, cell_block (c3.trans l24) 8⟩
        · have := hc 1 _ rfl (by omega); rw [← Nat.add_assoc] at this; exact this
        · have := hc 2 _ rfl (by omega); rw [← Nat.add_assoc] at this; exact this
        · have := hc 3 _ rfl (by omega); rw [← Nat.add_assoc] at this; exact this
        · have := hc 4 _ rfl (by omega); rw [← Nat.add_assoc] at this; exact this
        · have := hc 5 _ rfl (by omega); rw [← Nat.add_assoc] at this; exact this
        · have := hc 6 _ rfl (by omega); rw [← Nat.add_assoc] at this; rw [← hkl]; exact this
        · have := hc 7 _ rfl (by omega); rw [← Nat.add_assoc] at this; exact this
        · have := hc 8 _ rfl (by omega); rw [← Nat.add_assoc] at this; exact this
        · have := hc 9 _ rfl (by omega); rw [← Nat.add_assoc] at this; exact this
      have hqw := block_lt hqb
      have hl2w := block_lt l24
      have sk : ∀ V : World, Below wr.heap.size wr V → V.cell? ⟨q, 0, none⟩ = some (.slice (some ⟨rb, ro, none⟩) rn rc) ∧ V.cell? ⟨rb, ro + j * 10 + 1, none⟩ = some (.int .i64 kk) ∧ V.cell? ⟨rb, ro + j * 10 + 1 + 1, none⟩ = some (.int .u64 (y0 : Int)) ∧ V.cell? ⟨rb, ro + j * 10 + 1 + 2, none⟩ = some (.int .u64 (y1 : Int)) ∧ V.cell? ⟨rb, ro + j * 10 + 1 + 3, none⟩ = some (.int .u64 (y2 : Int)) ∧ V.cell? ⟨rb, ro + j * 10 + 1 + 4, none⟩ = some (.int .u64 (y3 : Int)) ∧ V.cell? ⟨rb, ro + j * 10 + 1 + 5, none⟩ = some (.slice ka kl kc) ∧ V.cell? ⟨rb, ro + j * 10 + 1 + 6, none⟩ = some (.int .i64 kmn) ∧ V.cell? ⟨rb, ro + j * 10 + 1 + 7, none⟩ = some (.int .i64 kmx) ∧ V.cell? ⟨rb, ro + j * 10 + 1 + 8, none⟩ = some (.string (Str kt)) ∧ V.cell? ⟨W.heap.size, 8, none⟩ = some (.string (Str t)) := fun V hb => skc V (hb.block _ hqw) (hb.block _ (by omega)) (hb.block _ hl2w)
      have sk2 : ∀ g2 V : World, Below wr.heap.size wr g2 → Mod [W.heap.size + 1] g2 V → V.cell? ⟨q, 0, none⟩ = some (.slice (some ⟨rb, ro, none⟩) rn rc) ∧ V.cell? ⟨rb, ro + j * 10 + 1, none⟩ = some (.int .i64 kk) ∧ V.cell? ⟨rb, ro + j * 10 + 1 + 1, none⟩ = some (.int .u64 (y0 : Int)) ∧ V.cell? ⟨rb, ro + j * 10 + 1 + 2, none⟩ = some (.int .u64 (y1 : Int)) ∧ V.cell? ⟨rb, ro + j * 10 + 1 + 3, none⟩ = some (.int .u64 (y2 : Int)) ∧ V.cell? ⟨rb, ro + j * 10 + 1 + 4, none⟩ = some (.int .u64 (y3 : Int)) ∧ V.cell? ⟨rb, ro + j * 10 + 1 + 5, none⟩ = some (.slice ka kl kc) ∧ V.cell? ⟨rb, ro + j * 10 + 1 + 6, none⟩ = some (.int .i64 kmn) ∧ V.cell? ⟨rb, ro + j * 10 + 1 + 7, none⟩ = some (.int .i64 kmx) ∧ V.cell? ⟨rb, ro + j * 10 + 1 + 8, none⟩ = some (.string (Str kt)) ∧ V.cell? ⟨W.heap.size, 8, none⟩ = some (.string (Str t)) := fun g2 V hb hm => by
        have e1 := hb.size
        exact skc V ((hm.block _ (by omega) (by simp; omega)).trans (hb.block _ hqw)) ((hm.block _ (by omega) (by simp; omega)).trans (hb.block _ (by omega))) ((hm.block _ (by omega) (by simp)).trans (hb.block _ hl2w))
      have HSk := Lib.hid sk
      have HSk2 := Lib.hid sk2
      have HRe0 := Lib.hid hre0
      have L44 := Lib.hid l44
      have own00 : ((wr.alloc (.cells #[] 9)).drew).ownsRow wr.heap.size 9 1 (.slice (some ⟨wr.heap.size, 0, none⟩) 0 0) 0 [] := World.ownsRow_made (base := wr.heap.size) (e := 9) (size := 1) wr #[] 0 (Nat.le_refl _) (by decide) rfl
      have z5 : (wr.alloc (.cells #[] 9)).heap.size = wr.heap.size + 1 := by simp
      have z5' : (wr.alloc (.cells #[.string (Str t)] 9)).heap.size = wr.heap.size + 1 := by simp
      have bA : Below wr.heap.size wr (wr.alloc (.cells #[] 9)).drew := ((Below.refl _ _).alloc (Nat.le_refl _) _).drew
      have bX : Below wr.heap.size wr (wr.alloc (.cells #[.string (Str t)] 9)).drew := ((Below.refl _ _).alloc (Nat.le_refl _) _).drew
      have bB : Below wr.heap.size wr ((wr.alloc (.cells #[] 9)).alloc (.cells #[.string (Str t)] 9)).drew := (((Below.refl _ _).alloc (Nat.le_refl _) _).alloc (by simp) _).drew
      have bC : Below wr.heap.size wr ((wr.alloc (.cells #[.string (Str t)] 9)).alloc (.cells #[] 9)).drew := (((Below.refl _ _).alloc (Nat.le_refl _) _).alloc (by simp) _).drew
      have hA1 := fun (U : World) (z : Nat) (own0 : U.ownsRow wr.heap.size 9 1 (.slice (some ⟨z, 0, none⟩) 0 0) 0 []) (hbU : Below wr.heap.size wr U) => appS1 wr.heap.size U z pn pc pa path own0 hbU.size hpn (by omega) (hrp4.keep hbU) hno
      have hA2 := fun (U : World) (y c1 : Nat) (a1 : Option Addr) (own1 : U.ownsRow wr.heap.size 9 1 (.slice a1 pn c1) pn (strs path)) (hb : wr.heap.size ≤ U.heap.size) (hr : Rd U (some ⟨y, 0, none⟩) [.string (Str t)]) => appS2 wr.heap.size U y pn c1 a1 path t own1 hb (by omega) hr
      obtain ⟨aA, cA, wA, runA, ownA, modA, belA⟩ := hA1 _ wr.heap.size own00 bA
      have bA1 := bA.trans (belA.mono (Nat.le_refl _))
      have ownA' := ownA.alloc (.cells #[.string (Str t)] 9)
      obtain ⟨aA2, cA2, wA2, runA2, ownA2, belA2⟩ := hA2 _ wA.heap.size cA aA ownA' (by simp; have := bA1.size; omega) (Rd.new _ _ _ _ _ rfl)
      have bA1' := bA1.alloc bA1.size (.cells #[.string (Str t)] 9)
      have bA2 := bA1'.trans belA2
      have own0B : (((wr.alloc (.cells #[] 9)).alloc (.cells #[.string (Str t)] 9)).drew).ownsRow wr.heap.size 9 1 (.slice (some ⟨wr.heap.size, 0, none⟩) 0 0) 0 [] := (World.ownsRow_made (base := wr.heap.size) (e := 9) (size := 1) wr #[] 0 (Nat.le_refl _) (by decide) rfl).alloc _
      obtain ⟨aB, cB, wB, runB, ownB, modB, belB⟩ := hA1 _ wr.heap.size own0B bB
      have bB1 := bB.trans belB
      have rdB : Rd ((wr.alloc (.cells #[] 9)).alloc (.cells #[.string (Str t)] 9)).drew (some ⟨wr.heap.size + 1, 0, none⟩) [.string (Str t)] := by
        have := Rd.new (wr.alloc (.cells #[] 9)) #[.string (Str t)] 9 (0, 0) [.string (Str t)] rfl
        rw [z5] at this
        exact this
      obtain ⟨aB2, cB2, wB2, runB2, ownB2, belB2⟩ := hA2 _ (wr.heap.size + 1) cB aB ownB bB1.size (rdB.mod modB (fun p hp => by simp only [Option.some.injEq] at hp; subst hp; simp))
      have bB2 := bB1.trans belB2
      have own0C : (((wr.alloc (.cells #[.string (Str t)] 9)).alloc (.cells #[] 9)).drew).ownsRow wr.heap.size 9 1 (.slice (some ⟨wr.heap.size + 1, 0, none⟩) 0 0) 0 [] := by
        have := World.ownsRow_made (base := wr.heap.size) (e := 9) (size := 1) (wr.alloc (.cells #[.string (Str t)] 9)) #[] 0 (by simp) (by decide) rfl
        rw [z5'] at this
        exact this
      obtain ⟨aC, cC, wC, runC, ownC, modC, belC⟩ := hA1 _ (wr.heap.size + 1) own0C bC
      have bC1 := bC.trans belC
      have rdC : Rd ((wr.alloc (.cells #[.string (Str t)] 9)).alloc (.cells #[] 9)).drew (some ⟨wr.heap.size, 0, none⟩) [.string (Str t)] := (Rd.new wr #[.string (Str t)] 9 (0, 0) [.string (Str t)] rfl).alloc _
      obtain ⟨aC2, cC2, wC2, runC2, ownC2, belC2⟩ := hA2 _ wr.heap.size cC aC ownC bC1.size (rdC.mod modC (fun p hp => by simp only [Option.some.injEq] at hp; subst hp; simp))
      have bC2 := bC1.trans belC2
      have HclA := Lib.hid (hcall wA2 aA2 cA2 ownA2 bA2)
      have HclB := Lib.hid (hcall wB2 aB2 cB2 ownB2 bB2)
      have HclC := Lib.hid (hcall wC2 aC2 cC2 ownC2 bC2)
      have HBs := Lib.hid (And.intro bA (And.intro bX (And.intro bB (And.intro bC (And.intro bA1 (And.intro bA1' (And.intro bA2 (And.intro bB1 (And.intro bB2 (And.intro bC1 bC2))))))))))
      have hjl3 : (j : Int) < (rn : Int) := by have := hRB4.hn; omega
      have hj00 : (0 : Int) ≤ (j : Int) := by omega
      clear own00 own0B own0C ownA ownA' ownA2 ownB ownB2 ownC ownC2 modA modB modC belA belA2 belB belB2 belC belC2 rdB rdC bA bX bB bC bA1 bA1' bA2 bB1 bB2 bC1 bC2 hA1 hA2 z5 z5' sk sk2 skc hre0 hcall l44 l24 hRB4 hqb hcs hset hrp4 hb04 hB4 hbw hl0 hin g1 g2 g3 hm0i hm0r hrp hC hB hb3 hrr hkd hkl hnvk
      go_upto_region 12 with (fail)
      have n0 : Below wr.heap.size wr wr.drew := (Below.refl _ _).drew
      refine wp_region_noPanic ?_
      refine wp_region_held_drew (S := fun V => V.cell? ⟨q, 0, none⟩ = some (.slice (some ⟨rb, ro, none⟩) rn rc) ∧ V.cell? ⟨rb, ro + j * 10 + 1, none⟩ = some (.int .i64 kk) ∧ V.cell? ⟨rb, ro + j * 10 + 1 + 1, none⟩ = some (.int .u64 (y0 : Int)) ∧ V.cell? ⟨rb, ro + j * 10 + 1 + 2, none⟩ = some (.int .u64 (y1 : Int)) ∧ V.cell? ⟨rb, ro + j * 10 + 1 + 3, none⟩ = some (.int .u64 (y2 : Int)) ∧ V.cell? ⟨rb, ro + j * 10 + 1 + 4, none⟩ = some (.int .u64 (y3 : Int)) ∧ V.cell? ⟨rb, ro + j * 10 + 1 + 5, none⟩ = some (.slice ka kl kc) ∧ V.cell? ⟨rb, ro + j * 10 + 1 + 6, none⟩ = some (.int .i64 kmn) ∧ V.cell? ⟨rb, ro + j * 10 + 1 + 7, none⟩ = some (.int .i64 kmx) ∧ V.cell? ⟨rb, ro + j * 10 + 1 + 8, none⟩ = some (.string (Str kt)) ∧ V.cell? ⟨W.heap.size, 8, none⟩ = some (.string (Str t))) (by kernel_rfl) (HSk.out _ n0) (fun hHeld => ?_)
      (refine wpAnyH_take (i := 0) (v := ?v0n1) (by simp only [List.getElem?_toArray, List.getElem?_cons_succ, List.getElem?_cons_zero]; rfl) (by kernel_rfl) (by kernel_rfl) (by kernel_rfl) (fun _ _ _ h => False.elim h) (Or.inl ⟨by rfl, ?hy0n1⟩) (by assumption) ?rest0n1; (case hy0n1 => (intro w hSw; (try dsimp only at hSw); go_simp; (try with_reducible rfl))); (try simp only [Act.put, List.setIfInBounds_toArray, List.set_cons_zero, List.set_cons_succ]))
      (refine wpAnyH_take (i := 1) (v := ?v1n2) (by simp only [List.getElem?_toArray, List.getElem?_cons_succ, List.getElem?_cons_zero]; rfl) (by kernel_rfl) (by kernel_rfl) (by kernel_rfl) (fun _ _ _ h => False.elim h) (Or.inl ⟨by rfl, ?hy1n2⟩) (by assumption) ?rest1n2; (case hy1n2 => (intro w hSw; (try dsimp only at hSw); go_simp; (try with_reducible rfl))); (try simp only [Act.put, List.setIfInBounds_toArray, List.set_cons_zero, List.set_cons_succ]))
      (refine wpAnyH_take (i := 2) (v := ?v2n3) (by simp only [List.getElem?_toArray, List.getElem?_cons_succ, List.getElem?_cons_zero]; rfl) (by kernel_rfl) (by kernel_rfl) (by kernel_rfl) (fun _ _ _ h => False.elim h) (Or.inl ⟨by rfl, ?hy2n3⟩) (by assumption) ?rest2n3; (case hy2n3 => (intro w hSw; (try dsimp only at hSw); go_simp; (try with_reducible rfl))); (try simp only [Act.put, List.setIfInBounds_toArray, List.set_cons_zero, List.set_cons_succ]))
      (refine wpAnyH_take (i := 3) (v := ?v3n4) (by simp only [List.getElem?_toArray, List.getElem?_cons_succ, List.getElem?_cons_zero]; rfl) (by kernel_rfl) (by kernel_rfl) (by kernel_rfl) (fun _ _ _ h => False.elim h) (Or.inl ⟨by rfl, ?hy3n4⟩) (by assumption) ?rest3n4; (case hy3n4 => (intro w hSw; (try dsimp only at hSw); go_simp; (try with_reducible rfl))); (try simp only [Act.put, List.setIfInBounds_toArray, List.set_cons_zero, List.set_cons_succ]))
      (refine wpAnyH_take (i := 4) (v := ?v4n5) (by simp only [List.getElem?_toArray, List.getElem?_cons_succ, List.getElem?_cons_zero]; rfl) (by kernel_rfl) (by kernel_rfl) (by kernel_rfl) (fun _ _ _ h => False.elim h) (Or.inl ⟨by rfl, ?hy4n5⟩) (by assumption) ?rest4n5; (case hy4n5 => (intro w hSw; (try dsimp only at hSw); go_simp; (try with_reducible rfl))); (try simp only [Act.put, List.setIfInBounds_toArray, List.set_cons_zero, List.set_cons_succ]))
      (refine wpAnyH_take (i := 5) (v := ?v5n6) (by simp only [List.getElem?_toArray, List.getElem?_cons_succ, List.getElem?_cons_zero]; rfl) (by kernel_rfl) (by kernel_rfl) (by kernel_rfl) (fun _ _ _ h => False.elim h) (Or.inl ⟨by rfl, ?hy5n6⟩) (by assumption) ?rest5n6; (case hy5n6 => (intro w hSw; (try dsimp only at hSw); go_simp; (try with_reducible rfl))); (try simp only [Act.put, List.setIfInBounds_toArray, List.set_cons_zero, List.set_cons_succ]))
      (refine wpAnyH_take (i := 6) (v := ?v6n7) (by simp only [List.getElem?_toArray, List.getElem?_cons_succ, List.getElem?_cons_zero]; rfl) (by kernel_rfl) (by kernel_rfl) (by kernel_rfl) (fun _ _ _ h => False.elim h) (Or.inl ⟨by rfl, ?hy6n7⟩) (by assumption) ?rest6n7; (case hy6n7 => (intro w hSw; (try dsimp only at hSw); go_simp; (try with_reducible rfl))); (try simp only [Act.put, List.setIfInBounds_toArray, List.set_cons_zero, List.set_cons_succ]))
      (refine wpAnyH_take (i := 7) (v := ?v7n8) (by simp only [List.getElem?_toArray, List.getElem?_cons_succ, List.getElem?_cons_zero]; rfl) (by kernel_rfl) (by kernel_rfl) (by kernel_rfl) (fun _ _ _ h => False.elim h) (Or.inl ⟨by rfl, ?hy7n8⟩) (by assumption) ?rest7n8; (case hy7n8 => (intro w hSw; (try dsimp only at hSw); go_simp; (try with_reducible rfl))); (try simp only [Act.put, List.setIfInBounds_toArray, List.set_cons_zero, List.set_cons_succ]))
      (refine wpAnyH_take (i := 8) (v := ?v8n9) (by simp only [List.getElem?_toArray, List.getElem?_cons_succ, List.getElem?_cons_zero]; rfl) (by kernel_rfl) (by kernel_rfl) (by kernel_rfl) (fun _ _ _ h => False.elim h) (Or.inl ⟨by rfl, ?hy8n9⟩) (by assumption) ?rest8n9; (case hy8n9 => (intro w hSw; (try dsimp only at hSw); go_simp; (try with_reducible rfl))); (try simp only [Act.put, List.setIfInBounds_toArray, List.set_cons_zero, List.set_cons_succ]))
      (refine wpAnyH_take (i := 9) (v := ?v9n10) (by simp only [List.getElem?_toArray, List.getElem?_cons_succ, List.getElem?_cons_zero]; rfl) (by kernel_rfl) (by kernel_rfl) (by kernel_rfl) (fun _ _ _ h => False.elim h) (Or.inl ⟨by rfl, ?hy9n10⟩) (by assumption) ?rest9n10; (case hy9n10 => (intro w hSw; (try dsimp only at hSw); go_simp; (try with_reducible rfl))); (try simp only [Act.put, List.setIfInBounds_toArray, List.set_cons_zero, List.set_cons_succ]))
      (refine wpAnyH_take (i := 10) (v := ?v10n11) (by simp only [List.getElem?_toArray, List.getElem?_cons_succ, List.getElem?_cons_zero]; rfl) (by kernel_rfl) (by kernel_rfl) (by kernel_rfl) (fun _ _ _ h => False.elim h) (Or.inl ⟨by rfl, ?hy10n11⟩) (by assumption) ?rest10n11; (case hy10n11 => (intro w hSw; (try dsimp only at hSw); go_simp; (try with_reducible rfl))); (try simp only [Act.put, List.setIfInBounds_toArray, List.set_cons_zero, List.set_cons_succ]))
      (refine wpAnyH_take (i := 12) (v := ?v12n12) (by simp only [List.getElem?_toArray, List.getElem?_cons_succ, List.getElem?_cons_zero]; rfl) (by kernel_rfl) (by kernel_rfl) (by kernel_rfl) (fun _ _ _ h => False.elim h) (Or.inl ⟨by rfl, ?hy12n12⟩) (by assumption) ?rest12n12; (case hy12n12 => (intro w hSw; (try dsimp only at hSw); go_simp; (try with_reducible rfl))); (try simp only [Act.put, List.setIfInBounds_toArray, List.set_cons_zero, List.set_cons_succ]))
      (refine wpAnyH_take (i := 14) (v := ?v14n13) (by simp only [List.getElem?_toArray, List.getElem?_cons_succ, List.getElem?_cons_zero]; rfl) (by kernel_rfl) (by kernel_rfl) (by kernel_rfl) (fun _ _ _ h => False.elim h) (Or.inl ⟨by rfl, ?hy14n13⟩) (by assumption) ?rest14n13; (case hy14n13 => (intro w hSw; (try dsimp only at hSw); go_simp; (try with_reducible rfl))); (try simp only [Act.put, List.setIfInBounds_toArray, List.set_cons_zero, List.set_cons_succ]))
      (refine wpAnyH_take (i := 15) (v := ?v15n14) (by simp only [List.getElem?_toArray, List.getElem?_cons_succ, List.getElem?_cons_zero]; rfl) (by kernel_rfl) (by kernel_rfl) (by kernel_rfl) (fun _ _ _ h => False.elim h) (Or.inl ⟨by rfl, ?hy15n14⟩) (by assumption) ?rest15n14; (case hy15n14 => (intro w hSw; (try dsimp only at hSw); go_simp; (try with_reducible rfl))); (try simp only [Act.put, List.setIfInBounds_toArray, List.set_cons_zero, List.set_cons_succ]))
      refine wpAnyH_ready (rs := [11, 16]) (by kernel_rfl) (by simp) ?_
      refine AllReadyH.cons (o := _) (by simp only [List.getElem?_toArray, List.getElem?_cons_succ, List.getElem?_cons_zero]; rfl) (fun K hK => ?_) ?_
      · (go_simp; (skip); refine hK.out _ _ (by exact HSk.out _ (HBs.out.1)) (fun hHeld => ?_); clear hK K; (try simp only [Act.put, List.setIfInBounds_toArray, List.set_cons_zero, List.set_cons_succ]))
        refine wpAnyH_ready (rs := [13, 16]) (by kernel_rfl) (by simp) ?_
        refine AllReadyH.cons (o := _) (by simp only [List.getElem?_toArray, List.getElem?_cons_succ, List.getElem?_cons_zero]; rfl) (fun K hK => ?_) ?_
        · (((with_reducible apply step_append_run runA); rfl; rfl; rfl; rfl; rfl); refine hK.out _ _ (by exact HSk.out _ (HBs.out.2.2.2.2.1)) (fun hHeld => ?_); clear hK K; (try simp only [Act.put, List.setIfInBounds_toArray, List.set_cons_zero, List.set_cons_succ]))
          (refine wpAnyH_ready (rs := [16]) (by kernel_rfl) (by simp) ?_; refine AllReadyH.cons (o := _) (by simp only [List.getElem?_toArray, List.getElem?_cons_succ, List.getElem?_cons_zero]; rfl) (fun K hK => ?_) AllReadyH.nil; go_simp; (skip); refine hK.out _ _ (by exact HSk.out _ (HBs.out.2.2.2.2.2.1)) (fun hHeld => ?_); clear hK K; (try simp only [Act.put, List.setIfInBounds_toArray, List.set_cons_zero, List.set_cons_succ]))
          (refine wpAnyH_ready (rs := [17]) (by kernel_rfl) (by simp) ?_; refine AllReadyH.cons (o := _) (by simp only [List.getElem?_toArray, List.getElem?_cons_succ, List.getElem?_cons_zero]; rfl) (fun K hK => ?_) AllReadyH.nil; (((with_reducible apply step_append_run runA2); rfl; rfl; rfl; rfl; rfl)); refine hK.out _ _ (by exact HSk.out _ (HBs.out.2.2.2.2.2.2.1)) (fun hHeld => ?_); clear hK K; (try simp only [Act.put, List.setIfInBounds_toArray, List.set_cons_zero, List.set_cons_succ]))
          (refine wpAnyH_ready (rs := [18]) (by kernel_rfl) (by simp) ?_; refine AllReadyH.cons (o := _) (by simp only [List.getElem?_toArray, List.getElem?_cons_succ, List.getElem?_cons_zero]; rfl) (fun K hK => ?_) AllReadyH.nil; go_simp; ((with_reducible refine HclA.out.mono ?_); rintro e g2 ⟨m, rfl, hme, hmi, hmb, hg2⟩; have n2 := (HBs.out.2.2.2.2.2.2.1).trans (hg2.mono (HBs.out.2.2.2.2.2.2.1).size)); refine hK.out _ _ (by exact HSk.out _ n2) (fun hHeld => ?_); clear hK K; (try simp only [Act.put, List.setIfInBounds_toArray, List.set_cons_zero, List.set_cons_succ]))
          obtain ⟨v0, v1, v2, v3, hvs⟩ := four' hmi.len
          obtain ⟨k', mn', mx', a', nl', c', t', hnv, hcl⟩ := nv_explicit hvs
          rw [hnv]
          (refine wpAnyH_take (i := 19) (v := ?v19n15) (by simp only [List.getElem?_toArray, List.getElem?_cons_succ, List.getElem?_cons_zero]; rfl) (by kernel_rfl) (by kernel_rfl) (by kernel_rfl) (fun _ _ _ h => False.elim h) (Or.inl ⟨by rfl, ?hy19n15⟩) (by assumption) ?rest19n15; (case hy19n15 => (intro w hSw; (try dsimp only at hSw); go_simp; (try with_reducible rfl))); (try simp only [Act.put, List.setIfInBounds_toArray, List.set_cons_zero, List.set_cons_succ]))
          (refine wpAnyH_take (i := 20) (v := ?v20n16) (by simp only [List.getElem?_toArray, List.getElem?_cons_succ, List.getElem?_cons_zero]; rfl) (by kernel_rfl) (by kernel_rfl) (by kernel_rfl) (fun _ _ _ h => False.elim h) (Or.inl ⟨by rfl, ?hy20n16⟩) (by assumption) ?rest20n16; (case hy20n16 => (intro w hSw; (try dsimp only at hSw); go_simp; (try with_reducible rfl))); (try simp only [Act.put, List.setIfInBounds_toArray, List.set_cons_zero, List.set_cons_succ]))
          (refine wpAnyH_take (i := 21) (v := ?v21n17) (by simp only [List.getElem?_toArray, List.getElem?_cons_succ, List.getElem?_cons_zero]; rfl) (by kernel_rfl) (by kernel_rfl) (by kernel_rfl) (fun _ _ _ h => False.elim h) (Or.inl ⟨by rfl, ?hy21n17⟩) (by assumption) ?rest21n17; (case hy21n17 => (intro w hSw; (try dsimp only at hSw); go_simp; (try with_reducible rfl))); (try simp only [Act.put, List.setIfInBounds_toArray, List.set_cons_zero, List.set_cons_succ]))
          have hre := HRe0.out _ g2 m (HBs.out.2.2.2.2.2.2.1) hg2 hme hmi hmb
          have l4g := (n2.block _ (block_lt L44.out)).trans L44.out
          obtain ⟨d0, d1, d2, d3, d4, d5, d6, d7, d8⟩ := nd_cells l4g
          obtain ⟨f0, f1, f2, f3, f4, f5, f6, f7, f8⟩ := frz9 l4g
          have hre2 := hre _ (put9_mod g2 (W.heap.size + 1) (.int .i64 k') (.int .u64 (v0 : Int)) (.int .u64 (v1 : Int)) (.int .u64 (v2 : Int)) (.int .u64 (v3 : Int)) (.slice a' nl' c') (.int .i64 mn') (.int .i64 mx') (.string (Str t')))
          have hpb := put9_block l4g (.int .i64 k') (.int .u64 (v0 : Int)) (.int .u64 (v1 : Int)) (.int .u64 (v2 : Int)) (.int .u64 (v3 : Int)) (.slice a' nl' c') (.int .i64 mn') (.int .i64 mx') (.string (Str t'))
          rw [hnv] at hre2
          have HRe := Lib.hid hre2
          have HPb := Lib.hid hpb
          have hk9 := HSk2.out g2 _ n2 (put9_mod g2 (W.heap.size + 1) (.int .i64 k') (.int .u64 (v0 : Int)) (.int .u64 (v1 : Int)) (.int .u64 (v2 : Int)) (.int .u64 (v3 : Int)) (.slice a' nl' c') (.int .i64 mn') (.int .i64 mx') (.string (Str t')))
          have HK9 := Lib.hid hk9
          clear hre hre2 hpb l4g hk9 hme hmi hmb hnv hcl hvs
          (refine wpAnyH_ready (rs := [22]) (by kernel_rfl) (by simp) ?_; refine AllReadyH.cons (o := _) (by simp only [List.getElem?_toArray, List.getElem?_cons_succ, List.getElem?_cons_zero]; rfl) (fun K hK => ?_) AllReadyH.nil; go_simp; (skip); refine hK.out _ _ (by exact HK9.out) (fun hHeld => ?_); clear hK K; (try simp only [Act.put, List.setIfInBounds_toArray, List.set_cons_zero, List.set_cons_succ]))
          (refine wpAnyH_take (i := 23) (v := ?v23n18) (by simp only [List.getElem?_toArray, List.getElem?_cons_succ, List.getElem?_cons_zero]; rfl) (by kernel_rfl) (by kernel_rfl) (by kernel_rfl) (fun _ _ _ h => False.elim h) (Or.inl ⟨by rfl, ?hy23n18⟩) (by assumption) ?rest23n18; (case hy23n18 => (intro w hSw; (try dsimp only at hSw); go_simp; (try with_reducible rfl))); (try simp only [Act.put, List.setIfInBounds_toArray, List.set_cons_zero, List.set_cons_succ]))
          (refine wpAnyH_take (i := 24) (v := ?v24n19) (by simp only [List.getElem?_toArray, List.getElem?_cons_succ, List.getElem?_cons_zero]; rfl) (by kernel_rfl) (by kernel_rfl) (by kernel_rfl) (fun _ _ _ h => False.elim h) (Or.inl ⟨by rfl, ?hy24n19⟩) (by assumption) ?rest24n19; (case hy24n19 => (intro w hSw; (try dsimp only at hSw); go_simp; (try with_reducible rfl))); (try simp only [Act.put, List.setIfInBounds_toArray, List.set_cons_zero, List.set_cons_succ]))
          refine wpAnyH_done (by kernel_rfl) ?_ _
          refine NoPanic.normal ?_
          go_wp2
          ((try simp only [Exit.inBlock, Exit.then]); refine bodyPost_ret (Kt.results_cell3_row rfl _ _ (W.heap.size + 1) 44 _ (0, 0) _ rfl (HPb.out) Tryd.underlying44 rfl ?hi5) rfl ?_; (case hi5 => kernel_rfl))
          exact HRe.out
        · refine AllReadyH.cons (o := _) (by simp only [List.getElem?_toArray, List.getElem?_cons_succ, List.getElem?_cons_zero]; rfl) (fun K hK => ?_) AllReadyH.nil
          (go_simp; (skip); refine hK.out _ _ (by exact HSk.out _ (HBs.out.2.2.1)) (fun hHeld => ?_); clear hK K; (try simp only [Act.put, List.setIfInBounds_toArray, List.set_cons_zero, List.set_cons_succ]))
          (refine wpAnyH_ready (rs := [13]) (by kernel_rfl) (by simp) ?_; refine AllReadyH.cons (o := _) (by simp only [List.getElem?_toArray, List.getElem?_cons_succ, List.getElem?_cons_zero]; rfl) (fun K hK => ?_) AllReadyH.nil; (((with_reducible apply step_append_run runB); rfl; rfl; rfl; rfl; rfl)); refine hK.out _ _ (by exact HSk.out _ (HBs.out.2.2.2.2.2.2.2.1)) (fun hHeld => ?_); clear hK K; (try simp only [Act.put, List.setIfInBounds_toArray, List.set_cons_zero, List.set_cons_succ]))
          (refine wpAnyH_ready (rs := [17]) (by kernel_rfl) (by simp) ?_; refine AllReadyH.cons (o := _) (by simp only [List.getElem?_toArray, List.getElem?_cons_succ, List.getElem?_cons_zero]; rfl) (fun K hK => ?_) AllReadyH.nil; (((with_reducible apply step_append_run runB2); rfl; rfl; rfl; rfl; rfl)); refine hK.out _ _ (by exact HSk.out _ (HBs.out.2.2.2.2.2.2.2.2.1)) (fun hHeld => ?_); clear hK K; (try simp only [Act.put, List.setIfInBounds_toArray, List.set_cons_zero, List.set_cons_succ]))
          (refine wpAnyH_ready (rs := [18]) (by kernel_rfl) (by simp) ?_; refine AllReadyH.cons (o := _) (by simp only [List.getElem?_toArray, List.getElem?_cons_succ, List.getElem?_cons_zero]; rfl) (fun K hK => ?_) AllReadyH.nil; go_simp; ((with_reducible refine HclB.out.mono ?_); rintro e g2 ⟨m, rfl, hme, hmi, hmb, hg2⟩; have n2 := (HBs.out.2.2.2.2.2.2.2.2.1).trans (hg2.mono (HBs.out.2.2.2.2.2.2.2.2.1).size)); refine hK.out _ _ (by exact HSk.out _ n2) (fun hHeld => ?_); clear hK K; (try simp only [Act.put, List.setIfInBounds_toArray, List.set_cons_zero, List.set_cons_succ]))
          obtain ⟨v0, v1, v2, v3, hvs⟩ := four' hmi.len
          obtain ⟨k', mn', mx', a', nl', c', t', hnv, hcl⟩ := nv_explicit hvs
          rw [hnv]
          (refine wpAnyH_take (i := 19) (v := ?v19n20) (by simp only [List.getElem?_toArray, List.getElem?_cons_succ, List.getElem?_cons_zero]; rfl) (by kernel_rfl) (by kernel_rfl) (by kernel_rfl) (fun _ _ _ h => False.elim h) (Or.inl ⟨by rfl, ?hy19n20⟩) (by assumption) ?rest19n20; (case hy19n20 => (intro w hSw; (try dsimp only at hSw); go_simp; (try with_reducible rfl))); (try simp only [Act.put, List.setIfInBounds_toArray, List.set_cons_zero, List.set_cons_succ]))
          (refine wpAnyH_take (i := 20) (v := ?v20n21) (by simp only [List.getElem?_toArray, List.getElem?_cons_succ, List.getElem?_cons_zero]; rfl) (by kernel_rfl) (by kernel_rfl) (by kernel_rfl) (fun _ _ _ h => False.elim h) (Or.inl ⟨by rfl, ?hy20n21⟩) (by assumption) ?rest20n21; (case hy20n21 => (intro w hSw; (try dsimp only at hSw); go_simp; (try with_reducible rfl))); (try simp only [Act.put, List.setIfInBounds_toArray, List.set_cons_zero, List.set_cons_succ]))
          (refine wpAnyH_take (i := 21) (v := ?v21n22) (by simp only [List.getElem?_toArray, List.getElem?_cons_succ, List.getElem?_cons_zero]; rfl) (by kernel_rfl) (by kernel_rfl) (by kernel_rfl) (fun _ _ _ h => False.elim h) (Or.inl ⟨by rfl, ?hy21n22⟩) (by assumption) ?rest21n22; (case hy21n22 => (intro w hSw; (try dsimp only at hSw); go_simp; (try with_reducible rfl))); (try simp only [Act.put, List.setIfInBounds_toArray, List.set_cons_zero, List.set_cons_succ]))
          have hre := HRe0.out _ g2 m (HBs.out.2.2.2.2.2.2.2.2.1) hg2 hme hmi hmb
          have l4g := (n2.block _ (block_lt L44.out)).trans L44.out
          obtain ⟨d0, d1, d2, d3, d4, d5, d6, d7, d8⟩ := nd_cells l4g
          obtain ⟨f0, f1, f2, f3, f4, f5, f6, f7, f8⟩ := frz9 l4g
          have hre2 := hre _ (put9_mod g2 (W.heap.size + 1) (.int .i64 k') (.int .u64 (v0 : Int)) (.int .u64 (v1 : Int)) (.int .u64 (v2 : Int)) (.int .u64 (v3 : Int)) (.slice a' nl' c') (.int .i64 mn') (.int .i64 mx') (.string (Str t')))
          have hpb := put9_block l4g (.int .i64 k') (.int .u64 (v0 : Int)) (.int .u64 (v1 : Int)) (.int .u64 (v2 : Int)) (.int .u64 (v3 : Int)) (.slice a' nl' c') (.int .i64 mn') (.int .i64 mx') (.string (Str t'))
          rw [hnv] at hre2
          have HRe := Lib.hid hre2
          have HPb := Lib.hid hpb
          have hk9 := HSk2.out g2 _ n2 (put9_mod g2 (W.heap.size + 1) (.int .i64 k') (.int .u64 (v0 : Int)) (.int .u64 (v1 : Int)) (.int .u64 (v2 : Int)) (.int .u64 (v3 : Int)) (.slice a' nl' c') (.int .i64 mn') (.int .i64 mx') (.string (Str t')))
          have HK9 := Lib.hid hk9
          clear hre hre2 hpb l4g hk9 hme hmi hmb hnv hcl hvs
          (refine wpAnyH_ready (rs := [22]) (by kernel_rfl) (by simp) ?_; refine AllReadyH.cons (o := _) (by simp only [List.getElem?_toArray, List.getElem?_cons_succ, List.getElem?_cons_zero]; rfl) (fun K hK => ?_) AllReadyH.nil; go_simp; (skip); refine hK.out _ _ (by exact HK9.out) (fun hHeld => ?_); clear hK K; (try simp only [Act.put, List.setIfInBounds_toArray, List.set_cons_zero, List.set_cons_succ]))
          (refine wpAnyH_take (i := 23) (v := ?v23n23) (by simp only [List.getElem?_toArray, List.getElem?_cons_succ, List.getElem?_cons_zero]; rfl) (by kernel_rfl) (by kernel_rfl) (by kernel_rfl) (fun _ _ _ h => False.elim h) (Or.inl ⟨by rfl, ?hy23n23⟩) (by assumption) ?rest23n23; (case hy23n23 => (intro w hSw; (try dsimp only at hSw); go_simp; (try with_reducible rfl))); (try simp only [Act.put, List.setIfInBounds_toArray, List.set_cons_zero, List.set_cons_succ]))
          (refine wpAnyH_take (i := 24) (v := ?v24n24) (by simp only [List.getElem?_toArray, List.getElem?_cons_succ, List.getElem?_cons_zero]; rfl) (by kernel_rfl) (by kernel_rfl) (by kernel_rfl) (fun _ _ _ h => False.elim h) (Or.inl ⟨by rfl, ?hy24n24⟩) (by assumption) ?rest24n24; (case hy24n24 => (intro w hSw; (try dsimp only at hSw); go_simp; (try with_reducible rfl))); (try simp only [Act.put, List.setIfInBounds_toArray, List.set_cons_zero, List.set_cons_succ]))
          refine wpAnyH_done (by kernel_rfl) ?_ _
          refine NoPanic.normal ?_
          go_wp2
          ((try simp only [Exit.inBlock, Exit.then]); refine bodyPost_ret (Kt.results_cell3_row rfl _ _ (W.heap.size + 1) 44 _ (0, 0) _ rfl (HPb.out) Tryd.underlying44 rfl ?hi6) rfl ?_; (case hi6 => kernel_rfl))
          exact HRe.out
      · refine AllReadyH.cons (o := _) (by simp only [List.getElem?_toArray, List.getElem?_cons_succ, List.getElem?_cons_zero]; rfl) (fun K hK => ?_) AllReadyH.nil
        (go_simp; (skip); refine hK.out _ _ (by exact HSk.out _ (HBs.out.2.1)) (fun hHeld => ?_); clear hK K; (try simp only [Act.put, List.setIfInBounds_toArray, List.set_cons_zero, List.set_cons_succ]))
        (refine wpAnyH_ready (rs := [11]) (by kernel_rfl) (by simp) ?_; refine AllReadyH.cons (o := _) (by simp only [List.getElem?_toArray, List.getElem?_cons_succ, List.getElem?_cons_zero]; rfl) (fun K hK => ?_) AllReadyH.nil; go_simp; (skip); refine hK.out _ _ (by exact HSk.out _ (HBs.out.2.2.2.1)) (fun hHeld => ?_); clear hK K; (try simp only [Act.put, List.setIfInBounds_toArray, List.set_cons_zero, List.set_cons_succ]))
        (refine wpAnyH_ready (rs := [13]) (by kernel_rfl) (by simp) ?_; refine AllReadyH.cons (o := _) (by simp only [List.getElem?_toArray, List.getElem?_cons_succ, List.getElem?_cons_zero]; rfl) (fun K hK => ?_) AllReadyH.nil; (((with_reducible apply step_append_run runC); rfl; rfl; rfl; rfl; rfl)); refine hK.out _ _ (by exact HSk.out _ (HBs.out.2.2.2.2.2.2.2.2.2.1)) (fun hHeld => ?_); clear hK K; (try simp only [Act.put, List.setIfInBounds_toArray, List.set_cons_zero, List.set_cons_succ]))
        (refine wpAnyH_ready (rs := [17]) (by kernel_rfl) (by simp) ?_; refine AllReadyH.cons (o := _) (by simp only [List.getElem?_toArray, List.getElem?_cons_succ, List.getElem?_cons_zero]; rfl) (fun K hK => ?_) AllReadyH.nil; (((with_reducible apply step_append_run runC2); rfl; rfl; rfl; rfl; rfl)); refine hK.out _ _ (by exact HSk.out _ (HBs.out.2.2.2.2.2.2.2.2.2.2)) (fun hHeld => ?_); clear hK K; (try simp only [Act.put, List.setIfInBounds_toArray, List.set_cons_zero, List.set_cons_succ]))
        (refine wpAnyH_ready (rs := [18]) (by kernel_rfl) (by simp) ?_; refine AllReadyH.cons (o := _) (by simp only [List.getElem?_toArray, List.getElem?_cons_succ, List.getElem?_cons_zero]; rfl) (fun K hK => ?_) AllReadyH.nil; go_simp; ((with_reducible refine HclC.out.mono ?_); rintro e g2 ⟨m, rfl, hme, hmi, hmb, hg2⟩; have n2 := (HBs.out.2.2.2.2.2.2.2.2.2.2).trans (hg2.mono (HBs.out.2.2.2.2.2.2.2.2.2.2).size)); refine hK.out _ _ (by exact HSk.out _ n2) (fun hHeld => ?_); clear hK K; (try simp only [Act.put, List.setIfInBounds_toArray, List.set_cons_zero, List.set_cons_succ]))
        obtain ⟨v0, v1, v2, v3, hvs⟩ := four' hmi.len
        obtain ⟨k', mn', mx', a', nl', c', t', hnv, hcl⟩ := nv_explicit hvs
        rw [hnv]
        (refine wpAnyH_take (i := 19) (v := ?v19n25) (by simp only [List.getElem?_toArray, List.getElem?_cons_succ, List.getElem?_cons_zero]; rfl) (by kernel_rfl) (by kernel_rfl) (by kernel_rfl) (fun _ _ _ h => False.elim h) (Or.inl ⟨by rfl, ?hy19n25⟩) (by assumption) ?rest19n25; (case hy19n25 => (intro w hSw; (try dsimp only at hSw); go_simp; (try with_reducible rfl))); (try simp only [Act.put, List.setIfInBounds_toArray, List.set_cons_zero, List.set_cons_succ]))
        (refine wpAnyH_take (i := 20) (v := ?v20n26) (by simp only [List.getElem?_toArray, List.getElem?_cons_succ, List.getElem?_cons_zero]; rfl) (by kernel_rfl) (by kernel_rfl) (by kernel_rfl) (fun _ _ _ h => False.elim h) (Or.inl ⟨by rfl, ?hy20n26⟩) (by assumption) ?rest20n26; (case hy20n26 => (intro w hSw; (try dsimp only at hSw); go_simp; (try with_reducible rfl))); (try simp only [Act.put, List.setIfInBounds_toArray, List.set_cons_zero, List.set_cons_succ]))
        (refine wpAnyH_take (i := 21) (v := ?v21n27) (by simp only [List.getElem?_toArray, List.getElem?_cons_succ, List.getElem?_cons_zero]; rfl) (by kernel_rfl) (by kernel_rfl) (by kernel_rfl) (fun _ _ _ h => False.elim h) (Or.inl ⟨by rfl, ?hy21n27⟩) (by assumption) ?rest21n27; (case hy21n27 => (intro w hSw; (try dsimp only at hSw); go_simp; (try with_reducible rfl))); (try simp only [Act.put, List.setIfInBounds_toArray, List.set_cons_zero, List.set_cons_succ]))
        have hre := HRe0.out _ g2 m (HBs.out.2.2.2.2.2.2.2.2.2.2) hg2 hme hmi hmb
        have l4g := (n2.block _ (block_lt L44.out)).trans L44.out
        obtain ⟨d0, d1, d2, d3, d4, d5, d6, d7, d8⟩ := nd_cells l4g
        obtain ⟨f0, f1, f2, f3, f4, f5, f6, f7, f8⟩ := frz9 l4g
        have hre2 := hre _ (put9_mod g2 (W.heap.size + 1) (.int .i64 k') (.int .u64 (v0 : Int)) (.int .u64 (v1 : Int)) (.int .u64 (v2 : Int)) (.int .u64 (v3 : Int)) (.slice a' nl' c') (.int .i64 mn') (.int .i64 mx') (.string (Str t')))
        have hpb := put9_block l4g (.int .i64 k') (.int .u64 (v0 : Int)) (.int .u64 (v1 : Int)) (.int .u64 (v2 : Int)) (.int .u64 (v3 : Int)) (.slice a' nl' c') (.int .i64 mn') (.int .i64 mx') (.string (Str t'))
        rw [hnv] at hre2
        have HRe := Lib.hid hre2
        have HPb := Lib.hid hpb
        have hk9 := HSk2.out g2 _ n2 (put9_mod g2 (W.heap.size + 1) (.int .i64 k') (.int .u64 (v0 : Int)) (.int .u64 (v1 : Int)) (.int .u64 (v2 : Int)) (.int .u64 (v3 : Int)) (.slice a' nl' c') (.int .i64 mn') (.int .i64 mx') (.string (Str t')))
        have HK9 := Lib.hid hk9
        clear hre hre2 hpb l4g hk9 hme hmi hmb hnv hcl hvs
        (refine wpAnyH_ready (rs := [22]) (by kernel_rfl) (by simp) ?_; refine AllReadyH.cons (o := _) (by simp only [List.getElem?_toArray, List.getElem?_cons_succ, List.getElem?_cons_zero]; rfl) (fun K hK => ?_) AllReadyH.nil; go_simp; (skip); refine hK.out _ _ (by exact HK9.out) (fun hHeld => ?_); clear hK K; (try simp only [Act.put, List.setIfInBounds_toArray, List.set_cons_zero, List.set_cons_succ]))
        (refine wpAnyH_take (i := 23) (v := ?v23n28) (by simp only [List.getElem?_toArray, List.getElem?_cons_succ, List.getElem?_cons_zero]; rfl) (by kernel_rfl) (by kernel_rfl) (by kernel_rfl) (fun _ _ _ h => False.elim h) (Or.inl ⟨by rfl, ?hy23n28⟩) (by assumption) ?rest23n28; (case hy23n28 => (intro w hSw; (try dsimp only at hSw); go_simp; (try with_reducible rfl))); (try simp only [Act.put, List.setIfInBounds_toArray, List.set_cons_zero, List.set_cons_succ]))
        (refine wpAnyH_take (i := 24) (v := ?v24n29) (by simp only [List.getElem?_toArray, List.getElem?_cons_succ, List.getElem?_cons_zero]; rfl) (by kernel_rfl) (by kernel_rfl) (by kernel_rfl) (fun _ _ _ h => False.elim h) (Or.inl ⟨by rfl, ?hy24n29⟩) (by assumption) ?rest24n29; (case hy24n29 => (intro w hSw; (try dsimp only at hSw); go_simp; (try with_reducible rfl))); (try simp only [Act.put, List.setIfInBounds_toArray, List.set_cons_zero, List.set_cons_succ]))
        refine wpAnyH_done (by kernel_rfl) ?_ _
        refine NoPanic.normal ?_
        go_wp2
        ((try simp only [Exit.inBlock, Exit.then]); refine bodyPost_ret (Kt.results_cell3_row rfl _ _ (W.heap.size + 1) 44 _ (0, 0) _ rfl (HPb.out) Tryd.underlying44 rfl ?hi7) rfl ?_; (case hi7 => kernel_rfl))
        exact HRe.out

/-- Where the loop over the kids stands. -/
structure RsL (b8 : Nat) (k : Int) (x0 x1 x2 x3 : Nat) (mn mx : Int) (ks : List Nd) (R : Nat → Int × Nat × List Nd) (W4 : World) (j : Nat) (V : World) : Prop where
  ex : ∃ (ms : List Nd) (a : Option Addr) (c : Nat) (g : List Nat), Gw 44 b8 k x0 x1 x2 x3 mn mx [] ms a j c V ∧ Mod (b8 :: g) W4 V ∧ (∀ x ∈ g, b8 < x) ∧ ms.map er = (R j).2.2
  z : (R j).1 = 0
set_option maxRecDepth 100000 in
set_option maxHeartbeats 1000000 in
theorem rs_node (w0 : World) (q f : Nat) (ra : Option Addr) (rc rn : Nat) (X : List Nat) (Ts : Bks) (hrb : RB w0 q ra rc rn X Ts)
    (path : List (List UInt8)) (lv many : Nat) {k : Int} {s : List Nat} {mn mx : Int} {t : List UInt8} {a : Option Addr} {c : Nat} {ks : List Nd} (W : World) (pa : Option Addr) (pn pc : Nat) (hC : RsC w0 (erB Ts) (f + 1) path lv many (.mk k s mn mx t a c ks) W pa pn pc) (hk : k ≠ 5) (h24 : ¬ 24 < lv) (h6 : ¬ 600 ≤ many) (hsp : ∀ path lv many n W pa pn pc, RsC w0 (erB Ts) f path lv many n W pa pn pc → Calls Tryd.prog 28 #[.pointer (some ⟨q, 0, none⟩), nv n, .int .i64 (lv : Int), .int .i64 (many : Int), .slice pa pn pc] W (RsP (spr (erB Ts) f path lv many (er n)) W)) :
    Calls Tryd.prog 28 #[.pointer (some ⟨q, 0, none⟩), nv (.mk k s mn mx t a c ks), .int .i64 (lv : Int), .int .i64 (many : Int), .slice pa pn pc] W (RsP (spr (erB Ts) (f + 1) path lv many (er (.mk k s mn mx t a c ks))) W) := by
  obtain ⟨R, hRd⟩ : ∃ R : Nat → Int × Nat × List Nd, R = fun j => sprs (fun q n => spr (erB Ts) f path (lv + 1) q n) (many + 1) ((ks.map er).take j) := ⟨_, rfl⟩
  have hres : spr (erB Ts) (f + 1) path lv many (er (.mk k s mn mx t a c ks)) = ((R ks.length).1, (R ks.length).2.1, .mk k s mn mx [] none 0 (R ks.length).2.2) := by
    have hk' : (er (.mk k s mn mx t a c ks)).kind ≠ 5 := hk
    unfold spr
    rw [if_neg hk', if_neg h24, if_neg h6, hRd]
    simp only
    rw [List.take_of_length_le (by simp), ← ers_map]
    rfl
  have hR0 : R 0 = (0, many + 1, []) := by rw [hRd]; rfl
  have hRs : ∀ (j : Nat) (hj : j < ks.length), (R j).1 = 0 → R (j + 1) = ((spr (erB Ts) f path (lv + 1) (R j).2.1 (er ks[j])).1, (spr (erB Ts) f path (lv + 1) (R j).2.1 (er ks[j])).2.1, (R j).2.2 ++ [(spr (erB Ts) f path (lv + 1) (R j).2.1 (er ks[j])).2.2]) := fun j hj h0 => by
    have := sprs_take (fun q n => spr (erB Ts) f path (lv + 1) q n) (many + 1) (ks.map er) j (by simpa using hj)
    rw [hRd] at h0 ⊢
    simp only at h0 ⊢
    rw [this, if_pos h0]
    simp
  have hRe : ∀ j, (R j).1 ≠ 0 → R ks.length = R j := fun j h => by
    rw [hRd] at h ⊢
    simp only at h ⊢
    rw [List.take_of_length_le (by simp)]
    exact sprs_err _ _ _ _ h
  have hRm : ∀ j, (R j).2.1 ≤ 600 := fun j => by
    rw [hRd]
    exact sprs_le _ (fun q n hq => spr_le (erB Ts) f path (lv + 1) q n hq) _ (by omega) _
  rw [hres]
  obtain ⟨RR, hRR⟩ : ∃ RR : Int × Nat × Nd, ((R ks.length).1, (R ks.length).2.1, Nd.mk k s mn mx [] none 0 (R ks.length).2.2) = RR := ⟨_, rfl⟩
  rw [hRR]
  have hIs : Is W.heap.size W (.mk k s mn mx t a c ks) := Is.mono hC.hb.size (Is.below hC.hb hC.hi)
  obtain ⟨x0, x1, x2, x3, hl⟩ := four' hIs.1
  subst hl
  have hnv : nv (.mk k [x0, x1, x2, x3] mn mx t a c ks) = .agg #[.int .i64 k, .int .u64 (x0 : Int), .int .u64 (x1 : Int), .int .u64 (x2 : Int), .int .u64 (x3 : Int), .slice a ks.length c, .int .i64 mn, .int .i64 mx, .string (Str t)] := rfl
  rw [hnv]
  clear hnv
  obtain ⟨nl, hnl⟩ : ∃ nl, ks.length = nl := ⟨_, rfl⟩
  rw [hnl]
  obtain ⟨B2, hB2⟩ : ∃ B2, Obj.cells #[.int .i64 k, .int .u64 (x0 : Int), .int .u64 (x1 : Int), .int .u64 (x2 : Int), .int .u64 (x3 : Int), .slice a nl c, .int .i64 mn, .int .i64 mx, .string (Str t)] 44 (0, 0) = B2 := ⟨_, rfl⟩
  obtain ⟨B4, hB4⟩ : ∃ B4, Obj.cells #[.int .i64 0, .int .u64 0, .int .u64 0, .int .u64 0, .int .u64 0, .slice none 0 0, .int .i64 0, .int .i64 0, .string ⟨#[]⟩] 44 (0, 0) = B4 := ⟨_, rfl⟩
  have z1 : (W.alloc B2).heap.size = W.heap.size + 1 := by simp
  have z2 : ((W.alloc B2).alloc B4).heap.size = W.heap.size + 2 := by simp
  have l2 : (((W.alloc B2).alloc B4).alloc B4).heap[W.heap.size]? = some B2 := block_alloc (block_alloc (World.alloc_heap_new W B2))
  have l4 : (((W.alloc B2).alloc B4).alloc B4).heap[W.heap.size + 1]? = some B4 := block_alloc (by rw [← z1]; exact World.alloc_heap_new _ B4)
  have l6 : (((W.alloc B2).alloc B4).alloc B4).heap[W.heap.size + 2]? = some B4 := by rw [← z2]; exact World.alloc_heap_new _ B4
  have hB : Below W.heap.size W (((W.alloc B2).alloc B4).alloc B4) := (((Below.refl _ W).alloc (Nat.le_refl _) _).alloc (by simp) _).alloc (by simp; omega) _
  obtain ⟨W3, hW3⟩ : ∃ W3, ((W.alloc B2).alloc B4).alloc B4 = W3 := ⟨_, rfl⟩
  have z3 : W3.heap.size = W.heap.size + 3 := by rw [← hW3]; simp
  rw [hW3] at l2 l4 l6 hB
  rw [← hB2, ← hB4] at hW3
  rw [← hB2] at l2
  rw [← hB4] at l4 l6
  clear hB2 hB4 z1 z2 B2 B4
  have hb3 := hC.hb.trans (hB.mono hC.hb.size)
  have HW3 := Lib.hid hW3
  have HB := Lib.hid hB
  have HZ := Lib.hid z3
  have H2 := Lib.hid l2
  have H4 := Lib.hid l4
  have H6 := Lib.hid l6
  have hnl6 : nl ≤ 600 := by have h1 := szs_len ks; have h2 := hC.hz; simp only [sz] at h2; omega
  obtain ⟨W4, hW4⟩ : ∃ W4, W3.alloc (.cells #[.int .i64 k, .int .u64 (x0 : Int), .int .u64 (x1 : Int), .int .u64 (x2 : Int), .int .u64 (x3 : Int), .slice none 0 0, .int .i64 mn, .int .i64 mx, .string ⟨#[]⟩] 44) = W4 := ⟨_, rfl⟩
  have b4 : Below W3.heap.size W3 W4 := by rw [← hW4]; exact (Below.refl _ _).alloc (Nat.le_refl _) _
  have s4 : W4.heap[W.heap.size + 3]? = some (.cells #[.int .i64 k, .int .u64 (x0 : Int), .int .u64 (x1 : Int), .int .u64 (x2 : Int), .int .u64 (x3 : Int), .slice none 0 0, .int .i64 mn, .int .i64 mx, .string ⟨#[]⟩] 44 (0, 0)) := by rw [← z3, ← hW4]; exact heap_alloc_new W3 _
  have hz4 : W4.heap.size = W.heap.size + 4 := by rw [← hW4]; simp; omega
  have hB4 := hB.trans (b4.mono hB.size)
  have hb04 := hb3.trans (b4.mono hb3.size)
  have l24 := (b4.block _ (block_lt l2)).trans l2
  have l44 := (b4.block _ (block_lt l4)).trans l4
  have l64 := (b4.block _ (block_lt l6)).trans l6
  have hgw : Gw 44 (W.heap.size + 3) k x0 x1 x2 x3 mn mx [] [] none 0 0 W4 := Gw.start s4
  obtain ⟨u0, u1, u2, u3, u4, u5, u6, u7, u8⟩ := nd_cells l2
  have v5 : W4.cell? ⟨W.heap.size, 5, none⟩ = some (.slice a nl c) := cell_block l24 5
  have HR := Lib.hid (And.intro hR0 (And.intro hRs (And.intro hRe (And.intro hRm hRR))))
  have HW4 := Lib.hid hW4
  have HL := Lib.hid (And.intro l24 (And.intro l44 (And.intro l64 (And.intro hz4 (And.intro hB4 hb04)))))
  have HGw := Lib.hid hgw
  have HC := Lib.hid (And.intro hC hnl)
  have HSp := Lib.hid hsp
  have hke : (k == 5) = false := by simpa using hk
  have hkd : decide (k = 5) = false := by simpa using hk
  have hgt : ¬ (24 : Int) < (lv : Int) := by omega
  have hge : ¬ (600 : Int) ≤ (many : Int) := by omega
  have hm600 : many ≤ 600 := hC.hm
  have hwm : IntKind.i64.wrap ((many : Int) + 1) = (many : Int) + 1 := by rw [IntKind.wrap_i64]; omega
  clear hRd hres hR0 hRs hRe hRm hRR l2 l4 l6 hW3 hW4 b4 s4 hz4 hB4 hb04 l24 l44 l64 hgw hsp hIs hC hnl z3 hb3 hB
  go_enter Tryd.func28, Tryd.ntmps28
  go_upto_region 2 with (fail)
  rw [HW3.out]
  go_upto_region 19 with (fail)
  rw [HW4.out]
  clear u0 u1 u2 u3 u4 u5 u6 u7 u8
  go_wp2_with fail
  clear v5
  go_loopw [3, 92] (fun mv i V => ∃ j : Nat, j ≤ nl ∧ i = .int .i64 (j : Int) ∧ mv = .int .i64 ((R j).2.1 : Int) ∧ RsL (W.heap.size + 3) k x0 x1 x2 x3 mn mx ks R W4 j V) (fun _ i _ => nl - (intOf i).toNat)
  case atStart =>
    refine ⟨0, Nat.zero_le _, rfl, by rw [HR.out.1]; simp, ⟨[], none, 0, [], HGw.out, Mod.refl _ _, by simp, by rw [HR.out.1]; rfl⟩, by rw [HR.out.1]⟩
  case round =>
    obtain ⟨j, hj, rfl, rfl, ⟨ms, ma, mc, g, hgw, hM, hg, hme⟩, hz⟩ := hrel
    obtain ⟨l24, l44, l64, hz4, hB4, hb04⟩ := HL.out
    have hz3 := HZ.out
    have hgz : ∀ q ∈ (W.heap.size + 3) :: g, W.heap.size + 3 ≤ q := fun q hq => by
      rcases List.mem_cons.1 hq with h | h
      · omega
      · have := hg q h; omega
    have hbw : Below W.heap.size W wr := hB4.trans (hM.toBelow hB4.size (fun q hq => by have := hgz q hq; omega))
    have hzr := hM.size
    have l4w := (hM.block _ (block_lt l44) (fun hq => by have := hgz _ hq; omega)).trans l44
    have l6w := (hM.block _ (block_lt l64) (fun hq => by have := hgz _ hq; omega)).trans l64
    by_cases hjl : j < nl
    · obtain ⟨hC, hnl⟩ := HC.out
      have hb0w := hC.hb.trans (hbw.mono hC.hb.size)
      have hjk : j < ks.length := by rw [hnl]; exact hjl
      have hin : ks[j] ∈ ks := List.getElem_mem hjk
      obtain ⟨_, _, _, _, hrd, _, hall⟩ := Is.below hb0w hC.hi
      obtain ⟨b, off, rfl, hcs⟩ := kid_at hrd (goods_len hall) j hjk
      have hI0 : Is w0.heap.size w0 ks[j] := Is.all hC.hi.2.2.2.2.2.2 _ hin
      have hset := hI0.len
      have hRj := HR.out.2.1 j hjk hz
      have hRm := HR.out.2.2.2.1
      obtain ⟨r, hr⟩ : ∃ r, spr (erB Ts) f path (lv + 1) (R j).2.1 (er ks[j]) = r := ⟨_, rfl⟩
      rw [hr] at hRj
      have hszk : sz ks[j] ≤ 600 := by have h1 := szs_mem hin; have h2 := hC.hz; simp only [sz] at h2; omega
      have hlv1 : ((lv + 1 : Nat) : Int) = (lv : Int) + 1 := by omega
      have hxk : ∀ V : World, Below wr.heap.size wr V → Calls Tryd.prog 28 #[.pointer (some ⟨q, 0, none⟩), nv ks[j], .int .i64 ((lv : Int) + 1), .int .i64 ((R j).2.1 : Int), .slice pa pn pc] V (RsP r V) := fun V hb => by
        have hbV := hbw.trans (hb.mono hbw.size)
        have := HSp.out path (lv + 1) (R j).2.1 ks[j] V pa pn pc ⟨hb0w.trans (hb.mono hb0w.size), hC.hr.keep hbV, hC.hn, hC.hno, hC.nd, hC.hp, by omega, hRm j, by have := hC.hf; omega, hI0, hszk⟩
        rw [hr, hlv1] at this
        exact this
      obtain ⟨kid, hkd⟩ : ∃ kid, ks[j] = kid := ⟨_, rfl⟩
      rw [hkd] at hcs hset hxk
      have hxk : ∀ V : World, Below wr.heap.size wr V → Calls Tryd.prog 28 #[.pointer (some ⟨q, 0, none⟩), nv kid, .int .i64 ((lv : Int) + 1), .int .i64 ((R j).2.1 : Int), .slice pa pn pc] V (RsP r V) := hxk
      obtain ⟨y0, y1, y2, y3, hys⟩ := four' hset
      obtain ⟨kk, ksx, kmn, kmx, kt, ka, kc, kks⟩ := kid
      simp only [Nd.set] at hys
      subst hys
      have q0 := hcs 0 _ rfl (by omega)
      have q1 := hcs 1 _ rfl (by omega)
      have q2 := hcs 2 _ rfl (by omega)
      have q3 := hcs 3 _ rfl (by omega)
      have q4 := hcs 4 _ rfl (by omega)
      have q5 := hcs 5 _ rfl (by omega)
      have q6 := hcs 6 _ rfl (by omega)
      have q7 := hcs 7 _ rfl (by omega)
      have q8 := hcs 8 _ rfl (by omega)
      simp only [← Nat.add_assoc, Nat.add_zero, Nd.kind, Nd.a, Nd.kids, Nd.cap, Nd.mn, Nd.mx, Nd.text] at q0 q1 q2 q3 q4 q5 q6 q7 q8
      have hnvk : nv (.mk kk [y0, y1, y2, y3] kmn kmx kt ka kc kks) = .agg #[.int .i64 kk, .int .u64 (y0 : Int), .int .u64 (y1 : Int), .int .u64 (y2 : Int), .int .u64 (y3 : Int), .slice ka kks.length kc, .int .i64 kmn, .int .i64 kmx, .string (Str kt)] := rfl
      rw [hnvk] at hxk
      obtain ⟨kl, hkl⟩ : ∃ kl, kks.length = kl := ⟨_, rfl⟩
      rw [hkl] at hxk q5
      obtain ⟨W5, hW5⟩ : ∃ W5, wr.alloc (.cells #[.int .i64 kk, .int .u64 (y0 : Int), .int .u64 (y1 : Int), .int .u64 (y2 : Int), .int .u64 (y3 : Int), .slice ka kl kc, .int .i64 kmn, .int .i64 kmx, .string (Str kt)] 44) = W5 := ⟨_, rfl⟩
      have b5 : Below wr.heap.size wr W5 := by rw [← hW5]; exact (Below.refl _ _).alloc (Nat.le_refl _) _
      have s5 : W5.heap[wr.heap.size]? = some (.cells #[.int .i64 kk, .int .u64 (y0 : Int), .int .u64 (y1 : Int), .int .u64 (y2 : Int), .int .u64 (y3 : Int), .slice ka kl kc, .int .i64 kmn, .int .i64 kmx, .string (Str kt)] 44 (0, 0)) := by rw [← hW5]; exact heap_alloc_new wr _
      have hx5 := hxk W5 b5
      obtain ⟨u0, u1, u2, u3, u4, u5, u6, u7, u8⟩ := nd_cells s5
      obtain ⟨C, hCm⟩ : ∃ C : Int, ((R j).2.1 : Int) = C := ⟨_, rfl⟩
      rw [hCm] at hx5 ⊢
      have hwl : IntKind.i64.wrap ((lv : Int) + 1) = (lv : Int) + 1 := by rw [IntKind.wrap_i64]; omega
      have HX5 := Lib.hid hx5
      have HW5 := Lib.hid hW5
      have HG := Lib.hid (And.intro (hgw.below b5) (And.intro (hM.trans (Mod.of_below b5 ((W.heap.size + 3) :: g)) (fun q hq => .inl hq)) (And.intro hg (And.intro hme (And.intro hz hRj)))))
      have HLw := Lib.hid (And.intro l4w (And.intro l6w (And.intro hbw b5)))
      have HHz := Lib.hid (And.intro hzr (And.intro hgz hjk))
      have hjl2 : (j : Int) < (nl : Int) := by omega
      clear hx5 hW5 hgw hM hg hme hz hRj l4w l6w hbw b5 s5 hxk hkl hnvk hset hkd hcs hr hRm hszk hI0 hin hrd hall hb0w hC hnl l24 l44 l64 hz4 hB4 hb04 hzr hgz hCm
      go_upto_region 22 with (fail)
      rw [HW5.out]
      clear q0 q1 q2 q3 q4 q5 q6 q7 q8
      go_wp2_with fail
      with_reducible refine HX5.out.mono ?_
      rintro e w6 ⟨m, rfl, h1, h3, h4, hb6⟩
      clear u0 u1 u2 u3 u4 u5 u6 u7 u8
      obtain ⟨hgw5, hM5, hg, hme, hz, hRj⟩ := HG.out
      obtain ⟨l4w, l6w, hbw, b5⟩ := HLw.out
      obtain ⟨hzr, hgz, hjk⟩ := HHz.out
      obtain ⟨v0, v1, v2, v3, hvs⟩ := four' h3.len
      obtain ⟨k', mn', mx', a', nl', c', t', hnv, hclm⟩ := nv_explicit hvs
      have hcl : (cells m).toArray = #[.int .i64 k', .int .u64 (v0 : Int), .int .u64 (v1 : Int), .int .u64 (v2 : Int), .int .u64 (v3 : Int), .slice a' nl' c', .int .i64 mn', .int .i64 mx', .string (Str t')] := by rw [hclm]
      rw [hnv]
      have hgw6 := hgw5.below hb6
      have b7 : Below w6.heap.size w6 (w6.alloc (.cells #[.int .i64 k', .int .u64 (v0 : Int), .int .u64 (v1 : Int), .int .u64 (v2 : Int), .int .u64 (v3 : Int), .slice a' nl' c', .int .i64 mn', .int .i64 mx', .string (Str t')] 44)) := (Below.refl _ _).alloc (Nat.le_refl _) _
      have s7 := heap_alloc_new w6 (.cells #[.int .i64 k', .int .u64 (v0 : Int), .int .u64 (v1 : Int), .int .u64 (v2 : Int), .int .u64 (v3 : Int), .slice a' nl' c', .int .i64 mn', .int .i64 mx', .string (Str t')] 44)
      obtain ⟨W7, hW7⟩ : ∃ W7, w6.alloc (.cells #[.int .i64 k', .int .u64 (v0 : Int), .int .u64 (v1 : Int), .int .u64 (v2 : Int), .int .u64 (v3 : Int), .slice a' nl' c', .int .i64 mn', .int .i64 mx', .string (Str t')] 44) = W7 := ⟨_, rfl⟩
      rw [hW7] at b7 s7
      have hz7 : W7.heap.size = w6.heap.size + 1 := by rw [← hW7]; simp
      have hb57 := hb6.trans (b7.mono hb6.size)
      have hbr7 := b5.trans (hb57.mono b5.size)
      have HW7 := Lib.hid hW7
      by_cases he : r.1 = 0
      rotate_left 1
      · -- an error: nothing more
        have hRe2 : (R (j + 1)).1 ≠ 0 := by rw [hRj]; exact he
        have hRR := HR.out.2.2.2.2
        rw [HR.out.2.2.1 (j + 1) hRe2, hRj] at hRR
        have l47 := (hbr7.block _ (block_lt l4w)).trans l4w
        have l67 := (hbr7.block _ (block_lt l6w)).trans l6w
        have hBW7 := hbw.trans (hbr7.mono hbw.size)
        obtain ⟨u0, u1, u2, u3, u4, u5, u6, u7, u8⟩ := nd_cells l67
        obtain ⟨d0, d1, d2, d3, d4, d5, d6, d7, d8⟩ := nd_cells l47
        obtain ⟨f0, f1, f2, f3, f4, f5, f6, f7, f8⟩ := frz9 l47
        have hpb := put9_block l47 (.int .i64 0) (.int .u64 0) (.int .u64 0) (.int .u64 0) (.int .u64 0) (.slice none 0 0) (.int .i64 0) (.int .i64 0) (.string ⟨#[]⟩)
        have hre : RsP RR W (.returned (.tuple #[nv nil0, .int .i64 (r.2.1 : Int), .int .i64 r.1])) (put9 W7 (W.heap.size + 1) (.int .i64 0) (.int .u64 0) (.int .u64 0) (.int .u64 0) (.int .u64 0) (.slice none 0 0) (.int .i64 0) (.int .i64 0) (.string ⟨#[]⟩)) := by
          rw [← hRR]
          show RsP (r.1, r.2.1, Nd.mk k [x0, x1, x2, x3] mn mx [] none 0 ((R j).2.2 ++ [r.2.2])) W _ _
          exact RsP.no (r := (r.1, r.2.1, Nd.mk k [x0, x1, x2, x3] mn mx [] none 0 ((R j).2.2 ++ [r.2.2]))) he hBW7 (Below.refl _ _) (W.heap.size + 1) (by omega) (put9_mod W7 (W.heap.size + 1) (.int .i64 0) (.int .u64 0) (.int .u64 0) (.int .u64 0) (.int .u64 0) (.slice none 0 0) (.int .i64 0) (.int .i64 0) (.string ⟨#[]⟩))
        obtain ⟨r1, r2, r3⟩ := r
        simp only at he hre ⊢
        have hne : (r1 != 0) = true := by simpa using he
        have HRe := Lib.hid hre
        have HPb := Lib.hid hpb
        clear hre hpb hRR hRe2 hBW7 l47 l67 hbr7 hb57 hz7 b7 s7 hW7 hgw6 hcl hclm hvs hnv hgw5 hM5 hg hme hz hRj l4w l6w hbw b5 hzr hgz h1 h3 h4 hb6
        go_upto_region 23 with (fail)
        rw [HW7.out]
        go_wp2
        ((try simp only [Exit.inBlock, Exit.then]); refine bodyPost_ret (Kt.results_cell3_row rfl _ _ (W.heap.size + 1) 44 _ (0, 0) _ rfl (HPb.out) Tryd.underlying44 rfl ?hi8) rfl ?_; (case hi8 => kernel_rfl))
        exact HRe.out
      · have hgw7 := hgw6.below b7
        have r37 := Is.mono b7.size (Is.below b7 h3)
        have hz5 : W.heap.size + 3 < W5.heap.size := by have := hgw5.blk; exact block_lt this
        have hmb : Bl (fun q => W.heap.size + 3 < q ∧ (Value.slice ma j mc).ownBlock ≠ some q) m := h4.mono fun q hq => ⟨by omega, fun e => by have := (hgw5.own.lt q e).2; omega⟩
        obtain ⟨gg, cap, w8, hrun, k8, f8, hgw8, hM8, hg8⟩ := hgw7.push elRef (by decide) (by omega) m r37 hmb
        have k7 := cell_block (i := 5) (show _ = some (Obj.cells _ _ _) from hgw7.blk)
        simp only [nd9, List.getElem?_toArray, List.getElem?_cons_zero, List.getElem?_cons_succ] at k7
        obtain ⟨e0, e1, e2, e3, e4, e5, e6, e7, e8⟩ := nd_cells s7
        have hM9 : Mod ((W.heap.size + 3) :: ((Value.slice ma j mc).ownBlock.toList ++ g)) W4 (w8.setCell ⟨W.heap.size + 3, 5, none⟩ (.slice (some ⟨gg, 0, none⟩) (j + 1) cap)) := by
          have m1 : Mod ((W.heap.size + 3) :: ((Value.slice ma j mc).ownBlock.toList ++ g)) W4 W7 := ((hM5.sub (by intro q hq; rcases List.mem_cons.1 hq with h | h; exact List.mem_cons.2 (.inl h); exact List.mem_cons.2 (.inr (List.mem_append_right _ h)))).trans (Mod.of_below hb57 ((W.heap.size + 3) :: ((Value.slice ma j mc).ownBlock.toList ++ g))) (fun q hq => .inl hq))
          exact m1.trans hM8 (fun q hq => by
            rcases List.mem_cons.1 hq with h | h
            · exact .inl (List.mem_cons.2 (.inl h))
            · exact .inl (List.mem_cons.2 (.inr (List.mem_append_left _ h))))
        have hg9 : ∀ x ∈ (Value.slice ma j mc).ownBlock.toList ++ g, W.heap.size + 3 < x := fun x hx => by
          rcases List.mem_append.1 hx with h | h
          · exact hg8 x h
          · exact hg x h
        have hfin2 : RsL (W.heap.size + 3) k x0 x1 x2 x3 mn mx ks R W4 (j + 1) (w8.setCell ⟨W.heap.size + 3, 5, none⟩ (.slice (some ⟨gg, 0, none⟩) (j + 1) cap)) := by
          refine ⟨⟨_, _, _, _, hgw8, hM9, hg9, ?_⟩, by rw [hRj]; exact he⟩
          rw [hRj, List.map_append, hme, List.map_cons, List.map_nil, h1 he]
        have hR21 : ((R (j + 1)).2.1 : Int) = (r.2.1 : Int) := by rw [hRj]
        have HFin := Lib.hid hfin2
        have HR21 := Lib.hid hR21
        rw [hcl] at hrun
        obtain ⟨r1, r2, r3⟩ := r
        simp only at he HR21 ⊢
        subst he
        clear hfin2 hM9 hg9 hgw8 hM8 hg8 hmb r37 hz5 hgw7 s7 b7 hz7 hbr7 hb57 hW7 hgw6 hcl hclm hvs hnv hgw5 hM5 hg hme hz hRj l4w l6w hbw b5 hzr hgz h1 h3 h4 hb6 hR21
        go_upto_region 23 with (fail)
        rw [HW7.out]
        go_wp2_with (at_builtin; (with_reducible apply wpList_append_run hrun); rfl; rfl; rfl; rfl; rfl)
        go_roundw
        case rel => first | exact ⟨j + 1, by omega, by go_num, by rw [HR21.out], HFin.out⟩ | ((repeat apply Exists.intro); refine ⟨?r, ?f⟩; (case f => (and_intros <;> rfl)); exact ⟨j + 1, by omega, by go_num, by rw [HR21.out], HFin.out⟩)
        case measure => simp [intOf]; omega
    · obtain rfl : j = nl := by omega
      obtain ⟨u0, u1, u2, u3, u4, u5, u6, u7, u8⟩ := nd_cells (show wr.heap[W.heap.size + 3]? = some (Obj.cells #[.int .i64 k, .int .u64 (x0 : Int), .int .u64 (x1 : Int), .int .u64 (x2 : Int), .int .u64 (x3 : Int), .slice ma j mc, .int .i64 mn, .int .i64 mx, .string ⟨#[]⟩] _ _) from hgw.blk)
      obtain ⟨d0, d1, d2, d3, d4, d5, d6, d7, d8⟩ := nd_cells l4w
      obtain ⟨f0, f1, f2, f3, f4, f5, f6, f7, f8⟩ := frz9 l4w
      have hpb := put9_block l4w (.int .i64 k) (.int .u64 (x0 : Int)) (.int .u64 (x1 : Int)) (.int .u64 (x2 : Int)) (.int .u64 (x3 : Int)) (.slice ma j mc) (.int .i64 mn) (.int .i64 mx) (.string ⟨#[]⟩)
      have hpm := put9_mod wr (W.heap.size + 1) (.int .i64 k) (.int .u64 (x0 : Int)) (.int .u64 (x1 : Int)) (.int .u64 (x2 : Int)) (.int .u64 (x3 : Int)) (.slice ma j mc) (.int .i64 mn) (.int .i64 mx) (.string ⟨#[]⟩)
      have hPP := hgw.node
      have hRR := HR.out.2.2.2.2
      rw [HC.out.2] at hRR
      have hre : RsP RR W (.returned (.tuple #[nv (.mk k [x0, x1, x2, x3] mn mx [] ma mc ms), .int .i64 ((R j).2.1 : Int), .int .i64 0])) (put9 wr (W.heap.size + 1) (.int .i64 k) (.int .u64 (x0 : Int)) (.int .u64 (x1 : Int)) (.int .u64 (x2 : Int)) (.int .u64 (x3 : Int)) (.slice ma j mc) (.int .i64 mn) (.int .i64 mx) (.string ⟨#[]⟩)) := by
        rw [← hRR]
        refine ⟨_, by simp only [hz], fun _ => by simp only [er, ers_map, hme], is_mod hPP.1 hPP.2 hpm (fun b hb => .inl fun hq => by simp at hb; omega), hPP.2.mono fun q hq => by omega, hbw.trans (hpm.toBelow hbw.size (by simp))⟩
      rw [hgw.val] at hre
      have HRe := Lib.hid hre
      have HPb := Lib.hid hpb
      have hjl2 : ¬ (j : Int) < (j : Int) := by omega
      clear hre hpb hpm hPP hRR hgw hM hg hme hz l4w l6w hbw hzr hgz l24 l44 l64 hz4 hB4 hb04
      go_wp2
      ((try simp only [Exit.inBlock, Exit.then]); refine bodyPost_ret (Kt.results_cell3_row rfl _ _ (W.heap.size + 1) 44 _ (0, 0) _ rfl (HPb.out) Tryd.underlying44 rfl ?hi9) rfl ?_; (case hi9 => kernel_rfl))
      exact HRe.out
end Bo
end Go.Proofs.YteekonojmpihlaaDoor
