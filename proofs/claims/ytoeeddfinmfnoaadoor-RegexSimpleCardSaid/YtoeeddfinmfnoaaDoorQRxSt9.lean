import Derived.Test.YtoeeddfinmfnoaaDoorQRxName
import Derived.Test.YtoeeddfinmfnoaaDoorQIRows
/- A node's nine cells stored at once; a row of one node built. -/
namespace Go.Proofs.YtoeeddfinmfnoaaDoor
namespace Kt
end Kt
namespace Sp
end Sp
namespace St
end St
namespace Bk
end Bk
namespace Bo
end Bo
namespace Tr
end Tr
open Go Go.RowKit Kt Sp St Bk Bo Tr
namespace Rx
theorem elNd : El Tryd.prog 25 27 (.agg #[.int .i64 0, .int .u64 0, .int .u64 0, .int .u64 0, .int .u64 0, .slice none 0 0, .int .i64 0, .int .i64 0, .string ⟨#[]⟩]) 9 96 := ⟨Tryd.underlying25, info_parts (by kernel_rfl), rfl, by decide⟩
theorem build_nd (k mn mx : Int) (x0 x1 x2 x3 nl c : Nat) (a : Option Addr) (t : List UInt8) (W : World) : (Instr.buildSlice 25 1 #[(0, .agg #[.int .i64 k, .int .u64 (x0 : Int), .int .u64 (x1 : Int), .int .u64 (x2 : Int), .int .u64 (x3 : Int), .slice a nl c, .int .i64 mn, .int .i64 mx, .string (Str t)])]).run Tryd.prog W = .ok (.slice (some ⟨W.heap.size, 0, none⟩) 1 1) (W.alloc (.cells #[.int .i64 k, .int .u64 (x0 : Int), .int .u64 (x1 : Int), .int .u64 (x2 : Int), .int .u64 (x3 : Int), .slice a nl c, .int .i64 mn, .int .i64 mx, .string (Str t)] 27)) :=
  build_one elNd (by omega) (v := .agg #[.int .i64 k, .int .u64 (x0 : Int), .int .u64 (x1 : Int), .int .u64 (x2 : Int), .int .u64 (x3 : Int), .slice a nl c, .int .i64 mn, .int .i64 mx, .string (Str t)]) rfl W
set_option maxRecDepth 100000 in
theorem run_store9 {W : World} {R : Nat} (hV : W.heap[R]? = some Z9) (k mn mx : Int) (x0 x1 x2 x3 nl c : Nat) (a : Option Addr) (t : List UInt8) :
    (storeCells ⟨R, 0, none⟩ [.int .i64 k, .int .u64 (x0 : Int), .int .u64 (x1 : Int), .int .u64 (x2 : Int), .int .u64 (x3 : Int), .slice a nl c, .int .i64 mn, .int .i64 mx, .string (Str t)] 0).run Tryd.prog W = .ok () (put9 W R (.int .i64 k) (.int .u64 (x0 : Int)) (.int .u64 (x1 : Int)) (.int .u64 (x2 : Int)) (.int .u64 (x3 : Int)) (.slice a nl c) (.int .i64 mn) (.int .i64 mx) (.string (Str t))) := by
  obtain ⟨⟨d0, d1, d2, d3, d4, d5, d6, d7, d8⟩, g0, g1, g2, g3, g4, g5, g6, g7, g8⟩ := z9_cells hV
  clear hV
  unfold put9
  go_simp
set_option maxRecDepth 100000 in
theorem wp_store9 {o : Oper} {a : Act} {W : World} {K : Act → World → Prop} {Q : Exit → Act → World → Prop} {R : Nat} {d v : Operand} {k mn mx : Int} {x0 x1 x2 x3 nl c : Nat} {ad : Option Addr} {t : List UInt8} (ho : o.op = .store 27 d v) (hdst : o.dst = none) (hd : a.eval d = .pointer (some ⟨R, 0, none⟩)) (hv : a.eval v = .agg #[.int .i64 k, .int .u64 (x0 : Int), .int .u64 (x1 : Int), .int .u64 (x2 : Int), .int .u64 (x3 : Int), .slice ad nl c, .int .i64 mn, .int .i64 mx, .string (Str t)]) (hV : W.heap[R]? = some Z9)
    (hk : K a (put9 W R (.int .i64 k) (.int .u64 (x0 : Int)) (.int .u64 (x1 : Int)) (.int .u64 (x2 : Int)) (.int .u64 (x3 : Int)) (.slice ad nl c) (.int .i64 mn) (.int .i64 mx) (.string (Str t)))) : o.wp Tryd.prog a W K Q := by
  obtain ⟨⟨d0, d1, d2, d3, d4, d5, d6, d7, d8⟩, g0, g1, g2, g3, g4, g5, g6, g7, g8⟩ := z9_cells hV
  obtain ⟨op, dst, ty, pos, af, gu⟩ := o
  simp only at ho hdst
  subst ho hdst
  clear hV
  unfold put9 at hk
  unfold Oper.wp execOp
  simp only [hd, hv]
  go_simp
  exact hk
set_option maxRecDepth 100000 in
theorem wp_store9n {o : Oper} {a : Act} {W : World} {K : Act → World → Prop} {Q : Exit → Act → World → Prop} {R : Nat} {d v : Operand} {k mn mx : Int} {x0 x1 x2 x3 nl c : Nat} {ad : Option Addr} {t : List UInt8} (ho : o.op = .store 27 d v) (hdst : o.dst = none) (hd : a.eval d = .pointer (some ⟨R, 0, none⟩)) (hv : a.eval v = .agg #[.int .i64 k, .int .u64 (x0 : Int), .int .u64 (x1 : Int), .int .u64 (x2 : Int), .int .u64 (x3 : Int), .slice ad nl c, .int .i64 mn, .int .i64 mx, .string (Str t)]) {u0 u1 u2 u3 u4 u5 u6 u7 u8 : Value} (hV : W.heap[R]? = some (.cells #[u0, u1, u2, u3, u4, u5, u6, u7, u8] 27 (0, 0)))
    (hk : K a (put9 W R (.int .i64 k) (.int .u64 (x0 : Int)) (.int .u64 (x1 : Int)) (.int .u64 (x2 : Int)) (.int .u64 (x3 : Int)) (.slice ad nl c) (.int .i64 mn) (.int .i64 mx) (.string (Str t)))) : o.wp Tryd.prog a W K Q := by
  have d0 : W.cell? ⟨R, 0, none⟩ = some u0 := cell_block hV 0
  have d1 : W.cell? ⟨R, 1, none⟩ = some u1 := cell_block hV 1
  have d2 : W.cell? ⟨R, 2, none⟩ = some u2 := cell_block hV 2
  have d3 : W.cell? ⟨R, 3, none⟩ = some u3 := cell_block hV 3
  have d4 : W.cell? ⟨R, 4, none⟩ = some u4 := cell_block hV 4
  have d5 : W.cell? ⟨R, 5, none⟩ = some u5 := cell_block hV 5
  have d6 : W.cell? ⟨R, 6, none⟩ = some u6 := cell_block hV 6
  have d7 : W.cell? ⟨R, 7, none⟩ = some u7 := cell_block hV 7
  have d8 : W.cell? ⟨R, 8, none⟩ = some u8 := cell_block hV 8
  obtain ⟨g0, g1, g2, g3, g4, g5, g6, g7, g8⟩ := frz9 hV
  obtain ⟨op, dst, ty, pos, af, gu⟩ := o
  simp only at ho hdst
  subst ho hdst
  clear hV
  unfold put9 at hk
  unfold Oper.wp execOp
  simp only [hd, hv]
  go_simp
  exact hk
end Rx
end Go.Proofs.YtoeeddfinmfnoaaDoor
