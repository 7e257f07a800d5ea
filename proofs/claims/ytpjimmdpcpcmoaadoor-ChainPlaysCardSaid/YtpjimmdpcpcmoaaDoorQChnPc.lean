import Derived.Test.YtpjimmdpcpcmoaaDoorQChnRef3
import Derived.Test.YtpjimmdpcpcmoaaDoorQChnBegin
/- The state of ChainPlays: two chains of one pool, their two models, a Share, an act. -/
namespace Go.Proofs.YtpjimmdpcpcmoaaDoor
open Go Go.RowKit Kt
namespace Ch
open Po
variable {w0 W W' w' : World} {p x y v u sb qb : Nat} {ob : Obj} {cx cy mx my cx' mx' : Cn} {qx qy n s o o' : Nat} {Kv Ku : List Nat}
structure Pcs (w0 W : World) (p x y v u sb qb : Nat) (ob : Obj) (cx cy mx my : Cn) (qx qy n s o : Nat) (Kv Ku : List Nat) : Prop where
  T : TwX w0 W p x y cx cy qx qy n s (qb :: sb :: (Kv ++ Ku))
  V : RC W v Kv qx mx
  U : RC W u Ku qy my
  sk : W.heap[sb]? = some (.cells #[.int .i64 (n : Int), .int .i64 (s : Int), .int .i64 (o : Int)] 80 (0, 0))
  qk : W.heap[qb]? = some ob
  d1 : ∀ g ∈ Kv, g ∉ Ku
  d2 : sb ∉ Kv ∧ sb ∉ Ku
  d3 : qb ∉ Kv ∧ qb ∉ Ku ∧ qb ≠ sb
  lo : ∀ g ∈ sb :: (Kv ++ Ku), w0.heap.size ≤ g
def Pc (w0 W : World) (p x y v u sb qb : Nat) (ob : Obj) (cx cy mx my : Cn) (qx qy n s o : Nat) : Prop := ∃ Kv Ku, Pcs w0 W p x y v u sb qb ob cx cy mx my qx qy n s o Kv Ku
theorem Pc.swap (h : Pc w0 W p x y v u sb qb ob cx cy mx my qx qy n s o) : Pc w0 W p y x u v sb qb ob cy cx my mx qy qx n s o := by
  obtain ⟨Kv, Ku, h⟩ := h
  have hm : ∀ g ∈ qb :: sb :: (Ku ++ Kv), g ∈ qb :: sb :: (Kv ++ Ku) := fun g hg => by
    simp only [List.mem_cons, List.mem_append] at hg ⊢
    rcases hg with h1 | h1 | h1 | h1 <;> simp [h1]
  exact ⟨Ku, Kv, h.T.swap.keep hm, h.U, h.V, h.sk, h.qk, fun g h1 h2 => h.d1 g h2 h1, ⟨h.d2.2, h.d2.1⟩, ⟨h.d3.2.1, h.d3.1, h.d3.2.2⟩, fun g hg => h.lo g (by simp only [List.mem_cons, List.mem_append] at hg ⊢; rcases hg with h1 | h1 | h1 <;> simp [h1])⟩
theorem Pc.below (h : Pc w0 W p x y v u sb qb ob cx cy mx my qx qy n s o) (hb : Below W.heap.size W W') : Pc w0 W' p x y v u sb qb ob cx cy mx my qx qy n s o := by
  obtain ⟨Kv, Ku, h⟩ := h
  exact ⟨Kv, Ku, h.T.below hb, h.V.below hb, h.U.below hb, (hb.block sb (block_lt h.sk)).trans h.sk, (hb.block qb (block_lt h.qk)).trans h.qk, h.d1, h.d2, h.d3, h.lo⟩
theorem Pc.B (h : Pc w0 W p x y v u sb qb ob cx cy mx my qx qy n s o) : Below w0.heap.size w0 W := by obtain ⟨_, _, h⟩ := h; exact h.T.B
theorem Pc.tw (h : Pc w0 W p x y v u sb qb ob cx cy mx my qx qy n s o) : TwX w0 W p x y cx cy qx qy n s [] := by obtain ⟨_, _, h⟩ := h; exact h.T.keep (by simp)
theorem Pc.qk (h : Pc w0 W p x y v u sb qb ob cx cy mx my qx qy n s o) : W.heap[qb]? = some ob := by obtain ⟨_, _, h⟩ := h; exact h.qk
theorem Pc.sk (h : Pc w0 W p x y v u sb qb ob cx cy mx my qx qy n s o) : W.heap[sb]? = some (.cells #[.int .i64 (n : Int), .int .i64 (s : Int), .int .i64 (o : Int)] 80 (0, 0)) := by obtain ⟨_, _, h⟩ := h; exact h.sk
theorem Pc.mdl (h : Pc w0 W p x y v u sb qb ob cx cy mx my qx qy n s o) : ∃ K, RC W v K qx mx := by obtain ⟨_, _, h⟩ := h; exact ⟨_, h.V⟩
/-- A call on the first chain. -/
theorem Pc.chain {f : FuncId} {vs : Array Value} {val : Value} (h : Pc w0 W p x y v u sb qb ob cx cy mx my qx qy n s o) (hc : ∀ K, TwX w0 W p x y cx cy qx qy n s K → Calls Tryd.prog f vs W fun e w' => e = .returned val ∧ TwX w0 w' p x y cx' cy qx qy n s K ∧ Stay K W w') :
    Calls Tryd.prog f vs W fun e w' => e = .returned val ∧ Pc w0 w' p x y v u sb qb ob cx' cy mx my qx qy n s o := by
  obtain ⟨Kv, Ku, h⟩ := h
  refine (hc _ h.T).mono ?_
  rintro e w' ⟨rfl, h1, h2⟩
  obtain ⟨M, hM, hd⟩ := id h2
  exact ⟨rfl, Kv, Ku, h1, h.V.mod hM (fun g hg => hd g (by simp [hg])), h.U.mod hM (fun g hg => hd g (by simp [hg])), (h2.block (by simp) (block_lt h.sk)).trans h.sk, (h2.block (by simp) (block_lt h.qk)).trans h.qk, h.d1, h.d2, h.d3, h.lo⟩
/-- A call on the first model. -/
theorem Pc.model {f : FuncId} {vs : Array Value} {val : Value} (h : Pc w0 W p x y v u sb qb ob cx cy mx my qx qy n s o) (hc : ∀ K, RC W v K qx mx → Calls Tryd.prog f vs W fun e w' => e = .returned val ∧ ∃ K', RC w' v K' qx mx' ∧ Mod [v] W w' ∧ Fr K' K W.heap.size) :
    Calls Tryd.prog f vs W fun e w' => e = .returned val ∧ Pc w0 w' p x y v u sb qb ob cx cy mx' my qx qy n s o := by
  obtain ⟨Kv, Ku, h⟩ := h
  refine (hc _ h.V).mono ?_
  rintro e w' ⟨rfl, K', h1, hM, hF⟩
  have hv := h.V.mem
  have hul := h.U.lts
  have hvl := h1.lts
  have hB := h.T.B.size
  have hsl := block_lt h.sk
  have hql := block_lt h.qk
  have hsz := hM.size
  have hvs : sb ∉ [v] := by
    simp only [List.mem_singleton]
    intro e
    exact h.d2.1 (e ▸ hv)
  have hvq : qb ∉ [v] := by
    simp only [List.mem_singleton]
    intro e
    exact h.d3.1 (e ▸ hv)
  refine ⟨rfl, K', Ku, h.T.other hM (fun g hg => .inl ?_) (fun g hg => ?_) (fun g hg => ?_), h1, h.U.mod hM (fun g hg e => ?_), (hM.block sb hsl hvs).trans h.sk, (hM.block qb hql hvq).trans h.qk, fun g hg e => ?_, ⟨fun e => ?_, h.d2.2⟩, ⟨fun e => ?_, h.d3.2.1, h.d3.2.2⟩, fun g hg => ?_⟩
  · simp only [List.mem_singleton] at hg
    subst hg
    simp [hv]
  · simp only [List.mem_cons, List.mem_append] at hg
    rcases hg with rfl | rfl | hg | hg
    · exact ⟨.inl (by simp), by omega⟩
    · exact ⟨.inl (by simp), by omega⟩
    · refine ⟨?_, hvl g hg⟩
      rcases hF g hg with h2 | h2
      · exact .inl (by simp [h2])
      · exact .inr h2
    · exact ⟨.inl (by simp [hg]), by have := hul g hg; omega⟩
  · simp only [List.mem_singleton] at hg
    subst hg
    exact h.lo g (by simp [hv])
  · simp only [List.mem_singleton] at e
    subst e
    exact h.d1 g hv hg
  · rcases hF g hg with h2 | h2
    · exact h.d1 g h2 e
    · have := hul g e; omega
  · rcases hF sb e with h2 | h2
    · exact h.d2.1 h2
    · omega
  · rcases hF qb e with h2 | h2
    · exact h.d3.1 h2
    · omega
  · simp only [List.mem_cons, List.mem_append] at hg
    rcases hg with rfl | hg | hg
    · exact h.lo g (by simp)
    · rcases hF g hg with h2 | h2
      · exact h.lo g (by simp [h2])
      · omega
    · exact h.lo g (by simp [hg])
/-- The Share's Others are set. -/
theorem Pc.others (h : Pc w0 W p x y v u sb qb ob cx cy mx my qx qy n s o) (o' : Nat) : Pc w0 (W.setCell ⟨sb, 2, none⟩ (.int .i64 (o' : Int))) p x y v u sb qb ob cx cy mx my qx qy n s o' := by
  obtain ⟨Kv, Ku, h⟩ := h
  have hM : Mod [sb] W (W.setCell ⟨sb, 2, none⟩ (.int .i64 (o' : Int))) := (Mod.refl [sb] W).setCell (.inl (by simp)) _
  have hul := h.U.lts
  have hvl := h.V.lts
  have hsl := block_lt h.sk
  have hql := block_lt h.qk
  have hsz := hM.size
  refine ⟨Kv, Ku, h.T.other hM (fun g hg => .inl (by simp only [List.mem_singleton] at hg; simp [hg])) (fun g hg => ?_) (fun g hg => by simp only [List.mem_singleton] at hg; subst hg; exact h.lo g (by simp)), h.V.mod hM (fun g hg e => ?_), h.U.mod hM (fun g hg e => ?_), block_setCell h.sk _, (hM.block qb hql (by simpa using h.d3.2.2)).trans h.qk, h.d1, h.d2, h.d3, h.lo⟩
  · refine ⟨.inl hg, ?_⟩
    simp only [List.mem_cons, List.mem_append] at hg
    rcases hg with rfl | rfl | hg | hg
    · omega
    · omega
    · have := hvl g hg; omega
    · have := hul g hg; omega
  · simp only [List.mem_singleton] at e
    subst e
    exact h.d2.1 hg
  · simp only [List.mem_singleton] at e
    subst e
    exact h.d2.2 hg
/-- A new act's block. -/
theorem Pc.act (h : Pc w0 W p x y v u sb qb ob cx cy mx my qx qy n s o) (ob' : Obj) : Pc w0 (W.alloc ob') p x y v u sb W.heap.size ob' cx cy mx my qx qy n s o := by
  obtain ⟨Kv, Ku, h⟩ := h
  have hb := (Below.refl W.heap.size W).alloc (Nat.le_refl _) ob'
  have hul := h.U.lts
  have hvl := h.V.lts
  have hsl := block_lt h.sk
  have hql := block_lt h.qk
  refine ⟨Kv, Ku, h.T.other (M := []) (Mod.of_below hb []) (by simp) (fun g hg => ?_) (by simp), h.V.below hb, h.U.below hb, (hb.block sb hsl).trans h.sk, heap_alloc_new W _, h.d1, h.d2, ⟨fun e => by have := hvl _ e; omega, fun e => by have := hul _ e; omega, by omega⟩, h.lo⟩
  have hsz := hb.size
  simp only [List.mem_cons, List.mem_append] at hg
  rcases hg with rfl | rfl | hg | hg
  · exact ⟨.inr (Nat.le_refl _), by simp⟩
  · exact ⟨.inl (by simp), by omega⟩
  · exact ⟨.inl (by simp [hg]), by have := hvl g hg; omega⟩
  · exact ⟨.inl (by simp [hg]), by have := hul g hg; omega⟩
theorem Pc.num (E : Nat → Addr) (hs : Sent 169 w0 E Er.egs) (h : Pc w0 W p x y v u sb qb ob cx cy mx my qx qy n s o) {k : Int} (h0 : 0 ≤ k) (h1 : k ≤ 18) :
    Calls Tryd.prog 22 #[ee E k] W fun e w' => e = .returned (.int .i64 k) ∧ Pc w0 w' p x y v u sb qb ob cx cy mx my qx qy n s o :=
  (num_ee E k h0 h1 W (hs.keep h.B)).mono fun _ _ ⟨h2, h3⟩ => ⟨h2, h.below h3⟩
theorem Pc.rheld (h : Pc w0 W p x y v u sb qb ob cx cy mx my qx qy n s o) (hs : 0 < s) (hs2 : s ≤ 64) (hf : mx.frm + mx.all.length ≤ 1000000000000) (o2 : Nat) :
    Calls Tryd.prog 40 #[.pointer (some ⟨v, 0, none⟩), .agg #[.int .i64 (n : Int), .int .i64 (s : Int), .int .i64 (o2 : Int)]] W fun e w' => e = .returned (.int .i64 (need s mx.frm mx.all.length : Int)) ∧ Pc w0 w' p x y v u sb qb ob cx cy mx my qx qy n s o := by
  obtain ⟨K, hv⟩ := h.mdl
  exact (rheld_c n s o2 hv hs hf hs2).mono fun _ _ ⟨h1, h2⟩ => ⟨h1, h.below h2⟩
theorem Pc.rpush (h : Pc w0 W p x y v u sb qb ob cx cy mx my qx qy n s o) (a : Option Addr) (cap : Nat) (b : List UInt8) (hs : 0 < s) (hs2 : s ≤ 64) (hn : n ≤ 1000) (ho : o ≤ 1000) (hf : mx.frm < s) (hz : mx.all = [] → mx.frm = 0) (hcm : mx.came + b.length ≤ 1000000) (hcw : mx.went + mx.all.length = mx.came) (hr : Rd w0 a (u8s b)) :
    Calls Tryd.prog 41 #[.pointer (some ⟨v, 0, none⟩), .agg #[.int .i64 (n : Int), .int .i64 (s : Int), .int .i64 (o : Int)], .slice a b.length cap] W fun e w' => e = .returned (.tuple #[.int .i64 ((psh (one s mx.frm qx o n) mx.all.length b.length).1 : Int), .int .i64 (psh (one s mx.frm qx o n) mx.all.length b.length).2]) ∧
      Pc w0 w' p x y v u sb qb ob cx cy (psd mx (b.take (psh (one s mx.frm qx o n) mx.all.length b.length).1)) my qx qy n s o := by
  have hlo : w0.heap.size ≤ v := by
    obtain ⟨Kv, Ku, h1⟩ := h
    exact h1.lo v (by simp [h1.V.mem])
  have hB := h.B
  refine h.model (fun K hv => rpush_c n s o a cap b hv hs hs2 hn ho hf hz hcm hcw (fun W' hM => hr.keep (hB.trans (hM.toBelow hB.size (fun g hg => by simp only [List.mem_singleton] at hg; subst hg; exact hlo)))))
theorem Pc.rdrop (h : Pc w0 W p x y v u sb qb ob cx cy mx my qx qy n s o) (i : Int) (hs : 0 < s) (hs2 : s ≤ 64) (hf : mx.frm < s) (hcm : mx.came ≤ 1000000) (hcw : mx.went + mx.all.length = mx.came) :
    Calls Tryd.prog 42 #[.pointer (some ⟨v, 0, none⟩), .agg #[.int .i64 (n : Int), .int .i64 (s : Int), .int .i64 (o : Int)], .int .i64 i] W fun e w' => e = .returned (.int .i64 (if 0 ≤ i ∧ i ≤ (mx.all.length : Int) then 0 else 1)) ∧ Pc w0 w' p x y v u sb qb ob cx cy (if 0 ≤ i ∧ i ≤ (mx.all.length : Int) then drp s mx i.toNat else mx) my qx qy n s o := by
  by_cases hi : 0 ≤ i ∧ i ≤ (mx.all.length : Int)
  · rw [if_pos hi, if_pos hi]
    obtain ⟨j, rfl⟩ : ∃ j : Nat, i = (j : Int) := ⟨i.toNat, by omega⟩
    rw [Int.toNat_natCast]
    exact h.model (fun K hv => (rdrop_yes n s o j hv hs hs2 hf (by omega) hcw (by omega)).mono fun _ _ ⟨h1, h2, h3⟩ => ⟨h1, K, h2, h3, fun _ h => .inl h⟩)
  · rw [if_neg hi, if_neg hi]
    obtain ⟨K, hv⟩ := h.mdl
    exact (rdrop_no n s o i hv (by omega)).mono fun _ _ ⟨h1, h2⟩ => ⟨h1, h.below h2⟩
theorem TwX.atb {K : List Nat} (E : Nat → Addr) (i : Int) (hs : Sent 169 w0 E Er.egs) (h : TwX w0 W p x y cx cy qx qy n s K) (hb : cx.came ≤ 1000000000) :
    Calls Tryd.prog 43 #[.pointer (some ⟨x, 0, none⟩), .int .i64 i] W fun e w' => e = .returned (.tuple #[.int .u8 ((if 0 ≤ i then cx.all.getD i.toNat 0 else 0).toNat : Int), ee E (if 0 ≤ i ∧ i < (cx.all.length : Int) then 0 else 1)]) ∧ Below W.heap.size W w' := by
  have hcw := h.cw
  obtain ⟨L, Sx, Sy, m, lx, ly, h, hK⟩ := h
  exact at_c E i h.wx (hs.keep h.B) h.X (by omega)
theorem TwX.low {K : List Nat} {q : Nat} (h : TwX w0 W p x y cx cy qx qy n s K) (hq : q < w0.heap.size) : TwX w0 W p x y cx cy qx qy n s (q :: K) := by
  obtain ⟨L, Sx, Sy, m, lx, ly, h, hK⟩ := h
  refine ⟨L, Sx, Sy, m, lx, ly, h, fun g hg => ?_⟩
  rcases List.mem_cons.1 hg with rfl | hg
  · exact ⟨Nat.lt_of_lt_of_le hq h.B.size, fun hm => by have := h.lo g hm; omega⟩
  · exact hK g hg
end Ch
end Go.Proofs.YtpjimmdpcpcmoaaDoor
