import Derived.Test.YtpjimmdpcpcmoaaDoorQChnLong
/- Two chains of one pool; begin. Conditions: the sentinels, and the table of TrailingZeros64, read as laid. -/
namespace Go.Proofs.YtpjimmdpcpcmoaaDoor
open Go Go.RowKit Kt
namespace Ch
open Po
variable {w0 w w' w2 w3 W W' : World} {K K' : List Nat} {p x y : Nat} {L L' Sx Sy : List Nat} {m m' : Md} {lx ly : List Nat} {cx cy cx' : Cn} {qx qy n s : Nat}
/-- Two chains over one pool, all made behind w0. -/
structure Tw (w0 W : World) (p x y : Nat) (L Sx Sy : List Nat) (m : Md) (lx ly : List Nat) (cx cy : Cn) (qx qy n s : Nat) : Prop where
  X : CS W p x L Sx m lx cx
  Y : CS W p y L Sy m ly cy
  B : Below w0.heap.size w0 W
  lo : ∀ q ∈ L ++ x :: (Sx ++ y :: Sy), w0.heap.size ≤ q
  xy : ∀ q ∈ x :: Sx, q ∉ y :: Sy
  ne : cx.acc ≠ cy.acc
  us : used m.own = held m.own cx.acc + held m.own cy.acc
  qx : crd m.acc cx.acc = some (qx : Int)
  qy : crd m.acc cy.acc = some (qy : Int)
  n : m.own.length = n
  s : m.size = s
  wx : (Lit.int .i64 cx.acc).wf = true
  wy : (Lit.int .i64 cy.acc).wf = true
def TwX (w0 W : World) (p x y : Nat) (cx cy : Cn) (qx qy n s : Nat) (K : List Nat) : Prop := ∃ L Sx Sy m lx ly, Tw w0 W p x y L Sx Sy m lx ly cx cy qx qy n s ∧ ∀ q ∈ K, q < W.heap.size ∧ q ∉ L ++ x :: (Sx ++ y :: Sy)
/-- The blocks K stay. -/
def Stay (K : List Nat) (W W' : World) : Prop := ∃ M, Mod M W W' ∧ ∀ q ∈ K, q ∉ M
theorem Stay.of (K : List Nat) (hb : Below W.heap.size W W') : Stay K W W' := ⟨[], Mod.of_below hb _, by simp⟩
theorem Stay.block (h : Stay K W W') {q : Nat} (hq : q ∈ K) (hl : q < W.heap.size) : W'.heap[q]? = W.heap[q]? := by
  obtain ⟨M, h1, h2⟩ := h
  exact h1.block q hl (h2 q hq)
theorem TwX.swap (h : TwX w0 W p x y cx cy qx qy n s K) : TwX w0 W p y x cy cx qy qx n s K := by
  obtain ⟨L, Sx, Sy, m, lx, ly, h, hK⟩ := h
  refine ⟨L, Sy, Sx, m, ly, lx, ⟨h.Y, h.X, h.B, fun q hq => h.lo q ?_, fun q hq hm => h.xy q hm hq, fun e => h.ne e.symm, by rw [h.us, Nat.add_comm], h.qy, h.qx, h.n, h.s, h.wy, h.wx⟩, fun q hq => ⟨(hK q hq).1, fun hm => (hK q hq).2 ?_⟩⟩
  · simp only [List.mem_append, List.mem_cons] at hq ⊢
    rcases hq with h1 | h1 | h1 | h1 | h1 <;> simp [h1]
  · simp only [List.mem_append, List.mem_cons] at hm ⊢
    rcases hm with h1 | h1 | h1 | h1 | h1 <;> simp [h1]
theorem TwX.below (h : TwX w0 W p x y cx cy qx qy n s K) (hb : Below W.heap.size W W') : TwX w0 W' p x y cx cy qx qy n s K := by
  obtain ⟨L, Sx, Sy, m, lx, ly, h, hK⟩ := h
  exact ⟨L, Sx, Sy, m, lx, ly, ⟨h.X.below hb, h.Y.below hb, h.B.trans (hb.mono h.B.size), h.lo, h.xy, h.ne, h.us, h.qx, h.qy, h.n, h.s, h.wx, h.wy⟩, fun q hq => ⟨Nat.lt_of_lt_of_le (hK q hq).1 hb.size, (hK q hq).2⟩⟩
/-- Other blocks are kept besides. -/
theorem TwX.keep (h : TwX w0 W p x y cx cy qx qy n s K) (hK' : ∀ q ∈ K', q ∈ K) : TwX w0 W p x y cx cy qx qy n s K' := by
  obtain ⟨L, Sx, Sy, m, lx, ly, h, hK⟩ := h
  exact ⟨L, Sx, Sy, m, lx, ly, h, fun q hq => hK q (hK' q hq)⟩
/-- What writes only into blocks that are kept, and makes memory, leaves the chains; what it made may be kept too. -/
theorem TwX.other {M : List Nat} (h : TwX w0 W p x y cx cy qx qy n s K) (hM : Mod M W W') (hd : ∀ q ∈ M, q ∈ K ∨ W.heap.size ≤ q) (hK' : ∀ q ∈ K', (q ∈ K ∨ W.heap.size ≤ q) ∧ q < W'.heap.size) (hlo : ∀ q ∈ M, w0.heap.size ≤ q) : TwX w0 W' p x y cx cy qx qy n s K' := by
  obtain ⟨L, Sx, Sy, m, lx, ly, h, hK⟩ := h
  have hl1 := h.X.P.lts
  have hl2 := h.X.C.lts
  have hl3 := h.Y.C.lts
  have hlt : ∀ q ∈ L ++ x :: (Sx ++ y :: Sy), q < W.heap.size := fun q hq => by
    have h5 : q ∈ L ∨ q ∈ x :: Sx ∨ q ∈ y :: Sy := by
      simp only [List.mem_append, List.mem_cons] at hq ⊢
      rcases hq with h1 | h1 | h1 | h1 | h1 <;> simp [h1]
    rcases h5 with h5 | h5 | h5
    · exact hl1 q h5
    · exact hl2 q h5
    · exact hl3 q h5
  have hno : ∀ q ∈ L ++ x :: (Sx ++ y :: Sy), q ∉ M := fun q hq hm => by
    rcases hd q hm with h5 | h5
    · exact (hK q h5).2 hq
    · have := hlt q hq; omega
  refine ⟨L, Sx, Sy, m, lx, ly, ⟨h.X.mod hM (fun q hq => hno q (by simp [hq])) (fun q hq => hno q ?_), h.Y.mod hM (fun q hq => hno q (by simp [hq])) (fun q hq => hno q ?_), h.B.trans (hM.toBelow h.B.size hlo), h.lo, h.xy, h.ne, h.us, h.qx, h.qy, h.n, h.s, h.wx, h.wy⟩, fun q hq => ⟨(hK' q hq).2, fun hm => ?_⟩⟩
  · simp only [List.mem_append, List.mem_cons] at hq ⊢
    rcases hq with h1 | h1 <;> simp [h1]
  · simp only [List.mem_append, List.mem_cons] at hq ⊢
    rcases hq with h1 | h1 <;> simp [h1]
  · rcases (hK' q hq).1 with h5 | h5
    · exact (hK q h5).2 hm
    · have := hlt q hm; omega
theorem TwX.B (h : TwX w0 W p x y cx cy qx qy n s K) : Below w0.heap.size w0 W := by obtain ⟨_, _, _, _, _, _, h, _⟩ := h; exact h.B
theorem Tw.bs (h : Tw w0 W p x y L Sx Sy m lx ly cx cy qx qy n s) : Bs w0 W x L Sx := ⟨h.B, fun q hq => h.lo q (by simp only [List.mem_append, List.mem_cons] at hq ⊢; rcases hq with h1 | h1 | h1 <;> simp [h1])⟩
theorem Tw.step (h : Tw w0 W p x y L Sx Sy m lx ly cx cy qx qy n s) (hS : St W p x L Sx m cx.acc cx' W') (ha : cx'.acc = cx.acc) (hK : ∀ q ∈ K, q < W.heap.size ∧ q ∉ L ++ x :: (Sx ++ y :: Sy)) : TwX w0 W' p x y cx' cy qx qy n s K ∧ Stay K W W' := by
  obtain ⟨L', S', m', l', h1, h2, h3, h4⟩ := hS
  have hyl := h.Y.C.lts
  have hd1 : ∀ q ∈ y :: Sy, q ∉ L ++ x :: Sx := fun q hq hm => by
    rcases List.mem_append.1 hm with h5 | h5
    · exact h.Y.d q hq h5
    · exact h.xy q h5 hq
  have hd2 : ∀ q ∈ y :: Sy, q ∉ L' ++ S' := fun q hq hm => by
    rcases h4 q hm with h5 | h5
    · exact hd1 q hq (by simp only [List.mem_append, List.mem_cons] at h5 ⊢; rcases h5 with h5 | h5 <;> simp [h5])
    · have := hyl q hq; omega
  have hd3 : ∀ q ∈ K, q ∉ L ++ x :: Sx := fun q hq hm => (hK q hq).2 (by simp only [List.mem_append, List.mem_cons] at hm ⊢; rcases hm with h1 | h1 | h1 <;> simp [h1])
  refine ⟨⟨L', S', Sy, m', l', ly, ⟨h1, ⟨h1.P, h.Y.C.mod h3 hd1, fun q hq hm => hd2 q hq (by simp [hm]), h.Y.ok.other h.Y.P.ok h2 (fun e => h.ne e.symm)⟩, h.bs.mod h3, fun q hq => ?_, fun q hq hm => ?_, by rw [ha]; exact h.ne, ?_, by rw [ha, h2.acc]; exact h.qx, by rw [h2.acc]; exact h.qy, by rw [h2.len]; exact h.n, by rw [h2.size]; exact h.s, by rw [ha]; exact h.wx, h.wy⟩, fun q hq => ⟨Nat.lt_of_lt_of_le (hK q hq).1 h3.size, fun hm => ?_⟩⟩, _, h3, hd3⟩
  · have hb := h.B.size
    have h5 : q ∈ L' ++ S' ∨ q = x ∨ q ∈ y :: Sy := by
      simp only [List.mem_append, List.mem_cons] at hq ⊢
      rcases hq with h1 | h1 | h1 | h1 | h1 <;> simp [h1]
    rcases h5 with h5 | h5 | h5
    · rcases h4 q h5 with h6 | h6
      · exact h.lo q (by simp only [List.mem_append, List.mem_cons] at h6 ⊢; rcases h6 with h6 | h6 <;> simp [h6])
      · omega
    · exact h.lo q (by simp [h5])
    · exact h.lo q (by simp only [List.mem_append, List.mem_cons] at h5 ⊢; rcases h5 with h5 | h5 <;> simp [h5])
  · rcases List.mem_cons.1 hq with h5 | h5
    · exact h.xy q (by simp [h5]) hm
    · exact hd2 q hm (by simp [h5])
  · rw [ha, h2.hd cy.acc (fun e => h.ne e.symm)]
    have := h2.us
    have := h.us
    omega
  · have h5 : q ∈ L' ++ S' ∨ q = x ∨ q ∈ y :: Sy := by
      simp only [List.mem_append, List.mem_cons] at hm ⊢
      rcases hm with h1 | h1 | h1 | h1 | h1 <;> simp [h1]
    rcases h5 with h5 | h5 | h5
    · rcases h4 q h5 with h6 | h6
      · exact hd3 q hq (by simp only [List.mem_append, List.mem_cons] at h6 ⊢; rcases h6 with h6 | h6 <;> simp [h6])
      · have := (hK q hq).1; omega
    · exact hd3 q hq (by simp [h5])
    · exact (hK q hq).2 (by simp only [List.mem_append, List.mem_cons] at h5 ⊢; rcases h5 with h5 | h5 <;> simp [h5])
theorem Tw.lenx (h : Tw w0 W p x y L Sx Sy m lx ly cx cy qx qy n s) : lx.length = need s cx.frm cx.all.length := by rw [h.X.ok.ln, h.s]
theorem Tw.leny (h : Tw w0 W p x y L Sx Sy m lx ly cx cy qx qy n s) : ly.length = need s cy.frm cy.all.length := by rw [h.Y.ok.ln, h.s]
theorem TwX.cw (h : TwX w0 W p x y cx cy qx qy n s K) : cx.went + cx.all.length = cx.came := by obtain ⟨_, _, _, _, _, _, h, _⟩ := h; exact h.X.ok.cw
theorem TwX.fs (h : TwX w0 W p x y cx cy qx qy n s K) : cx.frm < s := by obtain ⟨_, _, _, _, _, _, h, _⟩ := h; rw [← h.s]; exact h.X.ok.fs
theorem TwX.z (h : TwX w0 W p x y cx cy qx qy n s K) : cx.all = [] → cx.frm = 0 := by obtain ⟨_, _, _, _, _, _, h, _⟩ := h; exact h.X.ok.z
theorem TwX.nd (h : TwX w0 W p x y cx cy qx qy n s K) : need s cx.frm cx.all.length ≤ qx ∧ need s cx.frm cx.all.length + need s cy.frm cy.all.length ≤ n ∧ qx ≤ n := by
  obtain ⟨_, _, _, m, _, _, h, _⟩ := h
  rw [← h.lenx, ← h.leny]
  have h1 := h.X.P.ok.cr _ (crd_mem h.qx)
  have h2 := h.us
  have h3 := used_le m.own
  have h4 := h.X.ok.hd
  have h5 := h.Y.ok.hd
  have h6 := h.n
  simp only at h1
  omega
/-! ### The calls -/
theorem TwX.push (E : Nat → Addr) (a : Option Addr) (cap : Nat) (b : List UInt8) (hs : Sent 169 w0 E Er.egs) (hT : Bt.Tab w0) (h : TwX w0 W p x y cx cy qx qy n s K) (hb : cx.came + b.length ≤ 1000000000) (hr : Rd w0 a (u8s b)) :
    Calls Tryd.prog 38 #[.pointer (some ⟨x, 0, none⟩), .slice a b.length cap] W fun e w' => e = .returned (.tuple #[.int .i64 ((psh (one s cx.frm qx (need s cy.frm cy.all.length) n) cx.all.length b.length).1 : Int), ee E (psh (one s cx.frm qx (need s cy.frm cy.all.length) n) cx.all.length b.length).2]) ∧
      TwX w0 w' p x y (psd cx (b.take (psh (one s cx.frm qx (need s cy.frm cy.all.length) n) cx.all.length b.length).1)) cy qx qy n s K ∧ Stay K W w' := by
  obtain ⟨L, Sx, Sy, m, lx, ly, h, hK⟩ := h
  have hp := push_c (w0 := w0) (q := qx) (o := ly.length) E a cap b h.wx hs hT h.bs h.X hb h.qx (by rw [h.us, h.X.ok.hd, h.Y.ok.hd]) (fun W' hM => hr.keep (h.bs.mod hM))
  rw [h.s, h.n, h.leny] at hp
  exact hp.mono fun _ _ ⟨h1, h2⟩ => ⟨h1, h.step h2 rfl hK⟩
theorem TwX.drop (E : Nat → Addr) (i : Int) (hs : Sent 169 w0 E Er.egs) (h : TwX w0 W p x y cx cy qx qy n s K) (hb : cx.came ≤ 1000000000) :
    Calls Tryd.prog 37 #[.pointer (some ⟨x, 0, none⟩), .int .i64 i] W fun e w' => e = .returned (ee E (if 0 ≤ i ∧ i ≤ (cx.all.length : Int) then 0 else 1)) ∧ TwX w0 w' p x y (if 0 ≤ i ∧ i ≤ (cx.all.length : Int) then drp s cx i.toNat else cx) cy qx qy n s K ∧ Stay K W w' := by
  obtain ⟨L, Sx, Sy, m, lx, ly, h, hK⟩ := h
  by_cases hi : 0 ≤ i ∧ i ≤ (cx.all.length : Int)
  · rw [if_pos hi, if_pos hi]
    obtain ⟨j, rfl⟩ : ∃ j : Nat, i = (j : Int) := ⟨i.toNat, by omega⟩
    rw [Int.toNat_natCast]
    have hd := drop_yes E j h.wx hs h.bs h.X hb (by omega)
    rw [h.s] at hd
    exact hd.mono fun _ _ ⟨h1, h2⟩ => ⟨h1, h.step h2 rfl hK⟩
  · rw [if_neg hi, if_neg hi]
    exact (drop_no E i (hs.keep h.B) h.X (by omega)).mono fun _ _ ⟨h1, h2⟩ => ⟨h1, TwX.below ⟨L, Sx, Sy, m, lx, ly, h, hK⟩ h2, Stay.of K h2⟩
theorem TwX.clear (E : Nat → Addr) (hs : Sent 169 w0 E Er.egs) (h : TwX w0 W p x y cx cy qx qy n s K) (hb : cx.came ≤ 1000000000) :
    Calls Tryd.prog 44 #[.pointer (some ⟨x, 0, none⟩)] W fun e w' => e = .returned (.tuple #[]) ∧ TwX w0 w' p x y (drp s cx cx.all.length) cy qx qy n s K ∧ Stay K W w' := by
  obtain ⟨L, Sx, Sy, m, lx, ly, h, hK⟩ := h
  have hd := clear_c E h.wx hs h.bs h.X hb
  rw [h.s] at hd
  exact hd.mono fun _ _ ⟨h1, h2⟩ => ⟨h1, h.step h2 rfl hK⟩
theorem TwX.bytes (E : Nat → Addr) (hs : Sent 169 w0 E Er.egs) (h : TwX w0 W p x y cx cy qx qy n s K) (hb : cx.came ≤ 1000000) :
    Calls Tryd.prog 39 #[.pointer (some ⟨x, 0, none⟩)] W fun e w' => ∃ a cap, e = .returned (.slice a cx.all.length cap) ∧ Rd w' a (u8s cx.all) ∧ (a = none → cap = 0) ∧ Below W.heap.size W w' := by
  have hcw := h.cw
  obtain ⟨L, Sx, Sy, m, lx, ly, h, hK⟩ := h
  exact bytes_c E h.wx (hs.keep h.B) h.X (by omega)
theorem TwX.len (h : TwX w0 W p x y cx cy qx qy n s K) : Calls Tryd.prog 23 #[.pointer (some ⟨x, 0, none⟩)] W fun e w' => e = .returned (.int .i64 (cx.all.length : Int)) ∧ W = w' := by
  obtain ⟨L, Sx, Sy, m, lx, ly, h, hK⟩ := h
  exact len_c h.X.C
theorem TwX.buffers (h : TwX w0 W p x y cx cy qx qy n s K) : Calls Tryd.prog 24 #[.pointer (some ⟨x, 0, none⟩)] W fun e w' => e = .returned (.int .i64 (need s cx.frm cx.all.length : Int)) ∧ W = w' := by
  obtain ⟨L, Sx, Sy, m, lx, ly, h, hK⟩ := h
  rw [← h.lenx]
  exact buffers_c h.X.C
theorem TwX.counts (h : TwX w0 W p x y cx cy qx qy n s K) : Calls Tryd.prog 45 #[.pointer (some ⟨x, 0, none⟩)] W fun e w' => e = .returned (.tuple #[.int .i64 (cx.came : Int), .int .i64 (cx.went : Int)]) ∧ Below W.heap.size W w' := by
  obtain ⟨L, Sx, Sy, m, lx, ly, h, hK⟩ := h
  exact counts_c h.X.C
theorem TwX.held (h : TwX w0 W p x y cx cy qx qy n s K) : Calls Tryd.prog 16 #[.pointer (some ⟨p, 0, none⟩), .int .i64 cx.acc] W fun e w' => e = .returned (.int .i64 (need s cx.frm cx.all.length : Int)) ∧ W = w' := by
  obtain ⟨L, Sx, Sy, m, lx, ly, h, hK⟩ := h
  rw [← h.lenx, ← h.X.ok.hd]
  exact held_c cx.acc h.wx W h.X.P
theorem TwX.used (h : TwX w0 W p x y cx cy qx qy n s K) : Calls Tryd.prog 18 #[.pointer (some ⟨p, 0, none⟩)] W fun e w' => e = .returned (.int .i64 ((need s cx.frm cx.all.length + need s cy.frm cy.all.length : Nat) : Int)) ∧ W = w' := by
  obtain ⟨L, Sx, Sy, m, lx, ly, h, hK⟩ := h
  rw [← h.lenx, ← h.leny, ← h.X.ok.hd, ← h.Y.ok.hd, ← h.us]
  exact used_c W h.X.P
end Ch
end Go.Proofs.YtpjimmdpcpcmoaaDoor
