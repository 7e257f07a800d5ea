/- dofferlaw33.RobinPlays: the program's list beside the document's one, and an act's block: contracts. -/
import Derived.Test.YtjohljpcoodijaaDoorRef33b
import Derived.Test.YtjohljpcoodijaaDoorSame
namespace Go.Proofs.YtjohljpcoodijaaDoor
open Go Go.RowKit Kt Rb R33
namespace RbP

/-- The two lists in W, apart; all that they hold is new since w. -/
structure Cr (w W : World) (p : Nat) (g : List Nat) (z : Nat) (gr gl : List Nat) (Q : Int) (l : List (Int × Int)) (on : Bool) (l2 : List (Int × Int)) (on2 : Bool) : Prop where
  a : Li w W p g Q l on
  r : Rf W z gr gl Q l2 on2
  d : ∀ k ∈ p :: g, k ∉ z :: (gr ++ gl)
  b : ∀ k ∈ z :: (gr ++ gl), w.heap.size ≤ k
def P0 (w W : World) (p z : Nat) (Q : Int) (l : List (Int × Int)) (on : Bool) (l2 : List (Int × Int)) (on2 : Bool) : Prop := ∃ g gr gl, Cr w W p g z gr gl Q l on l2 on2
/-- .. and beside them the block y, that is neither's. -/
def Pl (w W : World) (p z y : Nat) (c : Array Value) (Q : Int) (l : List (Int × Int)) (on : Bool) (l2 : List (Int × Int)) (on2 : Bool) : Prop :=
  ∃ g gr gl, Cr w W p g z gr gl Q l on l2 on2 ∧ y ∉ p :: g ∧ y ∉ z :: (gr ++ gl) ∧ W.heap[y]? = some (.cells c 96 (0, 0))
variable {w W W' : World} {p z y : Nat} {g gr gl : List Nat} {c : Array Value} {Q : Int} {l l2 : List (Int × Int)} {on on2 : Bool}
theorem Cr.below (h : Cr w W p g z gr gl Q l on l2 on2) (hb : Below W.heap.size W W') : Cr w W' p g z gr gl Q l on l2 on2 := ⟨h.a.below hb, h.r.below hb, h.d, h.b⟩
theorem Cr.stepA (h : Cr w W p g z gr gl Q l on l2 on2) {g' : List Nat} {l' : List (Int × Int)} {on' : Bool} (ha : Li w W' p g' Q l' on') (hM : Mod (p :: g) W W') (hF : Fr g' g W.heap.size) : Cr w W' p g' z gr gl Q l' on' l2 on2 := by
  refine ⟨ha, h.r.mod hM (fun k hk hm => h.d k hm hk), ?_, h.b⟩
  intro k hk hm
  exact hF.notin (fun hx => h.d k hx hm) (h.r.lts k hm) hk
theorem Cr.stepR (h : Cr w W p g z gr gl Q l on l2 on2) {gr' gl' : List Nat} {l' : List (Int × Int)} {on' : Bool} (hr : Rf W' z gr' gl' Q l' on') (hM : Mod (z :: gl) W W') (hF : Fr2 gr' gl' gr gl W.heap.size) : Cr w W' p g z gr' gl' Q l on l' on' := by
  have hin : ∀ k ∈ z :: gl, k ∈ z :: (gr ++ gl) := by
    intro k hk
    rcases List.mem_cons.1 hk with rfl | hk
    · simp
    · simp [hk]
  have hnew : ∀ k ∈ z :: (gr' ++ gl'), k ∈ z :: (gr ++ gl) ∨ W.heap.size ≤ k := by
    intro k hk
    rcases List.mem_cons.1 hk with rfl | hk
    · left; simp
    · rcases hF k hk with h1 | h1
      · left; exact List.mem_cons_of_mem _ h1
      · exact .inr h1
  refine ⟨h.a.mod hM (fun k hk hm => h.d k hk (hin k hm)) (fun k hk => h.b k (hin k hk)), hr, ?_, ?_⟩
  · intro k hk hm
    rcases hnew k hm with h1 | h1
    · exact h.d k hk h1
    · have := h.a.i.lts k hk; omega
  · intro k hk
    rcases hnew k hk with h1 | h1
    · exact h.b k h1
    · have := h.a.B.size; omega
theorem Pl.below (h : Pl w W p z y c Q l on l2 on2) (hb : Below W.heap.size W W') : Pl w W' p z y c Q l on l2 on2 := by
  obtain ⟨g, gr, gl, h1, h2, h3, h4⟩ := h
  exact ⟨g, gr, gl, h1.below hb, h2, h3, by rw [hb.block y (block_lt h4)]; exact h4⟩
theorem Pl.stepA {g gr gl : List Nat} (h : Cr w W p g z gr gl Q l on l2 on2) (h2 : y ∉ p :: g) (h3 : y ∉ z :: (gr ++ gl)) (h4 : W.heap[y]? = some (.cells c 96 (0, 0))) {g' : List Nat} {l' : List (Int × Int)} {on' : Bool} (ha : Li w W' p g' Q l' on') (hM : Mod (p :: g) W W') (hF : Fr g' g W.heap.size) : Pl w W' p z y c Q l' on' l2 on2 :=
  ⟨g', gr, gl, h.stepA ha hM hF, hF.notin h2 (block_lt h4), h3, by rw [hM.block y (block_lt h4) h2]; exact h4⟩
theorem Pl.stepR {g gr gl : List Nat} (h : Cr w W p g z gr gl Q l on l2 on2) (h2 : y ∉ p :: g) (h3 : y ∉ z :: (gr ++ gl)) (h4 : W.heap[y]? = some (.cells c 96 (0, 0))) {gr' gl' : List Nat} {l' : List (Int × Int)} {on' : Bool} (hr : Rf W' z gr' gl' Q l' on') (hM : Mod (z :: gl) W W') (hF : Fr2 gr' gl' gr gl W.heap.size) : Pl w W' p z y c Q l on l' on' := by
  have hy := block_lt h4
  refine ⟨g, gr', gl', h.stepR hr hM hF, h2, ?_, ?_⟩
  · intro hm
    rcases List.mem_cons.1 hm with rfl | hm
    · exact h3 (by simp)
    · rcases hF y hm with h1 | h1
      · exact h3 (List.mem_cons_of_mem _ h1)
      · omega
  · rw [hM.block y hy]
    · exact h4
    · intro hm
      rcases List.mem_cons.1 hm with rfl | hm
      · exact h3 (by simp)
      · exact h3 (by simp [hm])
theorem Pl.toP0 (h : Pl w W p z y c Q l on l2 on2) : P0 w W p z Q l on l2 on2 := by obtain ⟨g, gr, gl, h1, _⟩ := h; exact ⟨g, gr, gl, h1⟩
theorem Pl.B (h : Pl w W p z y c Q l on l2 on2) : Below w.heap.size w W := by obtain ⟨g, gr, gl, h1, _⟩ := h; exact h1.a.B
theorem P0.B (h : P0 w W p z Q l on l2 on2) : Below w.heap.size w W := by obtain ⟨g, gr, gl, h1⟩ := h; exact h1.a.B
theorem Pl.act (h : Pl w W p z y c Q l on l2 on2) : W.heap[y]? = some (.cells c 96 (0, 0)) := by obtain ⟨g, gr, gl, _, _, _, h4⟩ := h; exact h4
theorem P0.alloc (h : P0 w W p z Q l on l2 on2) (c : Array Value) : Pl w (W.alloc (.cells c 96)) p z W.heap.size c Q l on l2 on2 := by
  obtain ⟨g, gr, gl, h1⟩ := h
  exact ⟨g, gr, gl, h1.below ((Below.refl _ _).alloc (Nat.le_refl _) _), fun hm => Nat.lt_irrefl _ (h1.a.i.lts _ hm), fun hm => Nat.lt_irrefl _ (h1.r.lts _ hm), heap_alloc_new W _⟩
theorem Pl.onne (h : Pl w W p z y c Q l on l2 on2) : on = true → l ≠ [] := by obtain ⟨g, gr, gl, h1, _⟩ := h; exact h1.a.i.onne

/-- What Add answers, and makes of the row. -/
def addB (l : List (Int × Int)) (x : Int) : Bool := !decide (fd l x < l.length)
def addL (l : List (Int × Int)) (x : Int) : List (Int × Int) := if fd l x < l.length then l else l ++ [(x, 0)]
def drpB (l : List (Int × Int)) (x : Int) : Bool := decide (fd l x < l.length)
def drpL (l : List (Int × Int)) (x : Int) : List (Int × Int) := if fd l x < l.length then l.eraseIdx (fd l x) else l
def drpO (l : List (Int × Int)) (on : Bool) (x : Int) : Bool := if fd l x < l.length then on && decide (0 < fd l x) else on

theorem addA (x : Int) (h : Pl w W p z y c Q l on l2 on2) (hl : l.length ≤ 100000) :
    Calls Tryd.prog 23 #[.pointer (some ⟨p, 0, none⟩), .int .i64 x] W fun e W' => e = .returned (.bool (addB l x)) ∧ Pl w W' p z y c Q (addL l x) on l2 on2 := by
  obtain ⟨g, gr, gl, h1, h2, h3, h4⟩ := h
  by_cases hf : fd l x < l.length
  · refine (addN x h1.a (by omega) hf).mono fun _ _ ⟨e1, e2, e3⟩ => ⟨by rw [e1]; simp [addB, hf], ?_⟩
    rw [addL, if_pos hf]
    exact Pl.below ⟨g, gr, gl, h1, h2, h3, h4⟩ e3
  · refine (addY x h1.a (by omega) hf).mono fun _ _ ⟨e1, g', e2, e3, e4⟩ => ⟨by rw [e1]; simp [addB, hf], ?_⟩
    rw [addL, if_neg hf]
    exact Pl.stepA h1 h2 h3 h4 e2 e3 e4
theorem addR (x : Int) (h : Pl w W p z y c Q l on l2 on2) (hl : l2.length ≤ 100000) :
    Calls Tryd.prog 63 #[.pointer (some ⟨z, 0, none⟩), .int .i64 x] W fun e W' => e = .returned (.bool (addB l2 x)) ∧ Pl w W' p z y c Q l on (addL l2 x) on2 := by
  obtain ⟨g, gr, gl, h1, h2, h3, h4⟩ := h
  by_cases hf : fd l2 x < l2.length
  · refine (R33.add_no x W h1.r hl hf).mono fun _ _ ⟨e1, e3⟩ => ⟨by rw [e1]; simp [addB, hf], ?_⟩
    rw [addL, if_pos hf]
    exact Pl.below ⟨g, gr, gl, h1, h2, h3, h4⟩ e3
  · refine (R33.add_yes x W h1.r hl hf).mono fun _ _ ⟨e1, gr', gl', e2, e3, e4⟩ => ⟨by rw [e1]; simp [addB, hf], ?_⟩
    rw [addL, if_neg hf]
    exact Pl.stepR h1 h2 h3 h4 e2 e3 e4
theorem dropA (x : Int) (h : Pl w W p z y c Q l on l2 on2) (hl : l.length ≤ 100000) :
    Calls Tryd.prog 58 #[.pointer (some ⟨p, 0, none⟩), .int .i64 x] W fun e W' => e = .returned (.bool (drpB l x)) ∧ Pl w W' p z y c Q (drpL l x) (drpO l on x) l2 on2 := by
  obtain ⟨g, gr, gl, h1, h2, h3, h4⟩ := h
  by_cases hf : fd l x < l.length
  · refine (dropY x h1.a (by omega) hf).mono fun _ _ ⟨e1, e2, e3⟩ => ⟨by rw [e1]; simp [drpB, hf], ?_⟩
    rw [drpL, drpO, if_pos hf, if_pos hf]
    exact Pl.stepA h1 h2 h3 h4 e2 e3 (Fr.refl _ _)
  · refine (dropN x h1.a (by omega) hf).mono fun _ _ ⟨e1, e2, e3⟩ => ⟨by rw [e1]; simp [drpB, hf], ?_⟩
    rw [drpL, drpO, if_neg hf, if_neg hf]
    exact Pl.below ⟨g, gr, gl, h1, h2, h3, h4⟩ e3
theorem dropR (x : Int) (h : Pl w W p z y c Q l on l2 on2) (hl : l2.length ≤ 100000) :
    Calls Tryd.prog 64 #[.pointer (some ⟨z, 0, none⟩), .int .i64 x] W fun e W' => e = .returned (.bool (drpB l2 x)) ∧ Pl w W' p z y c Q l on (drpL l2 x) (drpO l2 on2 x) := by
  obtain ⟨g, gr, gl, h1, h2, h3, h4⟩ := h
  by_cases hf : fd l2 x < l2.length
  · refine (R33.drop_yes x W h1.r hl hf).mono fun _ _ ⟨e1, gr', gl', e2, e3, e4⟩ => ⟨by rw [e1]; simp [drpB, hf], ?_⟩
    rw [drpL, drpO, if_pos hf, if_pos hf]
    exact Pl.stepR h1 h2 h3 h4 e2 e3 e4
  · refine (R33.drop_no x W h1.r hl hf).mono fun _ _ ⟨e1, e3⟩ => ⟨by rw [e1]; simp [drpB, hf], ?_⟩
    rw [drpL, drpO, if_neg hf, if_neg hf]
    exact Pl.below ⟨g, gr, gl, h1, h2, h3, h4⟩ e3

/-- What Turn answers (member, deficit, the error's number), and makes of the list. -/
def trnM (l : List (Int × Int)) (on : Bool) : Int := if on then 0 else match l with | [] => 0 | z :: _ => z.1
def trnD (Q : Int) (l : List (Int × Int)) (on : Bool) : Int := if on then 0 else match l with | [] => 0 | z :: _ => z.2 + Q
def trnE (l : List (Int × Int)) (on : Bool) : Int := if on then 16 else match l with | [] => 15 | _ :: _ => 0
def trnL (Q : Int) (l : List (Int × Int)) (on : Bool) : List (Int × Int) := if on then l else match l with | [] => [] | z :: r => (z.1, z.2 + Q) :: r
def trnO (l : List (Int × Int)) (on : Bool) : Bool := on || !l.isEmpty
/-- An error by its number. -/
def evn (A : Nat → Addr) (n : Int) : Value := if n = 0 then .nilIface else if n = 1 then Er.ev A 1 else if n = 15 then Er.ev A 3 else Er.ev A 2
def Bd (K : Int) (l : List (Int × Int)) : Prop := ∀ z ∈ l, 0 ≤ z.2 ∧ z.2 ≤ K
theorem turnA {A : Nat → Addr} (hs : Sent 152 w A Er.egs) (h : Pl w W p z y c Q l on l2 on2) (hl : l.length ≤ 100000) (hb : Bd 1000000000 l) (hQ : 0 ≤ Q) (hQ2 : Q ≤ 1000000000) :
    Calls Tryd.prog 24 #[.pointer (some ⟨p, 0, none⟩)] W fun e W' => e = .returned (.tuple #[.int .i64 (trnM l on), .int .i64 (trnD Q l on), evn A (trnE l on)]) ∧ Pl w W' p z y c Q (trnL Q l on) (trnO l on) l2 on2 := by
  obtain ⟨g, gr, gl, h1, h2, h3, h4⟩ := h
  cases on with
  | true =>
    refine (turnO A h1.a (hs.sub (by decide))).mono fun _ _ ⟨e1, e2, e3⟩ => ⟨by rw [e1]; rfl, ?_⟩
    exact Pl.below ⟨g, gr, gl, h1, h2, h3, h4⟩ e3
  | false =>
    cases l with
    | nil =>
      refine (turnN A h1.a (hs.sub (by decide))).mono fun _ _ ⟨e1, e2, e3⟩ => ⟨by rw [e1]; rfl, ?_⟩
      exact Pl.below ⟨g, gr, gl, h1, h2, h3, h4⟩ e3
    | cons x r =>
      obtain ⟨m, d⟩ := x
      have hd := hb (m, d) (by simp)
      refine (turnY m d (d + Q) r rfl h1.a hd.1 hd.2 hQ hQ2 (by simp at hl; omega)).mono fun _ _ ⟨e1, e2, e3⟩ => ⟨by rw [e1]; rfl, ?_⟩
      exact Pl.stepA h1 h2 h3 h4 e2 e3 (Fr.refl _ _)
theorem turnR (h : Pl w W p z y c Q l on l2 on2) (hb : Bd 1000000000 l2) (hQ : 0 ≤ Q) (hQ2 : Q ≤ 1000000000) :
    Calls Tryd.prog 65 #[.pointer (some ⟨z, 0, none⟩)] W fun e W' => e = .returned (.tuple #[.int .i64 (trnM l2 on2), .int .i64 (trnD Q l2 on2), .int .i64 (trnE l2 on2)]) ∧ Pl w W' p z y c Q l on (trnL Q l2 on2) (trnO l2 on2) := by
  obtain ⟨g, gr, gl, h1, h2, h3, h4⟩ := h
  cases on2 with
  | true =>
    refine (R33.turn_on W h1.r).mono fun _ _ ⟨e1, e3⟩ => ⟨by rw [e1]; rfl, ?_⟩
    exact Pl.below ⟨g, gr, gl, h1, h2, h3, h4⟩ e3
  | false =>
    cases l2 with
    | nil =>
      refine (R33.turn_none W h1.r).mono fun _ _ ⟨e1, e3⟩ => ⟨by rw [e1]; rfl, ?_⟩
      exact Pl.below ⟨g, gr, gl, h1, h2, h3, h4⟩ e3
    | cons x r =>
      obtain ⟨m, d⟩ := x
      have hd := hb (m, d) (by simp)
      refine (R33.turn_ok m d r W h1.r hd.1 hd.2 hQ hQ2).mono fun _ _ ⟨e1, e2, e3⟩ => ⟨by rw [e1]; rfl, ?_⟩
      exact Pl.stepR h1 h2 h3 h4 e2 e3 (fun k hk => .inl hk)

/-- What Done answers (the error's number), and makes of the list. -/
def dneE (s : Int) (l : List (Int × Int)) (on : Bool) : Int := if on then (match l with | [] => 0 | z :: _ => if s < 0 ∨ z.2 < s then 1 else 0) else 16
def dneL (s : Int) (st : Bool) (l : List (Int × Int)) (on : Bool) : List (Int × Int) := if on then (match l with | [] => [] | z :: r => if s < 0 ∨ z.2 < s then z :: r else nxt z.1 (z.2 - s) st r) else l
def dneO (s : Int) (l : List (Int × Int)) (on : Bool) : Bool := if on then (match l with | [] => true | z :: _ => if s < 0 ∨ z.2 < s then true else false) else false
theorem doneA {A : Nat → Addr} (hs : Sent 152 w A Er.egs) (s : Int) (st : Bool) (h : Pl w W p z y c Q l on l2 on2) (hl : l.length ≤ 100000) (hb : Bd 1000000000 l) :
    Calls Tryd.prog 25 #[.pointer (some ⟨p, 0, none⟩), .int .i64 s, .bool st] W fun e W' => e = .returned (evn A (dneE s l on)) ∧ Pl w W' p z y c Q (dneL s st l on) (dneO s l on) l2 on2 := by
  have hne := h.onne
  obtain ⟨g, gr, gl, h1, h2, h3, h4⟩ := h
  cases on with
  | false =>
    refine (doneO A (.int .i64 s) (.bool st) h1.a (hs.sub (by decide))).mono fun _ _ ⟨e1, e2, e3⟩ => ⟨by rw [e1]; rfl, ?_⟩
    exact Pl.below ⟨g, gr, gl, h1, h2, h3, h4⟩ e3
  | true =>
    cases l with
    | nil => exact absurd rfl (hne rfl)
    | cons x r =>
      obtain ⟨m, d⟩ := x
      have hd := hb (m, d) (by simp)
      simp only at hd
      by_cases hsp : s < 0 ∨ d < s
      · refine (doneB A m d s (.bool st) r h1.a hsp (hs.sub (by decide))).mono fun _ _ ⟨e1, e2, e3⟩ => ⟨by rw [e1]; simp [dneE, hsp, evn], ?_⟩
        simp only [dneL, dneO, if_true, if_pos hsp]
        exact Pl.below ⟨g, gr, gl, h1, h2, h3, h4⟩ e3
      · refine (doneY m d s (d - s) st r rfl h1.a (by omega) (by omega) (by omega) (by simp at hl; omega)).mono fun _ _ ⟨e1, g', e2, e3, e4⟩ => ⟨by rw [e1]; simp [dneE, hsp, evn], ?_⟩
        simp only [dneL, dneO, if_true, if_neg hsp]
        exact Pl.stepA h1 h2 h3 h4 e2 e3 e4
theorem doneR (s : Int) (st : Bool) (hne : on2 = true → l2 ≠ []) (h : Pl w W p z y c Q l on l2 on2) (hl : l2.length ≤ 10000) (hb : Bd 1000000000 l2) :
    Calls Tryd.prog 66 #[.pointer (some ⟨z, 0, none⟩), .int .i64 s, .bool st] W fun e W' => e = .returned (.int .i64 (dneE s l2 on2)) ∧ Pl w W' p z y c Q l on (dneL s st l2 on2) (dneO s l2 on2) := by
  obtain ⟨g, gr, gl, h1, h2, h3, h4⟩ := h
  cases on2 with
  | false =>
    refine (R33.done_off (.int .i64 s) (.bool st) W h1.r).mono fun _ _ ⟨e1, e3⟩ => ⟨by rw [e1]; rfl, ?_⟩
    exact Pl.below ⟨g, gr, gl, h1, h2, h3, h4⟩ e3
  | true =>
    cases l2 with
    | nil => exact absurd rfl (hne rfl)
    | cons x r =>
      obtain ⟨m, d⟩ := x
      have hd := hb (m, d) (by simp)
      simp only at hd
      by_cases hsp : s < 0 ∨ d < s
      · refine (R33.done_bad m d s (.bool st) r W h1.r hsp).mono fun _ _ ⟨e1, e3⟩ => ⟨by rw [e1]; simp [dneE, hsp], ?_⟩
        simp only [dneL, dneO, if_true, if_pos hsp]
        exact Pl.below ⟨g, gr, gl, h1, h2, h3, h4⟩ e3
      · refine (R33.done_ok m d s st r W h1.r (by omega) (by omega) (by omega) (by simp at hl; omega)).mono fun _ _ ⟨e1, gr', gl', e2, e3, e4⟩ => ⟨by rw [e1]; simp [dneE, hsp], ?_⟩
        simp only [dneL, dneO, if_true, if_neg hsp]
        exact Pl.stepR h1 h2 h3 h4 e2 e3 e4
theorem numE {A : Nat → Addr} (hs : Sent 152 w A Er.egs) (n : Int) (hn : n = 0 ∨ n = 1 ∨ n = 15 ∨ n = 16) (hB : Below w.heap.size w W) :
    Calls Tryd.prog 34 #[evn A n] W fun e W' => e = .returned (.int .i64 n) ∧ Below W.heap.size W W' := by
  rcases hn with rfl | rfl | rfl | rfl
  · exact (Er.num_nil W).mono fun _ _ ⟨h1, h2⟩ => ⟨h1, by subst h2; exact Below.refl _ _⟩
  · exact Er.num_at A 1 1 0 (by omega) rfl rfl _ (hs.keep hB)
  · exact Er.num_at A 3 15 14 (by omega) rfl rfl _ (hs.keep hB)
  · exact Er.num_at A 2 16 15 (by omega) rfl rfl _ (hs.keep hB)
theorem findR (x : Int) (h : Pl w W p z y c Q l on l2 on2) (hl : l2.length ≤ 100000) :
    Calls Tryd.prog 67 #[.pointer (some ⟨z, 0, none⟩), .int .i64 x] W fun e W' => e = .returned (.int .i64 (fdv l2 x)) ∧ Below W.heap.size W W' := by
  obtain ⟨g, gr, gl, h1, h2, h3, h4⟩ := h
  exact R33.find_c x W h1.r hl
/-- What a reader of the document's list finds. -/
theorem Pl.reads (h : Pl w W p z y c Q l on l2 on2) : ∃ ra rc la lc, W.heap[z]? = some (.cells #[.int .i64 Q, .slice ra l2.length rc, .slice la l2.length lc, .bool on2] 94 (0, 0)) ∧ Rd W ra (i64s (fsts l2)) ∧ Rd W la (i64s (snds l2)) := by
  obtain ⟨g, gr, gl, h1, h2, h3, h4⟩ := h
  obtain ⟨ra, rc, la, lc, e1, e2, e3, _⟩ := h1.r.op
  exact ⟨ra, rc, la, lc, e1, Rd.own e2, Rd.own e3⟩
theorem memA (n : Nat) (hn : l.length = n) (h : Pl w W p z y c Q l on l2 on2) (hl : l.length ≤ 100000) :
    Calls Tryd.prog 55 #[.pointer (some ⟨p, 0, none⟩)] W fun e W' => ∃ a cc, e = .returned (.slice a n cc) ∧ Rd W' a (i64s (fsts l)) ∧ Below W.heap.size W W' := by
  obtain ⟨g, gr, gl, h1, h2, h3, h4⟩ := h
  exact (memL n hn h1.a (by omega)).mono fun _ _ ⟨a, cc, e1, e2, _, e3⟩ => ⟨a, cc, e1, Rd.own e2, e3⟩
theorem lenA (n : Nat) (hn : l.length = n) (h : Pl w W p z y c Q l on l2 on2) :
    Calls Tryd.prog 59 #[.pointer (some ⟨p, 0, none⟩)] W fun e W' => e = .returned (.int .i64 n) ∧ Below W.heap.size W W' := by
  subst hn
  obtain ⟨g, gr, gl, h1, h2, h3, h4⟩ := h
  exact (len_c W p g Q l on h1.a.i).mono fun _ _ ⟨e1, e2⟩ => ⟨e1, by subst e2; exact Below.refl _ _⟩
theorem defA (x v : Int) (hv : left l x = v) (h : Pl w W p z y c Q l on l2 on2) (hl : l.length ≤ 100000) :
    Calls Tryd.prog 57 #[.pointer (some ⟨p, 0, none⟩), .int .i64 x] W fun e W' => e = .returned (.int .i64 v) ∧ Below W.heap.size W W' := by
  subst hv
  obtain ⟨g, gr, gl, h1, h2, h3, h4⟩ := h
  exact (deficit_c x W p g Q l on h1.a.i (by omega)).mono fun _ _ ⟨e1, e2⟩ => ⟨e1, e2⟩
theorem hasA (x : Int) (v : Bool) (hv : decide (fd l x < l.length) = v) (h : Pl w W p z y c Q l on l2 on2) (hl : l.length ≤ 100000) :
    Calls Tryd.prog 56 #[.pointer (some ⟨p, 0, none⟩), .int .i64 x] W fun e W' => e = .returned (.bool v) ∧ Below W.heap.size W W' := by
  subst hv
  obtain ⟨g, gr, gl, h1, h2, h3, h4⟩ := h
  exact (has_c x W p g Q l on h1.a.i (by omega)).mono fun _ _ ⟨e1, e2⟩ => ⟨e1, e2⟩
theorem onA (v : Int) (hv : onv l on = v) (h : Pl w W p z y c Q l on l2 on2) (hl : l.length ≤ 100000) :
    Calls Tryd.prog 68 #[.pointer (some ⟨p, 0, none⟩)] W fun e W' => e = .returned (.int .i64 v) ∧ Below W.heap.size W W' := by
  subst hv
  obtain ⟨g, gr, gl, h1, h2, h3, h4⟩ := h
  exact (on_c W p g Q l on h1.a.i (by omega)).mono fun _ _ ⟨e1, e2⟩ => ⟨e1, by subst e2; exact Below.refl _ _⟩
theorem findV (x v : Int) (hv : fdv l2 x = v) (h : Pl w W p z y c Q l on l2 on2) (hl : l2.length ≤ 100000) :
    Calls Tryd.prog 67 #[.pointer (some ⟨z, 0, none⟩), .int .i64 x] W fun e W' => e = .returned (.int .i64 v) ∧ Below W.heap.size W W' := by
  subst hv
  exact findR x h hl

/-! Bounds. -/
theorem addL_len (l : List (Int × Int)) (x : Int) : (addL l x).length ≤ l.length + 1 := by unfold addL; split <;> simp
theorem drpL_len (l : List (Int × Int)) (x : Int) : (drpL l x).length ≤ l.length := by
  unfold drpL; split
  · rw [List.length_eraseIdx]; split <;> omega
  · omega
theorem trnL_len (Q : Int) (l : List (Int × Int)) (on : Bool) : (trnL Q l on).length = l.length := by unfold trnL; cases on <;> cases l <;> rfl
theorem dneL_len (s : Int) (st : Bool) (l : List (Int × Int)) (on : Bool) : (dneL s st l on).length ≤ l.length := by
  unfold dneL; split
  · cases l with
    | nil => simp
    | cons z r =>
      simp only
      split
      · simp
      · unfold nxt; split <;> simp
  · omega
theorem Bd.mono {K K' : Int} {l : List (Int × Int)} (h : Bd K l) (hK : K ≤ K') : Bd K' l := fun z hz => ⟨(h z hz).1, Int.le_trans (h z hz).2 hK⟩
theorem Bd.add {K : Int} {l : List (Int × Int)} (h : Bd K l) (hK : 0 ≤ K) (x : Int) : Bd K (addL l x) := by
  unfold addL; split
  · exact h
  · intro z hz
    rcases List.mem_append.1 hz with h1 | h1
    · exact h z h1
    · simp at h1; subst h1; exact ⟨by simp, hK⟩
theorem Bd.drp {K : Int} {l : List (Int × Int)} (h : Bd K l) (x : Int) : Bd K (drpL l x) := by
  unfold drpL; split
  · exact fun z hz => h z (List.mem_of_mem_eraseIdx hz)
  · exact h
theorem Bd.trn {K Q : Int} {l : List (Int × Int)} (h : Bd K l) (hQ : 0 ≤ Q) (on : Bool) : Bd (K + Q) (trnL Q l on) := by
  unfold trnL; split
  · exact h.mono (by omega)
  · cases l with
    | nil => intro z hz; cases hz
    | cons x r =>
      intro z hz
      rcases List.mem_cons.1 hz with rfl | hz
      · have := h x (by simp); exact ⟨by simp only; omega, by simp only; omega⟩
      · have := h z (by simp [hz]); omega
theorem Bd.dne {K : Int} {l : List (Int × Int)} (h : Bd K l) (s : Int) (st : Bool) (on : Bool) : Bd K (dneL s st l on) := by
  unfold dneL; split
  · cases l with
    | nil => exact h
    | cons x r =>
      simp only
      split
      · exact h
      · have h0 := h x (by simp)
        have hr : Bd K r := fun z hz => h z (by simp [hz])
        unfold nxt; split
        · intro z hz
          rcases List.mem_append.1 hz with h1 | h1
          · exact hr z h1
          · simp at h1; subst h1; exact ⟨by simp only; omega, by simp only; omega⟩
        · exact hr
  · exact h
theorem trnE_in (l : List (Int × Int)) (on : Bool) : trnE l on = 0 ∨ trnE l on = 1 ∨ trnE l on = 15 ∨ trnE l on = 16 := by
  unfold trnE; split
  · simp
  · cases l <;> simp
theorem dneE_in (s : Int) (l : List (Int × Int)) (on : Bool) : dneE s l on = 0 ∨ dneE s l on = 1 ∨ dneE s l on = 15 ∨ dneE s l on = 16 := by
  unfold dneE; split
  · cases l with
    | nil => simp
    | cons z r => simp only; split <;> simp
  · simp
end RbP
end Go.Proofs.YtjohljpcoodijaaDoor
