import Derived.WalkKit
import Derived.WalkSpells
import Derived.WalkLawsBesides
import Derived.ProofKit
import Derived.Handed
import Derived.LaidMore
import Derived.LaidHandle
import Derived.OpenShut
import Derived.Stop.Joined
import Derived.Deep.Slices
import Derived.Lib.Hide
import Derived.Deep.DeepCutAuto
import Derived.Deep.RegionLaw
import Derived.Lib.SlBytesConst
import Derived.Laws.IdiomStrings
import Derived.Laws.BytesArg
import Derived.WalkSmall
import Derived.BigQuiet
import Derived.Deep.QuietTactic
import Derived.Laws.ResultCell
import Derived.Laws.Rows
/- Lemmas over any program: from a contract of a law's walk to the lifted row; readings of slices in memory; what a call that writes only above a block keeps. -/
namespace Go.Proofs.YtoeeddfinmfnoaaDoor
open Go Go.RowKit Go.ChangeShapes Go.WideShapes
namespace Kt

/-! ### The law's row -/
section
variable {H : Type} {enc : TypeId × Value → H} {P : Program}

/-- All arguments read behind the call as before it. -/
theorem trodAll_below (hl : laidOutB P = true) {W W' : World} (hb : Below W.heap.size W W') :
    ∀ {ts : List TypeId} {vs : List Value} {ds : List (DataW H)} {ps : List MemPlace}, (∀ t ∈ ts, P.readableRec t = true ∧ t < P.types.size) → (∀ x ∈ ps, x.block < W.heap.size) →
      DataW.TrodAll enc P W 0 (fun _ => true) true ts vs ds ps → DataW.TrodAll enc P W' 0 (fun b => decide (b < W.heap.size)) true ts vs ds ps
  | [], [], [], _, _, _, h => h
  | [], _ :: _, _, _, _, _, h => h.elim
  | [], [], _ :: _, _, _, _, h => h.elim
  | _ :: _, [], _, _, _, _, h => h.elim
  | _ :: _, _ :: _, [], _, _, _, h => h.elim
  | t :: ts, v :: vs, d :: ds, ps, hr, hlt, h => by
    obtain ⟨p, q, h1, h2, rfl⟩ := h
    obtain ⟨r1, r2⟩ := hr t (by simp)
    exact ⟨p, q, Below.trod hl r1 r2 h1 hb (fun x hx => hlt x (by simp [hx])), trodAll_below hl hb (fun t ht => hr t (by simp [ht])) (fun x hx => hlt x (by simp [hx])) h2, rfl⟩

theorem trodAll_lt {W : World} : ∀ {ts : List TypeId} {vs : List Value} {ds : List (DataW H)} {ps : List MemPlace},
    DataW.TrodAll enc P W 0 (fun _ => true) true ts vs ds ps → ∀ x ∈ ps, x.block < W.heap.size
  | [], [], [], _, h => by cases h; simp
  | [], _ :: _, _, _, h => h.elim
  | [], [], _ :: _, _, h => h.elim
  | _ :: _, [], _, _, h => h.elim
  | _ :: _, _ :: _, [], _, h => h.elim
  | t :: ts, v :: vs, d :: ds, ps, h => by
    obtain ⟨p, q, ⟨m, hm⟩, h2, rfl⟩ := h
    intro x hx
    rcases List.mem_append.1 hx with hx | hx
    · exact DataW.trod_lt m _ _ _ hm x hx
    · exact trodAll_lt h2 x hx

/-- THE LAW'S ROW, LIFTED: what is left is the walk: called with arguments that read as data, where the listed variables read as listed, the law returns true and writes nothing that was there. -/
theorem law_lifted {C : Checked} {os : Os} {f : FuncId} {fn : Func} {s : ChangeSpec} {laid : List (String × DataW Unit)} {tb : TypeId} {n : Nat} (steps : Nat) (args0 : Array Value)
    (own : ownKnob C.prog.godebug = none) (started : os.Started) (noInit : C.prog.inits.idxOf? f = none) (hfn : C.prog.funcs[f]? = some fn) (hlo : laidOutB C.prog = true)
    (hv : s.vars = []) (hs : ∀ ds : List (DataW H), ds.length = n → s.fn H ds = { results := [.lit (.bool true)], args := ds }) (hn : fn.params.size = n)
    (hres : fn.resultTypes = #[tb]) (htb : C.prog.underlying tb = some .bool) (hread : (fn.params.toList.all fun t => C.prog.readableRec t && decide (t < C.prog.types.size)) = true)
    (hsh : ((World.doorLaid C.prog steps os).forCall (fun _ _ => 0) ⟨#[], args0, []⟩).Shaped C.prog)
    (hok : Input.okWideB C.prog ((World.doorLaid C.prog steps os).forCall (fun _ _ => 0) ⟨#[], args0, []⟩) f ⟨#[], args0, []⟩ = true)
    (hpre : s.preB enc C.prog fn [] false ((World.doorLaid C.prog steps os).forCall (fun _ _ => 0) ⟨#[], args0, []⟩).memory args0 8 = true)
    (hsz : s.sizedB enc C.prog fn false ((World.doorLaid C.prog steps os).forCall (fun _ _ => 0) ⟨#[], args0, []⟩).memory args0 8 = true)
    (hx : laidMetH C.prog laid ((World.doorLaid C.prog steps os).forCall (fun _ _ => 0) ⟨#[], args0, []⟩).memory)
    (walk : ∀ (W : World) (base : Nat) (args : Array Value) (ds : List (DataW H)) (ps : List MemPlace),
      (∀ (j : Nat) t v, fn.params[j]? = some t → args[j]? = some v → Value.okWide C.prog W .any base t v) →
      DataW.TrodAll enc C.prog W 0 (fun _ => true) true fn.params.toList args.toList ds ps → laidMetH C.prog laid W →
      Calls C.prog f args W fun e W' => e = .returned (.bool true) ∧ Below W.heap.size W W') :
    ReturnsInHanded {} C os f .any (fun w args => (s.pre enc C.prog fn [] false w args ∧ laidMetH C.prog laid w) ∧ sizedMet enc C.prog fn (OpenSpec.ofChange s) false w args)
      (s.post enc C.prog fn false true false false) := by
  refine returnsInHanded_of_change_and (C := C) (X := fun w _ => laidMetH C.prog laid w) (fun _ _ _ hh h => h.of_heap hh) own started noInit hfn
    (ChangeSpec.witness_shaped (enc := enc) (C := C) (os := os) (X := fun w _ => laidMetH C.prog laid w) false (World.doorLaid C.prog steps os) args0 8 rfl hsh hok hpre hsz hx) ?_
  intro W base args ds gs before hval hW _ _ hL _
  have hW' := hW
  obtain ⟨p, q, hA, hV, rfl, _, _⟩ := hW
  rw [hv] at hV
  obtain ⟨rfl, rfl⟩ : gs = [] ∧ q = [] := by
    cases gs with
    | nil => exact ⟨rfl, hV⟩
    | cons _ _ => exact hV.elim
  have hlt := trodAll_lt hA
  have hdl : ds.length = n := by
    have : ∀ {ts : List TypeId} {vs : List Value} {ds : List (DataW H)} {ps : List MemPlace}, DataW.TrodAll enc C.prog W 0 (fun _ => true) true ts vs ds ps → ds.length = ts.length := by
      intro ts
      induction ts with
      | nil =>
        intro vs ds ps h
        cases vs <;> cases ds <;> first | rfl | exact h.elim
      | cons t ts ih =>
        intro vs ds ps h
        cases vs <;> cases ds <;> first | exact h.elim | skip
        obtain ⟨_, _, _, h2, _⟩ := h
        simp [ih h2]
    rw [this hA, ← hn]; simp
  refine (walk W base args ds p hval hA hL).mono fun e W' ⟨he, hb⟩ => ?_
  subst he
  have hr : ∀ t ∈ fn.params.toList, C.prog.readableRec t = true ∧ t < C.prog.types.size := by
    intro t ht
    have := List.all_eq_true.1 hread t ht
    simpa using this
  refine ⟨_, rfl, ds, [], p ++ [], [], p, [], hW', ?_, ?_, ?_, hb.frame _, fun h => by cases h⟩
  · rw [List.append_nil, hs ds hdl, hres]
    exact trodAll_mk1 (shut_bool htb _)
  · rw [List.append_nil, hs ds hdl]
    exact trodAll_below hlo hb hr hlt hA
  · rw [List.append_nil, hs ds hdl, hv]
    rfl
end

/-! ### Readings of memory -/
/-- The cells of a slice at 'a' read as 'xs'. -/
def Rd (w : World) (a : Option Addr) (xs : List Value) : Prop := ∀ i x, xs[i]? = some x → ∃ b off, a = some ⟨b, off, none⟩ ∧ w.cell? ⟨b, off + i, none⟩ = some x
theorem Rd.nil (w : World) (a : Option Addr) : Rd w a [] := fun i x h => by simp at h
/-- An address in use is below the heap's end. -/
theorem lt_of_cell {w : World} {p : Addr} {v : Value} (h : w.cell? p = some v) : p.block < w.heap.size := by
  unfold World.cell? at h
  by_cases hlt : p.block < w.heap.size
  · exact hlt
  · rw [Array.getElem?_eq_none (by omega)] at h
    cases h

theorem Rd.below {w w' : World} {a : Option Addr} {xs : List Value} {B : Nat} (h : Rd w a xs) (hb : Below B w w') (hB : ∀ p, a = some p → xs ≠ [] → p.block < B) : Rd w' a xs := fun i x hi => by
  obtain ⟨b, off, ha, hc⟩ := h i x hi
  refine ⟨b, off, ha, ?_⟩
  have hlt : b < B := hB _ ha (by rintro rfl; simp at hi)
  rw [hb.cell (p := ⟨b, off + i, none⟩) hlt]
  exact hc
/-- What is read survives whatever writes only new memory. -/
theorem Rd.keep {w w' : World} {a : Option Addr} {xs : List Value} (h : Rd w a xs) (hb : Below w.heap.size w w') : Rd w' a xs := fun i x hi => by
  obtain ⟨b, off, ha, hc⟩ := h i x hi
  exact ⟨b, off, ha, by rw [hb.cell (p := ⟨b, off + i, none⟩) (lt_of_cell (p := ⟨b, off + i, none⟩) hc)]; exact hc⟩
/-- .. or one of the call's own rows, from 'B' on, if what is read lies below. -/
theorem Rd.lt {w : World} {a : Option Addr} {xs : List Value} (h : Rd w a xs) (hne : xs ≠ []) : ∃ p, a = some p ∧ p.block < w.heap.size := by
  cases xs with
  | nil => exact absurd rfl hne
  | cons x xs =>
    obtain ⟨b, off, ha, hc⟩ := h 0 x rfl
    exact ⟨_, ha, lt_of_cell (p := ⟨b, off + 0, none⟩) hc⟩
/-- What the call owns, read. -/
theorem rd_own {w : World} {base e sz n : Nat} {v : Value} {xs : List Value} (h : w.ownsRow base e sz v n xs) :
    ∃ a cap, v = .slice a n cap ∧ n ≤ cap ∧ cap ≤ maxLen ∧ Rd w a xs ∧ ∀ p, a = some p → base ≤ p.block ∧ p.off = 0 ∧ p.spot = none := by
  obtain ⟨hl, ⟨rfl, rfl⟩ | ⟨g, cap, cur, rfl, hb, hh, hn, hm, hs, ht⟩⟩ := h
  · have : xs = [] := List.eq_nil_of_length_eq_zero (by simpa using hl)
    subst this
    exact ⟨none, 0, rfl, Nat.le_refl _, by decide, Rd.nil _ _, fun p hp => by cases hp⟩
  · refine ⟨_, cap, rfl, hn, hm, fun i x hi => ⟨g, 0, rfl, ?_⟩, fun p hp => by cases hp; exact ⟨hb, rfl, rfl⟩⟩
    rw [← ht] at hi
    rw [List.getElem?_take] at hi
    split at hi
    · simp [World.cell?, hh]
      simpa using hi
    · cases hi

theorem own_base {w : World} {base base' e sz n : Nat} {v : Value} {xs : List Value} (h : w.ownsRow base e sz v n xs) (hb : base' ≤ base) : w.ownsRow base' e sz v n xs := by
  obtain ⟨h1, h2 | ⟨g, cap, cur, h3, h4, h5⟩⟩ := h
  · exact ⟨h1, .inl h2⟩
  · exact ⟨h1, .inr ⟨g, cap, cur, h3, Nat.le_trans hb h4, h5⟩⟩
theorem own_keep {w w' : World} {base e sz n : Nat} {v : Value} {xs : List Value} (h : w.ownsRow base e sz v n xs) (hb : Below w.heap.size w w') : w'.ownsRow base e sz v n xs := by
  obtain ⟨h1, h2 | ⟨g, cap, cur, h3, h4, h5, h6⟩⟩ := h
  · exact ⟨h1, .inl h2⟩
  · exact ⟨h1, .inr ⟨g, cap, cur, h3, h4, by rw [hb.block g (Array.getElem?_eq_some_iff.1 h5).1]; exact h5, h6⟩⟩
theorem own_none {w : World} {base e sz n cap : Nat} {xs : List Value} (h : w.ownsRow base e sz (.slice none n cap) n xs) : cap = 0 ∧ n = 0 := by
  rcases h.2 with ⟨h, h0⟩ | ⟨g, c, cur, h, _⟩
  · simp at h; exact ⟨h.2, h0⟩
  · simp at h
theorem Rd.own {w : World} {base e sz n cap : Nat} {a : Option Addr} {xs : List Value} (h : w.ownsRow base e sz (.slice a n cap) n xs) : Rd w a xs := by
  obtain ⟨a', cap', h1, _, _, h2, _⟩ := rd_own h
  simp only [Value.slice.injEq] at h1
  rw [h1.1]
  exact h2
/-- 'append(v, src...)': the destination is the call's own, the source whatever reads. -/
theorem append_rd {P : Program} {w : World} (base t ty e : Nat) (i : TypeInfo) (z : Value) (size bytes : Nat) (ht : P.underlying t = some (.slice e)) (hi : P.info? e = some i) (hz : i.zero = some z)
    (hsize : i.size = size) (hby : i.bytes = bytes) (hzs : z.cells.size = size) (hsz : 0 < size)
    {v : Value} {n : Nat} {xs : List Value} (hown : w.ownsRow base e size v n xs)
    {a : Option Addr} (m c : Nat) {news : List Value} (hl : news.length = m * size) (hr : Rd w a news) (hno : a = none → c = 0) (h1 : ∀ u ∈ news, u.oneCell' = true)
    (h63 : n + m ≤ maxLen) (hbytes : (n + m) * bytes ≤ 140737488355328) (hbase : base ≤ w.heap.size) :
    ∃ v' w', (Builtin.append_ #[t, t] ty #[v, .slice a m c]).run P w = .ok v' w' ∧ w'.ownsRow base e size v' (n + m) (xs ++ news) ∧ w.grownBy w' v.ownBlock ∧ (v' = .slice none 0 0 ↔ v = .slice none 0 0 ∧ m = 0) := by
  cases a with
  | none =>
    have hc := hno rfl
    subst hc
    have hn : news = [] := by
      cases news with
      | nil => rfl
      | cons x xs => obtain ⟨_, _, h, _⟩ := hr 0 x rfl; cases h
    subst hn
    have hm : m = 0 := by
      rcases Nat.eq_zero_or_pos m with h | h
      · exact h
      · have := Nat.mul_pos h hsz; simp at hl; omega
    subst hm
    refine ⟨v, w, ?_, by simpa using hown, ⟨rfl, rfl, rfl, Nat.le_refl _, fun _ _ _ => rfl⟩, by simp⟩
    exact run_append_owned_none (P := P) (w := w) base t ty e i size ht hi v n xs hown
  | some ad =>
    refine run_append_own (P := P) w base t ty e i z size bytes ht hi hz hsize hby hzs hsz v n xs hown ad m c news hl (fun j u hj => ?_) h1 h63 hbytes hbase
    obtain ⟨b, off, ha, hc⟩ := hr j u hj
    cases ha
    by_cases h0 : j = 0
    · subst h0; simpa [Addr.add] using hc
    · simpa [Addr.add, h0] using hc

/-! ### Memory that the call makes -/
/-- What the laws on make and append ask of an element type. -/
structure El (P : Program) (t e : TypeId) (z : Value) (size bytes : Nat) : Prop where
  ht : P.underlying t = some (.slice e)
  info : ∃ i, P.info? e = some i ∧ i.zero = some z ∧ i.size = size ∧ i.bytes = bytes
  hzs : z.cells.size = size
  pos : 0 < size

section
variable {P : Program} {t e : TypeId} {z : Value} {size bytes : Nat} {w : World}
theorem El.append (E : El P t e z size bytes) (base : Nat) {ty : TypeId} {v : Value} {n : Nat} {xs : List Value} (hown : w.ownsRow base e size v n xs)
    {a : Option Addr} (m c : Nat) {news : List Value} (hl : news.length = m * size) (hr : Rd w a news) (hno : a = none → c = 0) (h1 : ∀ u ∈ news, u.oneCell' = true)
    (h63 : n + m ≤ maxLen) (hbytes : (n + m) * bytes ≤ 140737488355328) (hbase : base ≤ w.heap.size) :
    ∃ v' w', (Builtin.append_ #[t, t] ty #[v, .slice a m c]).run P w = .ok v' w' ∧ w'.ownsRow base e size v' (n + m) (xs ++ news) ∧ w.grownBy w' v.ownBlock ∧ (v' = .slice none 0 0 ↔ v = .slice none 0 0 ∧ m = 0) := by
  obtain ⟨i, hi, hz, hs, hb⟩ := E.info
  exact append_rd base t ty e i z size bytes E.ht hi hz hs hb E.hzs E.pos hown m c hl hr hno h1 h63 hbytes hbase
/-- .. within the capacity: the value is known. -/
theorem El.fits (E : El P t e z size bytes) (base : Nat) {ty : TypeId} {g n cap : Nat} {xs : List Value} (hown : w.ownsRow base e size (.slice (some ⟨g, 0, none⟩) n cap) n xs)
    {a : Option Addr} (m c : Nat) {news : List Value} (hl : news.length = m * size) (hr : Rd w a news) (hno : a = none → c = 0 ∧ m = 0) (h1 : ∀ u ∈ news, u.oneCell' = true) (hroom : n + m ≤ cap) :
    ∃ w', (Builtin.append_ #[t, t] ty #[.slice (some ⟨g, 0, none⟩) n cap, .slice a m c]).run P w = .ok (.slice (some ⟨g, 0, none⟩) (n + m) cap) w' ∧
      w'.ownsRow base e size (.slice (some ⟨g, 0, none⟩) (n + m) cap) (n + m) (xs ++ news) ∧ w.grownBy w' (some g) := by
  obtain ⟨i, hi, hz, hs, hb⟩ := E.info
  cases a with
  | none =>
    obtain ⟨rfl, rfl⟩ := hno rfl
    have hn : news = [] := List.eq_nil_of_length_eq_zero (by simpa using hl)
    subst hn
    exact ⟨w, run_append_owned_none (P := P) (w := w) base t ty e i size E.ht hi _ n xs hown, by simpa using hown, World.grownBy.refl _ _⟩
  | some ad =>
    refine run_append_fits (P := P) w base t ty e i size E.ht hi hs g n cap xs hown ad m c news hl (fun j u hj => ?_) h1 hroom
    obtain ⟨b, off, ha, hc⟩ := hr j u hj
    cases ha
    by_cases h0 : j = 0
    · subst h0; simpa [Addr.add] using hc
    · simpa [Addr.add, h0] using hc
end

/-- A block just laid. -/
theorem Rd.new (w : World) (c : Array Value) (e : TypeId) (f : Nat × Nat) (xs : List Value) (h : c.toList = xs) : Rd (w.alloc (.cells c e f)) (some ⟨w.heap.size, 0, none⟩) xs := by
  subst h
  intro i x hi
  refine ⟨_, _, rfl, ?_⟩
  have : (w.alloc (.cells c e f)).heap[w.heap.size]? = some (.cells c e f) := heap_alloc_new w _
  unfold World.cell?
  rw [this]
  simpa using hi
/-- Behind an append or a make: the written row is one of the call's own. -/
theorem below_grown {B : Nat} {w w' : World} {v : Value} {base e sz n : Nat} {xs : List Value} (hown : w.ownsRow base e sz v n xs) (hg : w.grownBy w' v.ownBlock) (hB : B ≤ base) (hs : B ≤ w.heap.size) : Below B w w' :=
  (Below.refl B w).grown hg hs (fun k hk => by have := (hown.lt k hk).1; omega)
/-- A literal's row is the call's own. -/
theorem own_new (w : World) (base e sz n : Nat) (c : Array Value) (hb : base ≤ w.heap.size) (hn : n ≤ maxLen) (hc : c.size = n * sz) : (w.alloc (.cells c e)).ownsRow base e sz (.slice (some ⟨w.heap.size, 0, none⟩) n n) n c.toList :=
  ⟨by simpa using hc, .inr ⟨w.heap.size, n, c, rfl, hb, heap_alloc_new w _, Nat.le_refl _, hn, hc, by rw [List.take_of_length_le (by simp [hc])]⟩⟩

/-- At an append whose run is known. -/
theorem wpList_append_run {P : Program} {w w' : World} {ops : Array Oper} {rest : List Oper} {o : Oper} {a : Act} {Q : Exit → Act → World → Prop} {s x : Operand} {t ti ty : TypeId} {v u v' : Value}
    (hrun : (Builtin.append_ #[t, ti] ty #[v, u]).run P w = .ok v' w') (hgd : o.guard = none)
    (ho : o.op = .call { callee := .builtin .append, args := #[s, x], argTypes := #[t, ti] }) (hty : o.type = ty) (hs : a.eval s = v) (hx : a.eval x = u)
    (h : wpList P ops Q rest (a.put o.dst v') w') : wpList P ops Q (o :: rest) a w := by
  subst hty
  refine wpList_plain hgd fun K hK => ?_
  unfold Oper.wp
  simp [execOp, ho, resolve, invoke, builtin, hs, hx, hrun, Result.andThen]
  exact hK _ _ h

/-- A text's bytes. -/
def Str (l : List UInt8) : ByteArray := ⟨l.toArray⟩
theorem Str_size (l : List UInt8) : (Str l).size = l.length := by simp [Str, ByteArray.size]
theorem Str_toList (l : List UInt8) : (Str l).data.toList = l := by simp [Str]
theorem Str_list (l : List UInt8) : (Str l).toList = l := by rw [ByteArray.toList_eq]; exact Str_toList l
theorem Str_beq (a b : List UInt8) : ((Str a).toList == (Str b).toList) = (a == b) := by rw [Str_list, Str_list]
theorem Str_inj {a b : List UInt8} (h : Str a = Str b) : a = b := by
  have := congrArg (fun s : ByteArray => s.data.toList) h
  simpa [Str] using this
/-- An append whose run is known, as one step of a region that draws. -/
theorem step_append_run {P : Program} {w w' : World} {ops : Array Oper} {o : Oper} {a : Act} {K : Act → World → Prop} {Q : Exit → Act → World → Prop} {E : Prop} {s x : Operand} {t ti ty : TypeId} {v u v' : Value}
    (hrun : (Builtin.append_ #[t, ti] ty #[v, u]).run P w = .ok v' w') (hgd : o.guard = none)
    (ho : o.op = .call { callee := .builtin .append, args := #[s, x], argTypes := #[t, ti] }) (hty : o.type = ty) (hs : a.eval s = v) (hx : a.eval x = u)
    (h : K (a.put o.dst v') w') : if Region.wanted o (yielded ops a.tmps) = true then Oper.wp P o a w K Q else E := by
  have hw : Region.wanted o (yielded ops a.tmps) = true := by simp [Region.wanted, hgd]
  rw [if_pos hw]
  subst hty
  unfold Oper.wp
  simp [execOp, ho, resolve, invoke, builtin, hs, hx, hrun, Result.andThen]
  exact h
/-! ### Listed sentinel errors -/
/-- All listed sentinels at once: each variable holds a pointer of its own. -/
theorem sents {P : Program} {W : World} {nm : String} {ti tp te ts : TypeId} {ms : Array (String × TypeId)} {f : Field}
    (hi : P.underlying ti = some (.interface ms)) (hrow : ∀ u, P.typeName? 3 u = some nm → u = tp)
    (hp : P.underlying tp = some (.pointer te)) (he : P.underlying te = some (.struct #[f])) (hft : f.type = ts) (hfo : f.offset = 0) (hs : P.underlying ts = some .string) (hc : P.cellsOf te = 1) (hcs : P.cellsOf ts = 1) :
    ∀ {L : List (String × DataW Unit)} {ps : List MemPlace}, DataW.LaidVars P W L ps → (∀ x ∈ L, (∃ text, x.2 = .iface nm (.ptr (.agg [.lit (.string text)]))) ∧ ∀ g, P.globalNamed x.1 = some g → (P.globals[g]?).map (·.type) = some ti) → ps.Nodup →
      (∀ b off, MemPlace.cell b off ∈ ps → ∀ u v, W.cell? ⟨b, off, none⟩ = some (.iface u v) → Value.okWide P W .any 0 u v) →
      ∃ A : Nat → Addr, (∀ x ∈ L, ∃ g, P.globalNamed x.1 = some g ∧ W.cell? ⟨g, 0, none⟩ = some (.iface tp (.pointer (some (A g)))) ∧ MemPlace.cell g 0 ∈ ps ∧ MemPlace.cell (A g).block (A g).off ∈ ps ∧ (A g).spot = none) ∧
        ∀ x ∈ L, ∀ y ∈ L, ∀ g g', P.globalNamed x.1 = some g → P.globalNamed y.1 = some g' → A g = A g' → g = g'
  | [], _, _, _, _, _ => ⟨fun _ => ⟨0, 0, none⟩, by simp, by simp⟩
  | (n, d) :: L, _, h, hx, hnd, hok => by
    obtain ⟨g, t, cs, fuel, p, q, hg, ht, hv, hd, hL, rfl⟩ := h
    obtain ⟨⟨text, hde⟩, hty⟩ := hx (n, d) (by simp)
    simp only at hde hty
    subst hde
    obtain rfl := Option.some.inj ((hty g hg).symm.trans ht)
    obtain ⟨l0⟩ := cs
    have ok0 : ∀ u v, l0 = [.iface u v] → Value.okWide P W .any 0 u v := fun u v e => by
      subst e
      exact hok g 0 (by simp [MemPlace.row]) u v (by simpa using World.var?_cell hg hv 0)
    obtain ⟨a0, s0, rfl, hc0, _, _, rfl⟩ := errorString_of_trod hi hrow hp he hft hfo hs hc hcs hd ok0
    have hsp := World.cell?_spot hc0
    obtain ⟨A, h1, h2⟩ := sents hi hrow hp he hft hfo hs hc hcs hL (fun x hx' => hx x (by simp [hx'])) (List.Nodup.sublist (List.sublist_append_right _ _) hnd) (fun b off hm => hok b off (List.mem_append_right _ hm))
    have hcell : W.cell? ⟨g, 0, none⟩ = some (.iface tp (.pointer (some a0))) := by simpa using World.var?_cell hg hv 0
    simp only [MemPlace.row, List.size_toArray, List.length_cons, List.length_nil] at hnd
    have hng : MemPlace.cell g 0 ∉ q := by
      intro hm
      simp at hnd
      exact hnd.1.2 hm
    have hna : MemPlace.cell a0.block a0.off ∉ q := by
      intro hm
      simp at hnd
      exact hnd.2.1 hm
    have hgg : ∀ x ∈ L, ∀ g', P.globalNamed x.1 = some g' → g' ≠ g := by
      rintro x hx' g' hg' rfl
      obtain ⟨g2, hg2, _, hm, _⟩ := h1 x hx'
      obtain rfl := Option.some.inj (hg'.symm.trans hg2)
      exact hng hm
    refine ⟨fun k => if k = g then a0 else A k, ?_, ?_⟩
    · intro x hx'
      rcases List.mem_cons.1 hx' with rfl | hx'
      · exact ⟨g, hg, by simpa using hcell, by simp [MemPlace.row], by simp [MemPlace.row], by simpa using hsp⟩
      · obtain ⟨g2, hg2, c2, m2, m3, m4⟩ := h1 x hx'
        have hne := hgg x hx' g2 hg2
        exact ⟨g2, hg2, by simpa [hne] using c2, by simp [m2], by simp [hne, m3], by simpa [hne] using m4⟩
    · intro x hx' y hy' g1 g2 e1 e2 hA
      rcases List.mem_cons.1 hx' with rfl | hx' <;> rcases List.mem_cons.1 hy' with rfl | hy'
      · exact Option.some.inj (e1.symm.trans e2)
      · obtain rfl := Option.some.inj (hg.symm.trans e1)
        obtain ⟨g3, hg3, _, _, m3, _⟩ := h1 y hy'
        obtain rfl := Option.some.inj (e2.symm.trans hg3)
        have hne := hgg y hy' _ e2
        simp [hne] at hA
        rw [← hA] at m3
        exact absurd m3 hna
      · obtain rfl := Option.some.inj (hg.symm.trans e2)
        obtain ⟨g3, hg3, _, _, m3, _⟩ := h1 x hx'
        obtain rfl := Option.some.inj (e1.symm.trans hg3)
        have hne := hgg x hx' _ e1
        simp [hne] at hA
        rw [hA] at m3
        exact absurd m3 hna
      · have n1 := hgg x hx' _ e1
        have n2 := hgg y hy' _ e2
        simp [n1, n2] at hA
        exact h2 x hx' y hy' g1 g2 e1 e2 hA

/-- THE SENTINELS AT THE VARIABLES 'S' (by number): each holds the address 'A g' of an error of its own; 'T' is the dynamic type. -/
structure Sent (T : TypeId) (w : World) (A : Nat → Addr) (S : List Nat) : Prop where
  cell : ∀ g ∈ S, w.cell? ⟨g, 0, none⟩ = some (.iface T (.pointer (some (A g))))
  row : ∀ g ∈ S, ∃ c t, w.heap[(A g).block]? = some (.cells c t (0, 0))
  inj : ∀ g ∈ S, ∀ g' ∈ S, A g = A g' → g = g'
theorem Sent.keep {T : TypeId} {w w' : World} {A : Nat → Addr} {S : List Nat} (h : Sent T w A S) (hb : Below w.heap.size w w') : Sent T w' A S := by
  refine ⟨fun g hg => ?_, fun g hg => ?_, h.inj⟩
  · rw [hb.cell (p := ⟨g, 0, none⟩) (lt_of_cell (p := ⟨g, 0, none⟩) (h.cell g hg))]; exact h.cell g hg
  · obtain ⟨c, t, hc⟩ := h.row g hg
    exact ⟨c, t, by rw [hb.block _ (Array.getElem?_eq_some_iff.1 hc).1]; exact hc⟩
theorem Sent.sub {T : TypeId} {w : World} {A : Nat → Addr} {S S' : List Nat} (h : Sent T w A S) (hs : ∀ g ∈ S', g ∈ S) : Sent T w A S' :=
  ⟨fun g hg => h.cell g (hs g hg), fun g hg => h.row g (hs g hg), fun g hg g' hg' => h.inj g (hs g hg) g' (hs g' hg')⟩
/-- From the row's condition, where all that is listed are sentinels. -/
theorem sent_of_laid {P : Program} {W : World} {nm : String} {ti tp te ts : TypeId} {ms : Array (String × TypeId)} {f : Field} {L : List (String × DataW Unit)} {S : List Nat}
    (hi : P.underlying ti = some (.interface ms)) (hrow : ∀ u, P.typeName? 3 u = some nm → u = tp)
    (hp : P.underlying tp = some (.pointer te)) (he : P.underlying te = some (.struct #[f])) (hft : f.type = ts) (hfo : f.offset = 0) (hs : P.underlying ts = some .string) (hc : P.cellsOf te = 1) (hcs : P.cellsOf ts = 1)
    (hL : laidMet P L W) (hx : ∀ x ∈ L, (∃ text, x.2 = .iface nm (.ptr (.agg [.lit (.string text)]))) ∧ ∀ g, P.globalNamed x.1 = some g → (P.globals[g]?).map (·.type) = some ti)
    (hS : ∀ g ∈ S, ∃ x ∈ L, P.globalNamed x.1 = some g) : ∃ A, Sent tp W A S := by
  obtain ⟨ps, hv, hnd, hrows⟩ := hL
  obtain ⟨A, h1, h2⟩ := sents hi hrow hp he hft hfo hs hc hcs hv hx hnd (fun b off hm => (hrows b off hm).2)
  refine ⟨A, fun g hg => ?_, fun g hg => ?_, fun g hg g' hg' hA => ?_⟩
  · obtain ⟨x, hx', hgx⟩ := hS g hg
    obtain ⟨g2, hg2, c2, _⟩ := h1 x hx'
    obtain rfl := Option.some.inj (hgx.symm.trans hg2)
    exact c2
  · obtain ⟨x, hx', hgx⟩ := hS g hg
    obtain ⟨g2, hg2, _, _, m3, _⟩ := h1 x hx'
    obtain rfl := Option.some.inj (hgx.symm.trans hg2)
    exact (hrows _ _ m3).1
  · obtain ⟨x, hx', hgx⟩ := hS g hg
    obtain ⟨y, hy', hgy⟩ := hS g' hg'
    exact h2 x hx' y hy' g g' hgx hgy hA

theorem laidVars_filter {P : Program} {w : World} (p : String × DataW Unit → Bool) : ∀ {L : List (String × DataW Unit)} {ps : List MemPlace}, DataW.LaidVars P w L ps → ∃ qs, DataW.LaidVars P w (L.filter p) qs ∧ qs.Sublist ps
  | [], _, h => ⟨[], rfl, by cases h; exact List.Sublist.refl _⟩
  | (n, d) :: L, _, h => by
    obtain ⟨g, t, cs, fuel, p', q, hg, ht, hv, hd, hL, rfl⟩ := h
    obtain ⟨qs, h1, h2⟩ := laidVars_filter p hL
    by_cases hp : p (n, d) = true
    · rw [List.filter_cons_of_pos hp]
      exact ⟨MemPlace.row ⟨g, 0, none⟩ cs.size ++ p' ++ qs, ⟨g, t, cs, fuel, p', qs, hg, ht, hv, hd, h1, rfl⟩, h2.append_left _⟩
    · rw [List.filter_cons_of_neg hp]
      exact ⟨qs, h1, h2.trans (List.sublist_append_right _ _)⟩
/-- A part of the list is met where the list is. -/
theorem laidMet_filter {P : Program} {w : World} {L : List (String × DataW Unit)} (p : String × DataW Unit → Bool) (h : laidMet P L w) : laidMet P (L.filter p) w := by
  obtain ⟨ps, hv, hnd, hrows⟩ := h
  obtain ⟨qs, h1, h2⟩ := laidVars_filter p hv
  exact ⟨qs, h1, h2.nodup hnd, fun b off hm => hrows b off (h2.subset hm)⟩
def isSent (nm : String) : DataW Unit → Bool
  | .iface t (.ptr (.agg [.lit (.string _)])) => t == nm
  | _ => false
theorem isSent_spec {nm : String} {d : DataW Unit} (h : isSent nm d = true) : ∃ text, d = .iface nm (.ptr (.agg [.lit (.string text)])) := by
  unfold isSent at h
  split at h
  · have := eq_of_beq h
    subst this
    exact ⟨_, rfl⟩
  · cases h
/-- The sentinels of a list, all else left aside. -/
theorem sent_of {P : Program} {W : World} {nm : String} {ti tp te ts : TypeId} {ms : Array (String × TypeId)} {f : Field} {L : List (String × DataW Unit)} {S : List Nat}
    (hi : P.underlying ti = some (.interface ms)) (hrow : ∀ u, P.typeName? 3 u = some nm → u = tp)
    (hp : P.underlying tp = some (.pointer te)) (he : P.underlying te = some (.struct #[f])) (hft : f.type = ts) (hfo : f.offset = 0) (hs : P.underlying ts = some .string) (hc : P.cellsOf te = 1) (hcs : P.cellsOf ts = 1)
    (hL : laidMet P L W) (hty : (L.all fun x => !isSent nm x.2 || (match P.globalNamed x.1 with | some g => (P.globals[g]?).map (·.type) == some ti | none => true)) = true)
    (hS : (S.all fun g => L.any fun x => isSent nm x.2 && P.globalNamed x.1 == some g) = true) : ∃ A, Sent tp W A S := by
  refine sent_of_laid hi hrow hp he hft hfo hs hc hcs (laidMet_filter (fun x => isSent nm x.2) hL) (fun x hx => ?_) (fun g hg => ?_)
  · obtain ⟨hx1, hx2⟩ := List.mem_filter.1 hx
    refine ⟨isSent_spec hx2, fun g hg => ?_⟩
    have := List.all_eq_true.1 hty x hx1
    rw [hx2, hg] at this
    simpa using this
  · have := List.all_eq_true.1 hS g hg
    obtain ⟨x, hx, hx2⟩ := List.any_eq_true.1 this
    simp only [Bool.and_eq_true, beq_iff_eq] at hx2
    exact ⟨x, List.mem_filter.2 ⟨hx, hx2.1⟩, hx2.2⟩

/-! ### Arguments opened -/
section
variable {H : Type} {enc : TypeId × Value → H} {P : Program} {w : World} {base : Nat} {spare : Nat → Bool} {held : Bool}
end

end Kt
end Go.Proofs.YtoeeddfinmfnoaaDoor

/- Plain law of chapter 12: names, words, and what they say. No program. -/
namespace Go.Proofs.YtoeeddfinmfnoaaDoor
open Go Go.RowKit Kt
namespace Ac
def isLet (c : UInt8) : Bool := decide (97 ≤ c.toNat) && decide (c.toNat ≤ 122)
def isDig (c : UInt8) : Bool := decide (48 ≤ c.toNat) && decide (c.toNat ≤ 57)
/-- A name's byte at a place. -/
def nmAt (i : Nat) (c : UInt8) : Bool := isLet c || (decide (0 < i) && isDig c)
def nmAll : Nat → List UInt8 → Bool
  | _, [] => true
  | i, c :: l => nmAt i c && nmAll (i + 1) l
/-- A right name. -/
def nm (l : List UInt8) : Bool := nmAll 0 l && (decide (l ≠ []) && decide (l.length ≤ 12))
theorem nm_len {l : List UInt8} (h : nm l = true) : l.length ≤ 12 := by
  simp only [nm, Bool.and_eq_true, decide_eq_true_eq] at h
  exact h.2.2
end Ac
end Go.Proofs.YtoeeddfinmfnoaaDoor

/- Results of which the first lies in a cell and the others in slots. Over any program. -/
namespace Go.Proofs.YtoeeddfinmfnoaaDoor
open Go Go.RowKit
namespace Kt
theorem results_cell2_row {P : Program} {fn : Func} {p u : Tmp} {ty : TypeId} (h : fn.results = #[.cell p ty, .tmp u]) (tmps : Array Value) (w : World) (g : Nat) (t : TypeId) (cs : Array Value) (fr : Nat × Nat) (d : TypeDesc)
    (hp : tmps.getD p undef = .pointer (some ⟨g, 0, none⟩)) (hg : w.heap[g]? = some (.cells cs t fr))
    (hu : P.underlying ty = some d) (hd : (match d with | .struct _ | .array _ _ => true | _ => false) = true) (hi : (P.info? ty).map (·.size) = some cs.size) :
    (results fn tmps).run P w = .ok (.tuple #[.agg cs, tmps.getD u undef]) w := by
  rw [results_cell_tmp h, hp]
  simp [asAddr, run_loadVar_row w g t ty cs fr d hg hu hd hi, Result.andThen]
theorem results_cell3_row {P : Program} {fn : Func} {p u v : Tmp} {ty : TypeId} (h : fn.results = #[.cell p ty, .tmp u, .tmp v]) (tmps : Array Value) (w : World) (g : Nat) (t : TypeId) (cs : Array Value) (fr : Nat × Nat) (d : TypeDesc)
    (hp : tmps.getD p undef = .pointer (some ⟨g, 0, none⟩)) (hg : w.heap[g]? = some (.cells cs t fr))
    (hu : P.underlying ty = some d) (hd : (match d with | .struct _ | .array _ _ => true | _ => false) = true) (hi : (P.info? ty).map (·.size) = some cs.size) :
    (results fn tmps).run P w = .ok (.tuple #[.agg cs, tmps.getD u undef, tmps.getD v undef]) w := by
  have hp' : tmps[p]?.getD undef = .pointer (some ⟨g, 0, none⟩) := by simpa using hp
  simp only [results, h]
  simp [Sem.run_bind, Result.andThen, hp', asAddr, run_loadVar_row w g t ty cs fr d hg hu hd hi]
end Kt
end Go.Proofs.YtoeeddfinmfnoaaDoor

/- What a call that writes only to some blocks (and to new ones) keeps. Over any program. -/
namespace Go.Proofs.YtoeeddfinmfnoaaDoor
open Go Go.RowKit
namespace Kt

/-- Of the blocks of w only those of 'S' may have turned. -/
structure Mod (S : List Nat) (w w' : World) : Prop where
  os : w'.os = w.os
  tape : w'.tape = w.tape
  output : w'.output = w.output
  size : w.heap.size ≤ w'.heap.size
  block : ∀ k, k < w.heap.size → k ∉ S → w'.heap[k]? = w.heap[k]?

theorem Mod.refl (S : List Nat) (w : World) : Mod S w w := ⟨rfl, rfl, rfl, Nat.le_refl _, fun _ _ _ => rfl⟩
theorem Mod.trans {S S' : List Nat} {a b c : World} (h : Mod S a b) (k : Mod S' b c) (hS : ∀ x ∈ S', x ∈ S ∨ a.heap.size ≤ x) : Mod S a c :=
  ⟨k.os.trans h.os, k.tape.trans h.tape, k.output.trans h.output, Nat.le_trans h.size k.size, fun i hi hn =>
    (k.block i (Nat.lt_of_lt_of_le hi h.size) (fun hm => by rcases hS i hm with h1 | h1; exact hn h1; omega)).trans (h.block i hi hn)⟩
theorem Mod.below {S : List Nat} {a b c : World} (h : Mod S a b) (k : Below b.heap.size b c) : Mod S a c :=
  ⟨k.os.trans h.os, k.tape.trans h.tape, k.output.trans h.output, Nat.le_trans h.size k.size, fun i hi hn => (k.block i (Nat.lt_of_lt_of_le hi h.size)).trans (h.block i hi hn)⟩
theorem Mod.drew {S : List Nat} {a b : World} (h : Mod S a b) : Mod S a b.drew := ⟨h.os, h.tape, h.output, h.size, h.block⟩
theorem Mod.drewN {S : List Nat} {a b : World} (h : Mod S a b) (n : Nat) : Mod S a (b.drewN n) := ⟨h.os, h.tape, h.output, h.size, h.block⟩
theorem Mod.alloc {S : List Nat} {a b : World} (h : Mod S a b) (o : Obj) : Mod S a (b.alloc o) := h.below ((Below.refl _ _).alloc (Nat.le_refl _) o)
theorem Mod.setCell {S : List Nat} {a b : World} (h : Mod S a b) {p : Addr} (hp : p.block ∈ S ∨ a.heap.size ≤ p.block) (v : Value) : Mod S a (b.setCell p v) :=
  ⟨h.os, h.tape, h.output, by simpa [World.setCell] using h.size, fun i hi hn => by
    rw [Below.heap_setCell _ _ _ _ (by rintro rfl; rcases hp with h1 | h1; exact hn h1; omega)]
    exact h.block i hi hn⟩
theorem Mod.grown {S : List Nat} {a b c : World} {row : Option Nat} (h : Mod S a b) (hg : b.grownBy c row) (hr : ∀ k, row = some k → k ∈ S ∨ a.heap.size ≤ k) : Mod S a c :=
  ⟨hg.os.trans h.os, hg.tape.trans h.tape, hg.output.trans h.output, Nat.le_trans h.size hg.size, fun i hi hn =>
    (hg.block i (Nat.lt_of_lt_of_le hi h.size) (fun e => by rcases hr i e.symm with h1 | h1; exact hn h1; omega)).trans (h.block i hi hn)⟩
/-- All that may have turned lies from B on. -/
theorem Mod.toBelow {S : List Nat} {w w' : World} (h : Mod S w w') {B : Nat} (hB : B ≤ w.heap.size) (hS : ∀ k ∈ S, B ≤ k) : Below B w w' :=
  ⟨h.os, h.tape, h.output, h.size, fun k hk => h.block k (by omega) (fun hm => by have := hS k hm; omega)⟩
theorem Mod.of_below {w w' : World} (h : Below w.heap.size w w') (S : List Nat) : Mod S w w' := (Mod.refl S w).below h
theorem Mod.sub {S S' : List Nat} {w w' : World} (h : Mod S w w') (hs : ∀ k ∈ S, k ∈ S') : Mod S' w w' :=
  ⟨h.os, h.tape, h.output, h.size, fun k hk hn => h.block k hk (fun hm => hn (hs k hm))⟩
theorem Mod.cell {S : List Nat} {w w' : World} (h : Mod S w w') {p : Addr} (hp : p.block < w.heap.size) (hn : p.block ∉ S) : w'.cell? p = w.cell? p := World.cell?_of_block (w := w) (h.block p.block hp hn)
theorem Rd.mod {S : List Nat} {w w' : World} {a : Option Addr} {xs : List Value} (h : Rd w a xs) (hb : Mod S w w') (hn : ∀ p, a = some p → p.block ∉ S) : Rd w' a xs := fun i x hi => by
  obtain ⟨b, off, ha, hc⟩ := h i x hi
  exact ⟨b, off, ha, by rw [hb.cell (p := ⟨b, off + i, none⟩) (lt_of_cell (p := ⟨b, off + i, none⟩) hc) (show b ∉ S from hn ⟨b, off, none⟩ ha)]; exact hc⟩
theorem own_mod {S : List Nat} {w w' : World} {base e sz n : Nat} {v : Value} {xs : List Value} (h : w.ownsRow base e sz v n xs) (hb : Mod S w w') (hn : ∀ k, v.ownBlock = some k → k ∉ S) : w'.ownsRow base e sz v n xs := by
  obtain ⟨h1, h2 | ⟨g, cap, cur, rfl, h4, h5, h6⟩⟩ := h
  · exact ⟨h1, .inl h2⟩
  · exact ⟨h1, .inr ⟨g, cap, cur, rfl, h4, by rw [hb.block g (Array.getElem?_eq_some_iff.1 h5).1 (hn g rfl)]; exact h5, h6⟩⟩
/-! ### Slices of structs -/
theorem flat_at {α : Type} (f : α → List Value) (sz : Nat) : ∀ (l : List α), (∀ z ∈ l, (f z).length = sz) → ∀ (k j : Nat) (hk : k < l.length), j < sz → (l.flatMap f)[k * sz + j]? = (f l[k])[j]?
  | [], _, _, _, hk, _ => absurd hk (by simp)
  | z :: l, h, 0, j, _, hj => by
    have := h z (by simp)
    rw [List.flatMap_cons, Nat.zero_mul, Nat.zero_add, List.getElem?_append_left (by omega)]
    rfl
  | z :: l, h, k + 1, j, hk, hj => by
    have h0 := h z (by simp)
    rw [List.flatMap_cons, List.getElem?_append_right (by rw [h0, Nat.succ_mul]; omega), h0, show (k + 1) * sz + j - sz = k * sz + j by rw [Nat.succ_mul]; omega]
    exact flat_at f sz l (fun z hz => h z (by simp [hz])) k j (by simpa using hk) hj
theorem Rd.struct {α : Type} {f : α → List Value} {w : World} {a : Option Addr} {l : List α} (sz : Nat) (h : Rd w a (l.flatMap f)) (hf : ∀ z ∈ l, (f z).length = sz) (k : Nat) (hk : k < l.length) (hsz : 0 < sz) :
    ∃ b off, a = some ⟨b, off, none⟩ ∧ ∀ j x, (f l[k])[j]? = some x → j < sz → w.cell? ⟨b, off + (k * sz + j), none⟩ = some x := by
  have h0 := flat_at f sz l hf k 0 hk hsz
  have hl := hf _ (List.getElem_mem hk)
  have hx0 : (f l[k])[0]? = some ((f l[k])[0]'(by omega)) := List.getElem?_eq_getElem _
  rw [hx0] at h0
  obtain ⟨b, off, ha, _⟩ := h _ _ h0
  refine ⟨b, off, ha, fun j x hx hj => ?_⟩
  have h1 := flat_at f sz l hf k j hk hj
  rw [hx] at h1
  obtain ⟨b', off', ha', hc⟩ := h _ _ h1
  rw [ha] at ha'
  simp only [Option.some.injEq, Addr.mk.injEq, and_true] at ha'
  obtain ⟨rfl, rfl⟩ := ha'
  exact hc
section
variable {H : Type} {enc : TypeId × Value → H} {P : Program} {w : World} {base : Nat} {spare : Nat → Bool} {held : Bool}
end
/-! ### Blocks known whole -/
theorem cell_block {w : World} {b e : Nat} {c : Array Value} {f : Nat × Nat} (h : w.heap[b]? = some (.cells c e f)) (i : Nat) : w.cell? ⟨b, i, none⟩ = c[i]? := by
  unfold World.cell?
  rw [h]
  simp
theorem frozen_block {w : World} {b e : Nat} {c : Array Value} (h : w.heap[b]? = some (.cells c e (0, 0))) (i : Nat) : w.frozen? ⟨b, i, none⟩ = false := by
  unfold World.frozen?
  rw [h]
  simp
theorem block_setCell {w : World} {b e i : Nat} {c : Array Value} {f : Nat × Nat} (h : w.heap[b]? = some (.cells c e f)) (v : Value) : (w.setCell ⟨b, i, none⟩ v).heap[b]? = some (.cells (c.setIfInBounds i v) e f) := by
  simp [World.setCell, Array.getElem?_modify, h]
theorem block_setOther {w : World} {b k i : Nat} (h : k ≠ b) (v : Value) : (w.setCell ⟨b, i, none⟩ v).heap[k]? = w.heap[k]? := Below.heap_setCell _ _ _ _ h
theorem block_lt {w : World} {b : Nat} {o : Obj} (h : w.heap[b]? = some o) : b < w.heap.size := (Array.getElem?_eq_some_iff.1 h).1
theorem block_alloc {w : World} {b : Nat} {o x : Obj} (h : w.heap[b]? = some o) : (w.alloc x).heap[b]? = some o := by rw [Below.heap_alloc _ _ _ (block_lt h)]; exact h
end Kt
end Go.Proofs.YtoeeddfinmfnoaaDoor

/- Plain law of chapter 07: trees, and the walk that comes to their nodes. No program. -/
namespace Go.Proofs.YtoeeddfinmfnoaaDoor
open Go Go.RowKit Kt
namespace Tr
/-- A tree, with the places of its rows of kids. -/
inductive Nd where
  | mk (kind : Int) (set : List Nat) (mn mx : Int) (text : List UInt8) (a : Option Addr) (cap : Nat) (kids : List Nd)
namespace Nd
def kind : Nd → Int | mk k _ _ _ _ _ _ _ => k
def set : Nd → List Nat | mk _ s _ _ _ _ _ _ => s
def mn : Nd → Int | mk _ _ m _ _ _ _ _ => m
def mx : Nd → Int | mk _ _ _ m _ _ _ _ => m
def text : Nd → List UInt8 | mk _ _ _ _ t _ _ _ => t
def a : Nd → Option Addr | mk _ _ _ _ _ a _ _ => a
def cap : Nd → Nat | mk _ _ _ _ _ _ c _ => c
def kids : Nd → List Nd | mk _ _ _ _ _ _ _ ks => ks
end Nd
instance : Inhabited Nd := ⟨.mk 0 [0, 0, 0, 0] 0 0 [] none 0 []⟩
/-- A set's four words as values. -/
def w64 (l : List Nat) : List Value := l.map fun x : Nat => .int .u64 (x : Int)
/-- A node's nine cells. -/
def cells (n : Nd) : List Value := .int .i64 n.kind :: (w64 n.set ++ [.slice n.a n.kids.length n.cap, .int .i64 n.mn, .int .i64 n.mx, .string (Str n.text)])
theorem cells_len (n : Nd) (h : n.set.length = 4) : (cells n).length = 9 := by simp [cells, w64, h]
mutual
/-- The tree lies in memory, below B: each node's row of kids reads as they; sets of four words; rows as Go's. -/
def Is (B : Nat) (W : World) : Nd → Prop
  | .mk _ s _ _ _ a c ks => s.length = 4 ∧ ks.length ≤ c ∧ c ≤ maxLen ∧ (a = none → c = 0) ∧ Rd W a (ks.flatMap cells) ∧ (∀ p, a = some p → ks.flatMap cells ≠ [] → p.block < B) ∧ IsAll B W ks
def IsAll (B : Nat) (W : World) : List Nd → Prop
  | [] => True
  | n :: r => Is B W n ∧ IsAll B W r
end
theorem Is.all {B : Nat} {W : World} : ∀ {ks : List Nd}, IsAll B W ks → ∀ k ∈ ks, Is B W k
  | [], _, k, hk => by cases hk
  | n :: r, h, k, hk => by
    rcases List.mem_cons.1 hk with rfl | hk
    · exact h.1
    · exact Is.all h.2 k hk
theorem Is.len {B : Nat} {W : World} {n : Nd} (h : Is B W n) : n.set.length = 4 := by
  cases n
  exact h.1
mutual
theorem Is.below {B : Nat} {W W' : World} (hb : Below B W W') : ∀ {n : Nd}, Is B W n → Is B W' n
  | .mk _ _ _ _ _ _ _ _, ⟨h1, h2, h3, h4, h5, h6, h7⟩ => ⟨h1, h2, h3, h4, h5.below hb h6, h6, IsAll.below hb h7⟩
theorem IsAll.below {B : Nat} {W W' : World} (hb : Below B W W') : ∀ {ks : List Nd}, IsAll B W ks → IsAll B W' ks
  | [], _ => trivial
  | _ :: _, h => ⟨Is.below hb h.1, IsAll.below hb h.2⟩
end
/-- A node as a value. -/
def nv (n : Nd) : Value := .agg (cells n).toArray
mutual
/-- All nodes that the walk would come to with no bound on their number: with their levels; below level 24 it goes no further. -/
def full : Nat → Nd → List (Nd × Nat)
  | lv, .mk k s m x t a c ks => (.mk k s m x t a c ks, lv) :: (if 24 < lv then [] else fulls (lv + 1) ks)
def fulls : Nat → List Nd → List (Nd × Nat)
  | _, [] => []
  | lv, n :: r => full lv n ++ fulls lv r
end
theorem full_eq (lv : Nat) (n : Nd) : full lv n = (n, lv) :: (if 24 < lv then [] else fulls (lv + 1) n.kids) := by cases n; rfl
/-- The walk. -/
def walk (n : Nd) : List (Nd × Nat) := (full 1 n).take 601
/-- A node has nothing but what is of its kind. -/
def bare (n : Nd) : Bool := (decide (n.set = [0, 0, 0, 0]) || decide (n.kind = 1)) && ((decide (n.mn = 0) && decide (n.mx = 0)) || decide (n.kind = 4)) && (decide (n.text = []) || decide (n.kind = 5))
/-- A node by itself is right. -/
def one (n : Nd) : Bool := bare n && (if n.kind = 1 then decide (n.kids.length = 0) else if n.kind = 2 then true else if n.kind = 3 then decide (2 ≤ n.kids.length)
  else if n.kind = 4 then decide (n.kids.length = 1) && (decide (0 ≤ n.mn) && decide (n.mn ≤ 40) && (decide (n.mx = -1) || (decide (max n.mn 1 ≤ n.mx) && decide (n.mx ≤ 40))))
  else decide (n.kind = 5) && decide (n.kids.length = 0) && Ac.nm n.text)
/-- A right tree. -/
def rgt (n : Nd) : Bool := decide ((walk n).length ≤ 600) && (walk n).all fun x => decide (x.2 ≤ 24) && one x.1
/-- How deep it is. -/
def deep (l : List (Nd × Nat)) : Nat := l.foldl (fun d x => max d x.2) 0
end Tr
end Go.Proofs.YtoeeddfinmfnoaaDoor
