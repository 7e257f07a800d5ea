import Derived.Test.YtpjimmdpcpcmoaaDoorQPoolPure
/- Plain law of chapter 31: a stream's bytes in buffers of a pool. No program. -/
namespace Go.Proofs.YtpjimmdpcpcmoaaDoor
namespace Ch
open Po
/-- A chain: its account, where its first byte stands, its bytes, how many came and went. -/
structure Cn where
  acc : Int
  frm : Nat
  all : List UInt8
  came : Nat
  went : Nat
/-- A byte of a buffer. -/
def byt (m : Md) (b t : Nat) : UInt8 := (m.cont.getD b []).getD t 0
/-- How many buffers so many bytes take. -/
def need (s f n : Nat) : Nat := if n = 0 then 0 else (f + n - 1) / s + 1
/-- What always holds of a chain with the buffers l. -/
structure Ok (m : Md) (l : List Nat) (c : Cn) : Prop where
  op : (crd m.acc c.acc).isSome = true
  hd : held m.own c.acc = l.length
  ow : ∀ b ∈ l, m.own[b]? = some c.acc
  nd : l.Nodup
  fs : c.frm < m.size
  ln : l.length = need m.size c.frm c.all.length
  z : c.all = [] → c.frm = 0
  cw : c.went + c.all.length = c.came
  byte : ∀ i (hi : i < c.all.length), ∃ b, l[(c.frm + i) / m.size]? = some b ∧ byt m b ((c.frm + i) % m.size) = c.all[i]
/-- Only what belongs to the account x is changed. -/
structure Only (x : Int) (m m' : Md) : Prop where
  size : m'.size = m.size
  acc : m'.acc = m.acc
  len : m'.own.length = m.own.length
  ow : ∀ (b : Nat) (y : Int), m.own[b]? = some y → y ≠ x → 0 ≤ y → m'.own[b]? = some y ∧ ∀ t, byt m' b t = byt m b t
  hd : ∀ y, y ≠ x → held m'.own y = held m.own y
  us : used m'.own + held m.own x = used m.own + held m'.own x
theorem Only.refl (x : Int) (m : Md) : Only x m m := ⟨rfl, rfl, rfl, fun _ _ h _ _ => ⟨h, fun _ => rfl⟩, fun _ _ => rfl, rfl⟩
theorem Only.trans {x : Int} {a b c : Md} (h : Only x a b) (k : Only x b c) : Only x a c :=
  ⟨k.size.trans h.size, k.acc.trans h.acc, k.len.trans h.len, fun q y h1 h2 h3 => by
    obtain ⟨h4, h5⟩ := h.ow q y h1 h2 h3
    obtain ⟨h6, h7⟩ := k.ow q y h4 h2 h3
    exact ⟨h6, fun t => (h7 t).trans (h5 t)⟩, fun y hy => (k.hd y hy).trans (h.hd y hy), by have := h.us; have := k.us; omega⟩
/-- Another chain stays as it was. -/
theorem Ok.other {x : Int} {m m' : Md} {l : List Nat} {c : Cn} (h : Ok m l c) (hp : Po.Ok m) (ho : Only x m m') (hx : c.acc ≠ x) : Ok m' l c := by
  obtain ⟨q, hq⟩ := Option.isSome_iff_exists.1 h.op
  have h0 := (hp.cr _ (crd_mem hq)).1
  simp only at h0
  refine ⟨by rw [ho.acc]; exact h.op, (ho.hd _ hx).trans h.hd, fun b hb => (ho.ow b _ (h.ow b hb) hx h0).1, h.nd, by rw [ho.size]; exact h.fs, by rw [ho.size]; exact h.ln, h.z, h.cw, fun i hi => ?_⟩
  obtain ⟨b, h1, h2⟩ := h.byte i hi
  rw [ho.size]
  exact ⟨b, h1, by rw [(ho.ow b _ (h.ow b (List.mem_of_getElem? h1)) hx h0).2]; exact h2⟩
theorem Ok.acc0 {m : Md} {l : List Nat} {c : Cn} (h : Ok m l c) (hp : Po.Ok m) : 0 ≤ c.acc := by
  obtain ⟨q, hq⟩ := Option.isSome_iff_exists.1 h.op
  exact (hp.cr _ (crd_mem hq)).1
/-! ### The pool's calls -/
theorem hld_zero {m : Md} {x : Int} {b : Nat} (h1 : (crd m.acc x).isSome = true) (h2 : m.own[b]? = some x) : hldE m x b = 0 := by
  obtain ⟨q, hq⟩ := Option.isSome_iff_exists.1 h1
  have hb : b < m.own.length := (List.getElem?_eq_some_iff.1 h2).1
  unfold hldE
  rw [if_neg (by rw [hq]; simp), if_neg]
  rintro (h | h | h)
  · omega
  · omega
  · rw [Int.toNat_natCast] at h; exact h h2
theorem plc_zero {m : Md} {x : Int} {b t : Nat} (h1 : (crd m.acc x).isSome = true) (h2 : m.own[b]? = some x) (h3 : t < m.size) : plcE m x b t = 0 := by
  unfold plcE
  rw [if_neg (by rw [hld_zero h1 h2]; simp), if_neg (by omega)]
theorem get_byt {m : Md} {x : Int} {b t : Nat} (h : plcE m x b t = 0) : Po.get m x b t = byt m b t := by
  unfold Po.get byt
  rw [if_pos h, Int.toNat_natCast, Int.toNat_natCast]
theorem byt_put {m : Md} (hp : Po.Ok m) {x : Int} {b t : Nat} (c : UInt8) (h : plcE m x b t = 0) (hb : b < m.own.length) (ht : t < m.size) (b' t' : Nat) :
    byt (put m x b t c) b' t' = if b' = b ∧ t' = t then c else byt m b' t' := by
  have hc : b < m.cont.length := by rw [hp.cl]; exact hb
  have hl : m.cont[b].length = m.size := hp.cs _ (List.getElem_mem hc)
  unfold put byt
  rw [if_pos h, Int.toNat_natCast, Int.toNat_natCast]
  simp only [List.getD_eq_getElem?_getD]
  by_cases h1 : b' = b
  · subst h1
    rw [List.getElem?_set_self hc, List.getElem?_eq_getElem hc]
    simp only [Option.getD_some]
    by_cases h2 : t' = t
    · subst h2
      rw [List.getElem?_set_self (by rw [hl]; exact ht), if_pos (by simp)]
      rfl
    · rw [List.getElem?_set_ne (fun e => h2 e.symm), if_neg (by simp [h2])]
  · rw [List.getElem?_set_ne (fun e => h1 e.symm), if_neg (by simp [h1])]
theorem put_only {m : Md} (hp : Po.Ok m) {x : Int} {b t : Nat} (c : UInt8) (h1 : (crd m.acc x).isSome = true) (h2 : m.own[b]? = some x) (h3 : t < m.size) : Only x m (put m x b t c) := by
  have h := plc_zero h1 h2 h3
  have hb : b < m.own.length := (List.getElem?_eq_some_iff.1 h2).1
  have ho : (put m x b t c).own = m.own := by unfold put; split <;> rfl
  refine ⟨by unfold put; split <;> rfl, by unfold put; split <;> rfl, by rw [ho], fun q y h4 h5 h6 => ⟨by rw [ho]; exact h4, fun t' => ?_⟩, fun y _ => by rw [ho], by rw [ho]⟩
  rw [byt_put hp c h hb h3, if_neg]
  rintro ⟨rfl, _⟩
  rw [h2] at h4
  simp only [Option.some.injEq] at h4
  exact h5 h4.symm
theorem put_own (m : Md) (x b t : Int) (c : UInt8) : (put m x b t c).own = m.own ∧ (put m x b t c).acc = m.acc ∧ (put m x b t c).size = m.size := by unfold put; split <;> exact ⟨rfl, rfl, rfl⟩
/-- A buffer that is taken. -/
theorem tak_only {m : Md} {x : Int} (hx : 0 ≤ x) (h : takE m x = 0) : ∃ i, takI m x = i ∧ i < m.own.length ∧ (tak m x).own[i]? = some x ∧ (∀ b, b ≠ i → (tak m x).own[b]? = m.own[b]? ∧ ∀ t, byt (tak m x) b t = byt m b t) ∧ (∀ y, 0 ≤ y → m.own[i]? ≠ some y) ∧ held (tak m x).own x = held m.own x + 1 ∧
    Only x m (tak m x) := by
  obtain ⟨c, i, h1, h2, h3, h4⟩ := takE_zero h
  obtain ⟨hi, h5, _⟩ := free1_some h3
  have e : tak m x = { m with own := m.own.set i x, cont := m.cont.set i (List.replicate m.size 0) } := by unfold tak; rw [if_pos h, h4]
  have hne : ∀ b, b ≠ i → (tak m x).own[b]? = m.own[b]? ∧ ∀ t, byt (tak m x) b t = byt m b t := fun b hb => by
    rw [e]
    refine ⟨List.getElem?_set_ne (fun e => hb e.symm), fun t => ?_⟩
    unfold byt
    simp only [List.getD_eq_getElem?_getD]
    rw [List.getElem?_set_ne (fun e => hb e.symm)]
  have hno : ∀ y, 0 ≤ y → m.own[i]? ≠ some y := fun y hy e => by
    rw [List.getElem?_eq_getElem hi] at e
    simp only [Option.some.injEq] at e
    omega
  have hh : ∀ y, held (tak m x).own y = held m.own y + if x = y then 1 else 0 := fun y => by
    have := held_set hi x y
    rw [e]
    simp only
    by_cases hxy : x = y
    · subst hxy
      rw [if_neg (by omega), if_pos ⟨rfl, hx⟩] at this
      rw [if_pos rfl]
      exact this
    · rw [if_neg (c := x = y ∧ 0 ≤ y) (by simp [hxy])] at this
      rw [if_neg hxy]
      split at this <;> omega
  have hu : used (tak m x).own = used m.own + 1 := by
    have := used_set hi x
    rw [e]
    simp only
    rw [if_neg (by omega), if_pos hx] at this
    exact this
  refine ⟨i, h4, hi, by rw [e]; simp only; rw [List.getElem?_set_self hi], hne, hno, by rw [hh, if_pos rfl], ⟨by rw [e], by rw [e], by rw [e]; simp, fun b y h6 h7 h8 => ?_, fun y hy => by rw [hh, if_neg (fun e => hy e.symm)]; rfl, by rw [hh, if_pos rfl, hu]; omega⟩⟩
  have hb : b ≠ i := by rintro rfl; exact hno y h8 h6
  exact ⟨(hne b hb).1.trans h6, (hne b hb).2⟩
/-- A buffer that is given back. -/
theorem giv_only {m : Md} {x : Int} {b : Nat} (hx : 0 ≤ x) (h1 : (crd m.acc x).isSome = true) (h2 : m.own[b]? = some x) : held (giv m x b).own x + 1 = held m.own x ∧ (∀ q, q ≠ b → (giv m x b).own[q]? = m.own[q]?) ∧ (∀ q t, byt (giv m x b) q t = byt m q t) ∧ Only x m (giv m x b) := by
  have h := hld_zero h1 h2
  have hb : b < m.own.length := (List.getElem?_eq_some_iff.1 h2).1
  have hbx : m.own[b] = x := by rw [List.getElem?_eq_getElem hb] at h2; simpa using h2
  have e : giv m x b = { m with own := m.own.set b (-1) } := by unfold giv; rw [if_pos h, Int.toNat_natCast]
  have hne : ∀ q, q ≠ b → (giv m x b).own[q]? = m.own[q]? := fun q hq => by rw [e]; exact List.getElem?_set_ne (fun e => hq e.symm)
  have hby : ∀ q t, byt (giv m x b) q t = byt m q t := fun q t => by rw [e]; rfl
  have hh : ∀ y, held (giv m x b).own y + (if x = y then 1 else 0) = held m.own y := fun y => by
    have := held_set hb (-1) y
    rw [e]
    simp only
    rw [if_neg (c := -1 = y ∧ 0 ≤ y) (by omega), hbx] at this
    by_cases hxy : x = y
    · subst hxy
      rw [if_pos ⟨rfl, hx⟩] at this
      rw [if_pos rfl]
      omega
    · rw [if_neg (by simp [hxy])] at this
      rw [if_neg hxy]
      omega
  have hu : used (giv m x b).own + 1 = used m.own := by
    have := used_set hb (-1)
    rw [e]
    simp only
    rw [hbx, if_pos hx, if_neg (by omega)] at this
    exact this
  have hhx := hh x
  rw [if_pos rfl] at hhx
  refine ⟨hhx, hne, hby, ⟨by rw [e], by rw [e], by rw [e]; simp, fun q y h6 h7 h8 => ⟨(hne q ?_).trans h6, hby q⟩, fun y hy => ?_, by omega⟩⟩
  · rintro rfl
    rw [h2] at h6
    simp only [Option.some.injEq] at h6
    exact h7 h6.symm
  · have := hh y
    rw [if_neg (fun e => hy e.symm)] at this
    exact this
/-! ### How many buffers -/
theorem need_at {s f n : Nat} (hs : 0 < s) (hf : f < s) (hz : n = 0 → f = 0) (h : (f + n) / s ≠ need s f n) : 0 < n ∧ (f + n) / s < need s f n ∧ need s f (n + 1) = need s f n := by
  unfold need at h ⊢
  by_cases hn : n = 0
  · subst hn
    rw [if_pos rfl, hz rfl] at h
    simp at h
  · rw [if_neg hn] at h
    rw [if_neg hn, if_neg (by omega), show f + (n + 1) - 1 = f + n by omega]
    have h1 : (f + n - 1) / s ≤ (f + n) / s := Nat.div_le_div_right (by omega)
    have h2 : (f + n) / s ≤ (f + n - 1) / s + 1 := by
      have : (f + n - 1 + s) / s = (f + n - 1) / s + 1 := Nat.add_div_right _ hs
      rw [← this]
      exact Nat.div_le_div_right (by omega)
    omega
theorem need_new {s f n : Nat} (hs : 0 < s) (_hf : f < s) (hz : n = 0 → f = 0) (h : (f + n) / s = need s f n) : need s f (n + 1) = need s f n + 1 ∧ (n = 0 ∨ (f + n) % s = 0) := by
  unfold need at h ⊢
  by_cases hn : n = 0
  · subst hn
    rw [if_pos rfl] at h
    rw [if_pos rfl, if_neg (by omega), show f + (0 + 1) - 1 = f + 0 by omega, h]
    simp
  · rw [if_neg hn] at h
    rw [if_neg hn, if_neg (by omega), show f + (n + 1) - 1 = f + n by omega, h]
    refine ⟨rfl, .inr ?_⟩
    have e1 := Nat.div_add_mod (f + n) s
    have e2 := Nat.div_add_mod (f + n - 1) s
    have e3 : (f + n - 1) % s < s := Nat.mod_lt _ hs
    rw [h, Nat.mul_add, Nat.mul_one] at e1
    omega
theorem need_iff {s f n : Nat} (hs : 0 < s) (hf : f < s) (hz : n = 0 → f = 0) : (f + n) / s = need s f n ↔ (n = 0 ∨ (f + n) % s = 0) := by
  constructor
  · exact fun h => (need_new hs hf hz h).2
  · rintro (h | h)
    · subst h
      rw [hz rfl]
      simp [need]
    · rcases Decidable.em ((f + n) / s = need s f n) with h1 | h1
      · exact h1
      · obtain ⟨h2, h3, h4⟩ := need_at hs hf hz h1
        unfold need at h3
        rw [if_neg (by omega)] at h3
        have e1 := Nat.div_add_mod (f + n) s
        have e2 := Nat.div_add_mod (f + n - 1) s
        have h5 : (f + n) / s ≤ (f + n - 1) / s := by omega
        have h6 : s * ((f + n) / s) ≤ s * ((f + n - 1) / s) := Nat.mul_le_mul_left _ h5
        omega
theorem need_lt {s f n i : Nat} (_hs : 0 < s) (hi : i < n) : (f + i) / s < need s f n := by
  unfold need
  rw [if_neg (by omega)]
  have : (f + i) / s ≤ (f + n - 1) / s := Nat.div_le_div_right (by omega)
  omega
/-! ### Pushing a byte -/
/-- The error of a push of one byte: the chain has the credit q, others hold o of the pool's n buffers. -/
def one (s f q o n : Nat) (many : Nat) : Int := if many = 0 ∨ (f + many) % s = 0 then (if q ≤ need s f many then 14 else if n ≤ need s f many + o then 13 else 0) else 0
theorem free_used {own : List Int} : free1 own = none ↔ used own = own.length := by
  constructor
  · intro h
    unfold used
    rw [List.countP_eq_length]
    intro o ho
    have := free1_none h o ho
    simpa using this
  · intro h
    unfold used at h
    rw [List.countP_eq_length] at h
    unfold free1
    rw [List.findIdx?_eq_none_iff]
    intro o ho
    have := h o ho
    simp only [decide_eq_true_eq] at this
    simp
    omega
theorem one_tak {m : Md} {l : List Nat} {c : Cn} (h : Ok m l c) {q o : Nat} (hq : crd m.acc c.acc = some (q : Int)) (ho : used m.own = l.length + o) :
    takE m c.acc = if q ≤ need m.size c.frm c.all.length then 14 else if m.own.length ≤ need m.size c.frm c.all.length + o then 13 else 0 := by
  unfold takE
  rw [hq]
  simp only
  rw [h.hd, ← h.ln]
  by_cases h1 : q ≤ l.length
  · rw [if_pos (by omega), if_pos h1]
  · rw [if_neg (by omega), if_neg h1]
    have hul := used_le m.own
    by_cases h2 : m.own.length ≤ l.length + o
    · rw [if_pos (free_used.2 (by omega)), if_pos h2]
    · rw [if_neg (fun e => by have := free_used.1 e; omega), if_neg h2]
theorem byte_snoc {m : Md} {l' : List Nat} {c : Cn} {x : UInt8} {m' : Md} (hz : m'.size = m.size) (h1 : ∀ i (hi : i < c.all.length), ∃ b, l'[(c.frm + i) / m.size]? = some b ∧ byt m' b ((c.frm + i) % m.size) = c.all[i])
    {b : Nat} (h2 : l'[(c.frm + c.all.length) / m.size]? = some b) (h3 : byt m' b ((c.frm + c.all.length) % m.size) = x) :
    ∀ i (hi : i < (c.all ++ [x]).length), ∃ b, l'[(c.frm + i) / m'.size]? = some b ∧ byt m' b ((c.frm + i) % m'.size) = (c.all ++ [x])[i] := by
  intro i hi
  rw [hz]
  by_cases h : i < c.all.length
  · obtain ⟨b, e1, e2⟩ := h1 i h
    exact ⟨b, e1, by rw [e2, List.getElem_append_left h]⟩
  · have e : i = c.all.length := by simp at hi; omega
    subst e
    exact ⟨b, h2, by rw [h3]; simp⟩
theorem at_ne {s f i j : Nat} (h : i ≠ j) : ¬ ((f + i) / s = (f + j) / s ∧ (f + i) % s = (f + j) % s) := by
  rintro ⟨h1, h2⟩
  have e1 := Nat.div_add_mod (f + i) s
  have e2 := Nat.div_add_mod (f + j) s
  rw [h1, h2] at e1
  omega
theorem nd_at {l : List Nat} (h : l.Nodup) {i j b : Nat} (h1 : l[i]? = some b) (h2 : l[j]? = some b) : i = j := by
  obtain ⟨a1, e1⟩ := List.getElem?_eq_some_iff.1 h1
  obtain ⟨a2, e2⟩ := List.getElem?_eq_some_iff.1 h2
  have hpw := List.pairwise_iff_getElem.1 h
  rcases Nat.lt_trichotomy i j with h7 | h7 | h7
  · exact absurd (e1.trans e2.symm) (hpw i j a1 a2 h7)
  · exact h7
  · exact absurd (e2.trans e1.symm) (hpw j i a2 a1 h7)
/-- A byte behind, in the buffer at hand. -/
theorem Ok.behind {m : Md} {l : List Nat} {c : Cn} (hp : Po.Ok m) (h : Ok m l c) (x : UInt8) {b : Nat} (hne : (c.frm + c.all.length) / m.size ≠ l.length) (hb : l[(c.frm + c.all.length) / m.size]? = some b) :
    Ok (put m c.acc b ((c.frm + c.all.length) % m.size : Nat) x) l { c with all := c.all ++ [x], came := c.came + 1 } ∧ Only c.acc m (put m c.acc b ((c.frm + c.all.length) % m.size : Nat) x) := by
  have hs : 0 < m.size := by have := hp.s1; omega
  have hlt := Nat.mod_lt (c.frm + c.all.length) hs
  have how := h.ow b (List.mem_of_getElem? hb)
  have hbl : b < m.own.length := (List.getElem?_eq_some_iff.1 how).1
  have hon := put_only hp x h.op how hlt
  have hpl := plc_zero h.op how hlt
  obtain ⟨e1, e2, e3⟩ := put_own m c.acc b ((c.frm + c.all.length) % m.size : Nat) x
  have hzn : c.all.length = 0 → c.frm = 0 := fun e => h.z (List.length_eq_zero_iff.1 e)
  rw [h.ln] at hne
  obtain ⟨n1, n2, n3⟩ := need_at hs h.fs hzn hne
  refine ⟨⟨by rw [e2]; exact h.op, by rw [e1]; exact h.hd, fun q hq => by rw [e1]; exact h.ow q hq, h.nd, by rw [e3]; exact h.fs, by rw [e3, h.ln]; simp only [List.length_append, List.length_cons, List.length_nil]; exact n3.symm, fun e => by simp at e, by have := h.cw; simp only [List.length_append, List.length_cons, List.length_nil]; omega, ?_⟩, hon⟩
  refine byte_snoc e3 (fun i hi => ?_) hb ?_
  · obtain ⟨b', h1, h2⟩ := h.byte i hi
    refine ⟨b', h1, ?_⟩
    rw [byt_put hp x hpl hbl hlt, if_neg]
    · exact h2
    · rintro ⟨rfl, h4⟩
      exact at_ne (s := m.size) (f := c.frm) (Nat.ne_of_lt hi) ⟨nd_at h.nd h1 hb, h4⟩
  · rw [byt_put hp x hpl hbl hlt, if_pos ⟨rfl, rfl⟩]
/-- A byte behind, in a new buffer. -/
theorem Ok.fresh {m : Md} {l : List Nat} {c : Cn} (hp : Po.Ok m) (h : Ok m l c) (x : UInt8) (he : (c.frm + c.all.length) / m.size = l.length) (ht : takE m c.acc = 0) :
    Ok (put (tak m c.acc) c.acc (takI m c.acc) ((c.frm + c.all.length) % m.size : Nat) x) (l ++ [takI m c.acc]) { c with all := c.all ++ [x], came := c.came + 1 } ∧ Only c.acc m (put (tak m c.acc) c.acc (takI m c.acc) ((c.frm + c.all.length) % m.size : Nat) x) ∧
    plcE (tak m c.acc) c.acc (takI m c.acc) ((c.frm + c.all.length) % m.size : Nat) = 0 := by
  have hs : 0 < m.size := by have := hp.s1; omega
  have hlt := Nat.mod_lt (c.frm + c.all.length) hs
  have h0 := h.acc0 hp
  obtain ⟨i, hi, hil, how, hne, hno, hhd, hon⟩ := tak_only h0 ht
  rw [hi]
  have hp' := tak_ok hp c.acc
  have hop : (crd (tak m c.acc).acc c.acc).isSome = true := by rw [hon.acc]; exact h.op
  have hlt' : (c.frm + c.all.length) % m.size < (tak m c.acc).size := by rw [hon.size]; exact hlt
  have hpl := plc_zero hop how hlt'
  have hil' : i < (tak m c.acc).own.length := by rw [hon.len]; exact hil
  obtain ⟨e1, e2, e3⟩ := put_own (tak m c.acc) c.acc i ((c.frm + c.all.length) % m.size : Nat) x
  have hzn : c.all.length = 0 → c.frm = 0 := fun e => h.z (List.length_eq_zero_iff.1 e)
  rw [h.ln] at he
  obtain ⟨n1, _⟩ := need_new hs h.fs hzn he
  have hil2 : i ∉ l := fun hm => hno _ h0 (h.ow i hm)
  refine ⟨⟨by rw [e2]; exact hop, by rw [e1, hhd, h.hd]; simp, fun q hq => ?_, ?_, by rw [e3, hon.size]; exact h.fs, by rw [e3, hon.size]; simp only [List.length_append, List.length_cons, List.length_nil]; rw [h.ln]; exact n1.symm, fun e => by simp at e, by have := h.cw; simp only [List.length_append, List.length_cons, List.length_nil]; omega, ?_⟩, hon.trans (put_only hp' x hop how hlt'), hpl⟩
  · rw [e1]
    rcases List.mem_append.1 hq with h5 | h5
    · rw [(hne q (by rintro rfl; exact hil2 h5)).1]; exact h.ow q h5
    · simp only [List.mem_singleton] at h5
      subst h5
      exact how
  · rw [List.nodup_append]
    refine ⟨h.nd, by simp, fun a ha b hb e => ?_⟩
    simp only [List.mem_singleton] at hb
    subst hb e
    exact hil2 ha
  · refine byte_snoc (m := m) (e3.trans hon.size) (fun j hj => ?_) (b := i) ?_ ?_
    · obtain ⟨b', h1, h2⟩ := h.byte j hj
      have hb' : b' ≠ i := by rintro rfl; exact hil2 (List.mem_of_getElem? h1)
      refine ⟨b', by rw [List.getElem?_append_left (List.getElem?_eq_some_iff.1 h1).1]; exact h1, ?_⟩
      rw [byt_put hp' x hpl hil' hlt', if_neg (by simp [hb']), (hne b' hb').2]
      exact h2
    · rw [he, ← h.ln, List.getElem?_append_right (Nat.le_refl _)]
      simp
    · rw [byt_put hp' x hpl hil' hlt', if_pos ⟨rfl, rfl⟩]
end Ch
end Go.Proofs.YtpjimmdpcpcmoaaDoor
