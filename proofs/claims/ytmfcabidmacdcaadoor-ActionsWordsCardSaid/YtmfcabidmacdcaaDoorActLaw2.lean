/- dofferlaw12: ActionsWords. Condition: the sentinels read as laid. -/
import Derived.Test.YtmfcabidmacdcaaDoorActLaw0
import Derived.Deep.RegionHeld3
namespace Go.Proofs.YtmfcabidmacdcaaDoor
open Go Go.RowKit Kt Sp
namespace Ac
variable {w W W' : World} {A : Nat → Addr}
/-- A guarded Go call in a region that draws. -/
theorem step_callG {P : Program} {w : World} {ops : Array Oper} {o : Oper} {a : Act} {K : Act → World → Prop} {Q : Exit → Act → World → Prop} {E : Prop} {f : FuncId} {fn : Func} {xs : Array Operand} {ts : Array TypeId} {args : Array Value} {R : Ending → World → Prop}
    (hc : Calls P f args w R) (hf : P.funcs[f]? = some fn) (hb : fn.body.isNone = false) (hnm : (fn.name == "runtime.NumGoroutine") = false)
    (hw : Region.wanted o (yielded ops a.tmps) = true) (ho : o.op = .call { callee := .value (.func f), args := xs, argTypes := ts }) (hx0 : xs.toList.map a.eval = args.toList)
    (h : ∀ e w', R e w' → ∃ v, e = .returned v ∧ K (a.put o.dst v) w') : if Region.wanted o (yielded ops a.tmps) = true then Oper.wp P o a w K Q else E := by
  rw [if_pos hw]
  have hx : xs.map a.eval = args := by
    apply Array.toList_inj.1
    simpa using hx0
  have hnm' : fn.name ≠ "runtime.NumGoroutine" := by simpa using hnm
  have hrun : (callFunc f args).run P w = .ok (.enter f args) w := by
    have h2 : ¬ fn.body = none := by
      intro h
      rw [h] at hb
      cases hb
    simp [callFunc, hf, hnm', h2]
  unfold Oper.wp
  simp only [execOp, ho, resolve, hx]
  simp [Act.eval, Deferred.ofValue, invoke, hrun]
  refine hc.mono fun e w' hR => ?_
  obtain ⟨v, rfl, hK⟩ := h e w' hR
  exact hK

theorem eva_ne (A : Nat → Addr) {g : Nat} (h : g ≠ 0) : ∃ a, eva A g = .iface 254 (.pointer (some a)) := by
  unfold eva
  rw [if_neg h]
  split
  · exact ⟨_, rfl⟩
  · split
    · exact ⟨_, rfl⟩
    · split
      · exact ⟨_, rfl⟩
      · exact ⟨_, rfl⟩
/-- A parse that answers a fault. -/
theorem parse_no (s : List UInt8) (hl : s.length ≤ 1000000) (h : (act (words s)).2.2 ≠ 0) : ∃ (x y : ByteArray) (k : Int) (a : Addr), ∀ w, Sent 254 w A acs → Calls Tryd.prog 29 #[.string (Str s)] w fun e w' => e = .returned (.tuple #[.agg #[.string x, .string y], .int .i64 k, .iface 254 (.pointer (some a))]) ∧ Below w.heap.size w w' := by
  obtain ⟨a, ha⟩ := eva_ne A h
  refine ⟨Str (act (words s)).1.1, Str (act (words s)).1.2, ((act (words s)).2.1 : Int), a, fun w hs => ?_⟩
  have := parse_c s hl w hs
  unfold paP at this
  rw [ha] at this
  exact this
set_option maxHeartbeats 4000000 in
set_option maxRecDepth 100000 in
/-- The action is not right, or a text is too long. -/
theorem words_no (e b m : List UInt8) (w : World) (hs : Sent 254 w A acs) (h : ¬ (e.length ≤ 100 ∧ b.length ≤ 100 ∧ m.length ≤ 100) ∨ (may e && may b) = false) :
    Calls Tryd.prog 6 #[.agg #[.string (Str e), .string (Str b)], .string (Str m)] w fun r w' => r = .returned (.bool true) ∧ Below w.heap.size w w' := by
  have hz1 := Str_size e
  have hz2 := Str_size b
  have hz3 := Str_size m
  have b1 := (Below.refl w.heap.size w).alloc (Nat.le_refl _) (.cells #[.string (Str e), .string (Str b)] 48)
  have s1 := heap_alloc_new w (.cells #[.string (Str e), .string (Str b)] 48)
  obtain ⟨W1, hW1⟩ : ∃ W1, (w.alloc (.cells #[.string (Str e), .string (Str b)] 48)) = W1 := ⟨_, rfl⟩
  rw [hW1] at b1 s1
  have HW1 := Lib.hid hW1
  have HAl := Lib.hid (alive_c W1 (hs.keep b1) (A := A))
  have HB1 := Lib.hid b1
  have HS := Lib.hid hs
  have hcell : ∀ W', Below W1.heap.size W1 W' → W'.cell? ⟨w.heap.size, 0, none⟩ = some (.string (Str e)) ∧ W'.cell? ⟨w.heap.size, 1, none⟩ = some (.string (Str b)) := fun W' hb => by
    have h2 := (hb.block _ (block_lt s1)).trans s1
    exact ⟨cell_block h2 0, cell_block h2 1⟩
  have HC := Lib.hid hcell
  by_cases hl : e.length ≤ 100 ∧ b.length ≤ 100 ∧ m.length ≤ 100
  · have hm : (may e && may b) = false := by
      rcases h with h | h
      · exact absurd hl h
      · exact h
    obtain ⟨hl1, hl2, hl3⟩ := hl
    have d1 : (Str e).size ≤ 100 := by omega
    have d2 : (Str b).size ≤ 100 := by omega
    have d3 : (Str m).size ≤ 100 := by omega
    have ht := fun w (hs : Sent 254 w A acs) => text_any e b (by omega) (by omega) w hs
    have hr := fun w => right_c e b (by omega) (by omega) w
    unfold teP at ht
    rw [hm] at ht hr
    simp only [Bool.false_eq_true, if_false, show eva A 5 = .iface 254 (.pointer (some (A 4))) from rfl] at ht
    generalize Str [] = J at *
    generalize Str e = SE at *
    generalize Str b = SB at *
    generalize Str m = SM at *
    have HT := Lib.hid ht
    have HR := Lib.hid hr
    clear hW1 b1 s1 hs hcell ht hr hm hz1 hz2 hz3 hl1 hl2 hl3 h
    go_enter Tryd.func6, Tryd.ntmps6
    go_wp2_with fail
    rw [HW1.out]
    refine HAl.out.mono ?_
    rintro r w2 ⟨rfl, hb2⟩
    obtain ⟨k0, k1⟩ := HC.out _ hb2
    have HB2 := Lib.hid hb2
    clear hb2
    go_wp2_with fail
    refine (HT.out _ (HS.out.keep (HB1.out.trans (HB2.out.mono HB1.out.size)))).mono ?_
    rintro r w4 ⟨rfl, hb4⟩
    have HB4 := Lib.hid (HB2.out.trans (hb4.mono HB2.out.size))
    clear hb4 k0 k1
    obtain ⟨k0, k1⟩ := HC.out _ HB4.out
    go_wp2_with (go_at_call 28; (with_reducible refine (HR.out _).mono ?_); rintro r w5 ⟨rfl, hb5⟩)
    go_ret
    exact ⟨by first | rfl | simp, HB1.out.trans ((HB4.out.trans (hb5.mono HB4.out.size)).mono HB1.out.size)⟩
  · have hd : 100 < ((Str e).size : Int) ∨ 100 < ((Str b).size : Int) ∨ 100 < ((Str m).size : Int) := by omega
    generalize Str e = SE at *
    generalize Str b = SB at *
    generalize Str m = SM at *
    clear hW1 b1 s1 hs hcell hz1 hz2 hz3 hl h
    by_cases h1 : 100 < (SE.size : Int)
    · clear hd
      go_enter Tryd.func6, Tryd.ntmps6
      go_wp2_with fail
      rw [HW1.out]
      refine HAl.out.mono ?_
      rintro r w2 ⟨rfl, hb2⟩
      obtain ⟨k0, k1⟩ := HC.out _ hb2
      go_wp2
      go_ret
      exact ⟨rfl, HB1.out.trans (hb2.mono HB1.out.size)⟩
    · by_cases h2 : 100 < (SB.size : Int)
      · clear hd
        go_enter Tryd.func6, Tryd.ntmps6
        go_wp2_with fail
        rw [HW1.out]
        refine HAl.out.mono ?_
        rintro r w2 ⟨rfl, hb2⟩
        obtain ⟨k0, k1⟩ := HC.out _ hb2
        go_wp2
        go_ret
        exact ⟨rfl, HB1.out.trans (hb2.mono HB1.out.size)⟩
      · have h3 : 100 < (SM.size : Int) := by omega
        clear hd
        go_enter Tryd.func6, Tryd.ntmps6
        go_wp2_with fail
        rw [HW1.out]
        refine HAl.out.mono ?_
        rintro r w2 ⟨rfl, hb2⟩
        obtain ⟨k0, k1⟩ := HC.out _ hb2
        go_wp2
        go_ret
        exact ⟨rfl, HB1.out.trans (hb2.mono HB1.out.size)⟩
theorem w1 {t : List (List UInt8)} (h0 : t ≠ []) (hb : ∀ v ∈ t, (32 : UInt8) ∉ v) : words (join t ++ [32]) = t ++ [[]] := by
  have := words_append (words_join h0 hb) []
  simpa [words] using this
theorem w2 {t : List (List UInt8)} (h0 : t ≠ []) (hb : ∀ v ∈ t, (32 : UInt8) ∉ v) : words ([32] ++ join t) = [] :: t := by
  show words (32 :: join t) = _
  rw [words, if_pos rfl, words_join h0 hb]
theorem w3 {t : List (List UInt8)} (h0 : t ≠ []) (hb : ∀ v ∈ t, (32 : UInt8) ∉ v) : words (join t ++ [32, 98, 101, 103, 105, 110]) = t ++ [beginW] := by
  have := words_append (words_join h0 hb) beginW
  rw [words_word (w := beginW) (by decide)] at this
  exact this
theorem w4 {t : List (List UInt8)} (h0 : t ≠ []) (hb : ∀ v ∈ t, (32 : UInt8) ∉ v) (m : List UInt8) : words ((join t ++ [32, 98, 101, 103, 105, 110, 32]) ++ m) = t ++ beginW :: words m := by
  have := words_append (words_join h0 hb) (beginW ++ 32 :: m)
  rw [words_cat (w := beginW) (by decide)] at this
  rw [← this]
  simp [beginW]
set_option maxHeartbeats 8000000 in
set_option maxRecDepth 100000 in
/-- The action is right. -/
theorem words_yes (e b m : List UInt8) (w : World) (hs : Sent 254 w A acs) (hl1 : e.length ≤ 100) (hl2 : b.length ≤ 100) (hl3 : m.length ≤ 100) (hme : may e = true) (hmb : may b = true) :
    Calls Tryd.prog 6 #[.agg #[.string (Str e), .string (Str b)], .string (Str m)] w fun r w' => r = .returned (.bool true) ∧ Below w.heap.size w w' := by
  have hz1 := Str_size e
  have hz2 := Str_size b
  have hz3 := Str_size m
  have b1 := (Below.refl w.heap.size w).alloc (Nat.le_refl _) (.cells #[.string (Str e), .string (Str b)] 48)
  have s1 := heap_alloc_new w (.cells #[.string (Str e), .string (Str b)] 48)
  obtain ⟨W1, hW1⟩ : ∃ W1, (w.alloc (.cells #[.string (Str e), .string (Str b)] 48)) = W1 := ⟨_, rfl⟩
  rw [hW1] at b1 s1
  have HW1 := Lib.hid hW1
  have HAl := Lib.hid (alive_c W1 (hs.keep b1) (A := A))
  have HB1 := Lib.hid b1
  have HS := Lib.hid hs
  have hcell : ∀ W', Below W1.heap.size W1 W' → W'.cell? ⟨w.heap.size, 0, none⟩ = some (.string (Str e)) ∧ W'.cell? ⟨w.heap.size, 1, none⟩ = some (.string (Str b)) := fun W' hb => by
    have h2 := (hb.block _ (block_lt s1)).trans s1
    exact ⟨cell_block h2 0, cell_block h2 1⟩
  have HC := Lib.hid hcell
  have d1 : (Str e).size ≤ 100 := by omega
  have d2 : (Str b).size ≤ 100 := by omega
  have d3 : (Str m).size ≤ 100 := by omega
  have hm : (may e && may b) = true := by rw [hme, hmb]; rfl
  have ht := fun w (hs : Sent 254 w A acs) => text_any e b (by omega) (by omega) w hs
  unfold teP at ht
  rw [hm] at ht
  simp only [if_true] at ht
  have hj := (join_len2 (e := e) (b := b) (by omega) (by omega)).2
  have hne := txt_ne e b
  have hnb := txt_noblank hme hmb
  obtain ⟨m1, m2, m3⟩ := act_more hme hmb
  have x1 := w1 hne hnb
  have x2 := w2 hne hnb
  have x3 := w3 hne hnb
  have x4 := w4 hne hnb m
  have a1 : ∀ w, (Op.stringOp .add (Str (join (txt e b))) ⟨#[32]⟩).run Tryd.prog w = .ok (.string (Str (join (txt e b) ++ [32]))) w := fun w => add_run w (join (txt e b)) [32] (by simp; omega)
  have a2 : ∀ w, (Op.stringOp .add ⟨#[32]⟩ (Str (join (txt e b)))).run Tryd.prog w = .ok (.string (Str ([32] ++ join (txt e b)))) w := fun w => add_run w [32] (join (txt e b)) (by simp; omega)
  have a3 : ∀ w, (Op.stringOp .add (Str (join (txt e b))) ⟨#[32, 98, 101, 103, 105, 110]⟩).run Tryd.prog w = .ok (.string (Str (join (txt e b) ++ [32, 98, 101, 103, 105, 110]))) w := fun w => add_run w (join (txt e b)) [32, 98, 101, 103, 105, 110] (by simp; omega)
  have a4 : ∀ w, (Op.stringOp .add (Str (join (txt e b))) ⟨#[32, 98, 101, 103, 105, 110, 32]⟩).run Tryd.prog w = .ok (.string (Str (join (txt e b) ++ [32, 98, 101, 103, 105, 110, 32]))) w := fun w => add_run w (join (txt e b)) [32, 98, 101, 103, 105, 110, 32] (by simp; omega)
  have a5 : ∀ w, (Op.stringOp .add (Str (join (txt e b) ++ [32, 98, 101, 103, 105, 110, 32])) (Str m)).run Tryd.prog w = .ok (.string (Str ((join (txt e b) ++ [32, 98, 101, 103, 105, 110, 32]) ++ m))) w := fun w => add_run w (join (txt e b) ++ [32, 98, 101, 103, 105, 110, 32]) m (by simp; omega)
  obtain ⟨p1, q1, k1, r1, P1⟩ := parse_no (A := A) (join (txt e b) ++ [32]) (by simp; omega) (by rw [x1]; exact m1)
  obtain ⟨p2, q2, k2, r2, P2⟩ := parse_no (A := A) ([32] ++ join (txt e b)) (by simp; omega) (by rw [x2]; exact m2)
  obtain ⟨p3, q3, k3, r3, P3⟩ := parse_no (A := A) (join (txt e b) ++ [32, 98, 101, 103, 105, 110]) (by simp; omega) (by rw [x3]; exact m3)
  have P4 := fun w hs => parse_c (A := A) ((join (txt e b) ++ [32, 98, 101, 103, 105, 110, 32]) ++ m) (by simp; omega) w hs
  rw [x4] at P4
  have hb := @act_begin e b hme
  have hc := act_cond hme (words m) (words_ne m)
  have hwm := words_noblank m
  -- what the last parse answers
  have h4 : (b ≠ [] → (act (txt e b ++ beginW :: words m)).2.2 ≠ 0) ∧ (b = [] → (nm m = false → (act (txt e b ++ beginW :: words m)).2.2 ≠ 0) ∧ (nm m = true → (act (txt e b ++ beginW :: words m)).2.2 = 0 ∧ (act (txt e b ++ beginW :: words m)).1 = (e, m))) := by
    refine ⟨fun h => hb (by rcases may_cases hmb with h1 | h1; exact absurd h1 h; exact h1) _, fun h => ?_⟩
    subst h
    refine ⟨fun hn h0 => ?_, fun hn => ?_⟩
    · obtain ⟨n, h1, h2⟩ := hc.1.1 h0
      have hj := join_words m
      rw [h1] at hj
      have : n = m := hj
      subst this
      rw [hn] at h2
      cases h2
    · have hw := words_word (nm_noblank hn)
      have h0 := hc.1.2 ⟨m, hw, hn⟩
      exact ⟨h0, hc.2 h0 m hw⟩
  clear hc hb hwm x1 x2 x3 x4 m1 m2 m3
  generalize act (txt e b ++ beginW :: words m) = X at *
  obtain ⟨⟨xe, xb⟩, at', er⟩ := X
  simp only at h4
  unfold paP at P4
  simp only at P4
  have hr : ∀ w, Calls Tryd.prog 28 #[.agg #[.string ⟨#[]⟩, .string (Str m)]] w fun r w' => r = .returned (.bool (decide (m = []) || nm m)) ∧ Below w.heap.size w w' := fun w => right_c [] m (by simp) (by omega) w
  have hmn : m = [] → nm m = false := fun h => by rw [h]; rfl
  have e1 := str_nil b
  have e2 := str_emp b
  have e3 := str_nil m
  have e4 := str_emp m
  have e5 : b = [] → (Str b).toList = [] := fun h => by rw [Str_list]; exact h
  have e6 : m = [] → (Str m).toList = [] := fun h => by rw [Str_list]; exact h
  have HH4 := Lib.hid h4
  generalize Str (join (txt e b) ++ [32, 98, 101, 103, 105, 110, 32] ++ m) = J4 at *
  generalize Str (join (txt e b) ++ [32, 98, 101, 103, 105, 110, 32]) = J5 at *
  generalize Str (join (txt e b) ++ [32, 98, 101, 103, 105, 110]) = J3 at *
  generalize Str ([32] ++ join (txt e b)) = J2 at *
  generalize Str (join (txt e b) ++ [32]) = J1 at *
  generalize Str (join (txt e b)) = J at *
  generalize hE : Str e = SE at *
  generalize Str b = SB at *
  generalize hM : Str m = SM at *
  have HE := Lib.hid hE
  have HM := Lib.hid hM
  have HT := Lib.hid ht
  have HP1 := Lib.hid P1
  have HP2 := Lib.hid P2
  have HP3 := Lib.hid P3
  have HP4 := Lib.hid P4
  have HR := Lib.hid hr
  have hST : ∀ W', Below W1.heap.size W1 W' → Sent 254 W' A acs := fun W' h => hs.keep (b1.trans (h.mono b1.size))
  have HST := Lib.hid hST
  clear hW1 b1 s1 hs hcell ht hr hm hz1 hz2 hz3 hl1 hl2 hl3 hme hmb hj hne hnb P1 P2 P3 P4 h4 hE hM hST
  go_enter Tryd.func6, Tryd.ntmps6
  go_wp2_with fail
  rw [HW1.out]
  refine HAl.out.mono ?_
  rintro r w2 ⟨rfl, hb2⟩
  obtain ⟨u0, u1⟩ := HC.out _ hb2
  have HB2 := Lib.hid hb2
  clear hb2
  go_wp2_with fail
  refine (HT.out _ (HST.out _ HB2.out)).mono ?_
  rintro r w4 ⟨rfl, hb4⟩
  have HB4 := Lib.hid (HB2.out.trans (hb4.mono HB2.out.size))
  clear hb4 u0 u1
  go_wp2_with fail
  refine (HP1.out _ (HST.out _ HB4.out)).mono ?_
  rintro r w5 ⟨rfl, hb5⟩
  have HB5 := Lib.hid ((HB4.out.trans (hb5.mono HB4.out.size)).alloc (by have := HB4.out.size; have := hb5.size; omega) (.cells #[.string p1, .string q1] 48))
  clear hb5
  go_wp2_with fail
  refine (HP2.out _ (HST.out _ HB5.out)).mono ?_
  rintro r w6 ⟨rfl, hb6⟩
  have HB6 := Lib.hid ((HB5.out.trans (hb6.mono HB5.out.size)).alloc (by have := HB5.out.size; have := hb6.size; omega) (.cells #[.string p2, .string q2] 48))
  clear hb6
  go_wp2_with fail
  refine (HP3.out _ (HST.out _ HB6.out)).mono ?_
  rintro r w7 ⟨rfl, hb7⟩
  have HB7 := Lib.hid ((HB6.out.trans (hb7.mono HB6.out.size)).alloc (by have := HB6.out.size; have := hb7.size; omega) (.cells #[.string p3, .string q3] 48))
  clear hb7
  go_wp2_with fail
  refine (HP4.out _ (HST.out _ HB7.out)).mono ?_
  rintro r w8 ⟨rfl, hb8⟩
  have hb9 := (HB7.out.trans (hb8.mono HB7.out.size)).alloc (by have := HB7.out.size; have := hb8.size; omega) (.cells #[.string (Str xe), .string (Str xb)] 48)
  have c9 := heap_alloc_new w8 (.cells #[.string (Str xe), .string (Str xb)] 48)
  obtain ⟨u0, u1⟩ := HC.out _ hb9
  have HB9 := Lib.hid hb9
  have C9 := Lib.hid c9
  clear hb8 hb9 c9
  by_cases hbn : b = []
  · simp only [hbn, decide_true] at e1 e2
    have e5 := e5 hbn
    obtain ⟨g1, g2⟩ := HH4.out.2 hbn
    clear hbn
    have hd9 : ∀ W', Below (w8.alloc (.cells #[.string (Str xe), .string (Str xb)] 48)).heap.size (w8.alloc (.cells #[.string (Str xe), .string (Str xb)] 48)) W' → (W'.cell? ⟨w.heap.size, 0, none⟩ = some (.string SE) ∧ W'.cell? ⟨w.heap.size, 1, none⟩ = some (.string SB)) ∧ W'.cell? ⟨w8.heap.size, 0, none⟩ = some (.string (Str xe)) ∧ W'.cell? ⟨w8.heap.size, 1, none⟩ = some (.string (Str xb)) := fun W' hb => by
      have h2 := (hb.block _ (block_lt C9.out)).trans C9.out
      exact ⟨HC.out _ (HB9.out.trans (hb.mono HB9.out.size)), cell_block h2 0, cell_block h2 1⟩
    have SK := Lib.hid hd9
    have y0 := (Below.refl (w8.alloc (.cells #[.string (Str xe), .string (Str xb)] 48)).heap.size (w8.alloc (.cells #[.string (Str xe), .string (Str xb)] 48))).drew
    clear hd9
    by_cases hmm : m = []
    · simp only [hmm, decide_true] at e3 e4
      have e6 := e6 hmm
      obtain ⟨a, ha⟩ := eva_ne A (g1 (hmn hmm))
      rw [ha]
      clear hmm hmn g1 g2 ha
      obtain ⟨⟨z0, z1⟩, z2, z3⟩ := SK.out _ (Below.refl _ _)
      go_wp2_with fail
      go_quiet (fail)
      go_wp2
      go_ret
      exact ⟨by first | rfl | simp, HB1.out.trans ((below_drewN HB9.out _).mono HB1.out.size)⟩
    · simp only [hmm, decide_false, Bool.false_or] at e3 e4
      rw [show (decide (m = []) || nm m) = nm m by simp [hmm]] at HR
      have fin : ∀ W', Below (w8.alloc (.cells #[.string (Str xe), .string (Str xb)] 48)).heap.size (w8.alloc (.cells #[.string (Str xe), .string (Str xb)] 48)) W' → Below w.heap.size w W' := fun W' h => HB1.out.trans ((HB9.out.trans (h.mono HB9.out.size)).mono HB1.out.size)
      have HF := Lib.hid fin
      clear fin e6 hmn hmm
      obtain ⟨⟨z0, z1⟩, z2, z3⟩ := SK.out _ (Below.refl _ _)
      cases hn : nm m with
      | false =>
        obtain ⟨a, ha⟩ := eva_ne A (g1 hn)
        rw [hn] at HR
        rw [ha]
        clear g1 g2 ha hn
        go_wp2_with fail
        refine wp_region_noPanic ?_
        refine wp_region_held_drew (S := fun W => (W.cell? ⟨w.heap.size, 0, none⟩ = some (.string SE) ∧ W.cell? ⟨w.heap.size, 1, none⟩ = some (.string SB)) ∧ W.cell? ⟨w8.heap.size, 0, none⟩ = some (.string (Str xe)) ∧ W.cell? ⟨w8.heap.size, 1, none⟩ = some (.string (Str xb))) (by kernel_rfl) (SK.out _ y0) (fun hHeld => ?_)
        (refine wpAnyH_take (i := 0) (v := ?v0) (by simp only [List.getElem?_toArray, List.getElem?_cons_succ, List.getElem?_cons_zero]; rfl) (by kernel_rfl) (by kernel_rfl) (by kernel_rfl) (fun _ _ _ h => False.elim h) (Or.inl ⟨by rfl, ?hy0⟩) (by assumption) ?rest0; (case hy0 => (intro w hSw; (try dsimp only at hSw); go_simp; (try with_reducible rfl))); (try simp only [Act.put, List.setIfInBounds_toArray, List.set_cons_zero, List.set_cons_succ]))
        (refine wpAnyH_take (i := 1) (v := ?v1) (by simp only [List.getElem?_toArray, List.getElem?_cons_succ, List.getElem?_cons_zero]; rfl) (by kernel_rfl) (by kernel_rfl) (by kernel_rfl) (fun _ _ _ h => False.elim h) (Or.inl ⟨by rfl, ?hy1⟩) (by assumption) ?rest1; (case hy1 => (intro w hSw; (try dsimp only at hSw); go_simp; (try with_reducible rfl))); (try simp only [Act.put, List.setIfInBounds_toArray, List.set_cons_zero, List.set_cons_succ]))
        (refine wpAnyH_take (i := 2) (v := ?v2) (by simp only [List.getElem?_toArray, List.getElem?_cons_succ, List.getElem?_cons_zero]; rfl) (by kernel_rfl) (by kernel_rfl) (by kernel_rfl) (fun _ _ _ h => False.elim h) (Or.inl ⟨by rfl, ?hy2⟩) (by assumption) ?rest2; (case hy2 => (intro w hSw; (try dsimp only at hSw); go_simp; (try with_reducible rfl))); (try simp only [Act.put, List.setIfInBounds_toArray, List.set_cons_zero, List.set_cons_succ]))
        (refine wpAnyH_take (i := 3) (v := ?v3) (by simp only [List.getElem?_toArray, List.getElem?_cons_succ, List.getElem?_cons_zero]; rfl) (by kernel_rfl) (by kernel_rfl) (by kernel_rfl) (fun _ _ _ h => False.elim h) (Or.inl ⟨by rfl, ?hy3⟩) (by assumption) ?rest3; (case hy3 => (intro w hSw; (try dsimp only at hSw); go_simp; (try with_reducible rfl))); (try simp only [Act.put, List.setIfInBounds_toArray, List.set_cons_zero, List.set_cons_succ]))
        (refine wpAnyH_take (i := 4) (v := ?v4) (by simp only [List.getElem?_toArray, List.getElem?_cons_succ, List.getElem?_cons_zero]; rfl) (by kernel_rfl) (by kernel_rfl) (by kernel_rfl) (fun _ _ _ h => False.elim h) (Or.inl ⟨by rfl, ?hy4⟩) (by assumption) ?rest4; (case hy4 => (intro w hSw; (try dsimp only at hSw); go_simp; (try with_reducible rfl))); (try simp only [Act.put, List.setIfInBounds_toArray, List.set_cons_zero, List.set_cons_succ]))
        (refine wpAnyH_take (i := 5) (v := ?v5) (by simp only [List.getElem?_toArray, List.getElem?_cons_succ, List.getElem?_cons_zero]; rfl) (by kernel_rfl) (by kernel_rfl) (by kernel_rfl) (fun _ _ _ h => False.elim h) (Or.inl ⟨by rfl, ?hy5⟩) (by assumption) ?rest5; (case hy5 => (intro w hSw; (try dsimp only at hSw); go_simp; (try with_reducible rfl))); (try simp only [Act.put, List.setIfInBounds_toArray, List.set_cons_zero, List.set_cons_succ]))
        (refine wpAnyH_take (i := 6) (v := ?v6) (by simp only [List.getElem?_toArray, List.getElem?_cons_succ, List.getElem?_cons_zero]; rfl) (by kernel_rfl) (by kernel_rfl) (by kernel_rfl) (fun _ _ _ h => False.elim h) (Or.inl ⟨by rfl, ?hy6⟩) (by assumption) ?rest6; (case hy6 => (intro w hSw; (try dsimp only at hSw); go_simp; (try with_reducible rfl))); (try simp only [Act.put, List.setIfInBounds_toArray, List.set_cons_zero, List.set_cons_succ]))
        (refine wpAnyH_ready (rs := [7]) (by kernel_rfl) (by simp) ?_; refine AllReadyH.cons (o := _) (by simp only [List.getElem?_toArray, List.getElem?_cons_succ, List.getElem?_cons_zero]; rfl) (fun K hK => ?_) AllReadyH.nil; go_simp; ((with_reducible refine (HR.out _).mono ?_); rintro r w10 ⟨rfl, hb10⟩; have y1 := y0.trans (hb10.mono y0.size)); refine hK.out _ _ (by exact SK.out _ y1) (fun hHeld => ?_); clear hK K; (try simp only [Act.put, List.setIfInBounds_toArray, List.set_cons_zero, List.set_cons_succ]))
        (refine wpAnyH_take (i := 8) (v := ?v8) (by simp only [List.getElem?_toArray, List.getElem?_cons_succ, List.getElem?_cons_zero]; rfl) (by kernel_rfl) (by kernel_rfl) (by kernel_rfl) (fun _ _ _ h => False.elim h) (Or.inl ⟨by rfl, ?hy8⟩) (by assumption) ?rest8; (case hy8 => (intro w hSw; (try dsimp only at hSw); go_simp; (try with_reducible rfl))); (try simp only [Act.put, List.setIfInBounds_toArray, List.set_cons_zero, List.set_cons_succ]))
        (refine wpAnyH_take (i := 9) (v := ?v9) (by simp only [List.getElem?_toArray, List.getElem?_cons_succ, List.getElem?_cons_zero]; rfl) (by kernel_rfl) (by kernel_rfl) (by kernel_rfl) (fun _ _ _ h => False.elim h) (Or.inl ⟨by rfl, ?hy9⟩) (by assumption) ?rest9; (case hy9 => (intro w hSw; (try dsimp only at hSw); go_simp; (try with_reducible rfl))); (try simp only [Act.put, List.setIfInBounds_toArray, List.set_cons_zero, List.set_cons_succ]))
        (refine wpAnyH_take (i := 10) (v := ?v10) (by simp only [List.getElem?_toArray, List.getElem?_cons_succ, List.getElem?_cons_zero]; rfl) (by kernel_rfl) (by kernel_rfl) (by kernel_rfl) (fun _ _ _ h => False.elim h) (Or.inl ⟨by rfl, ?hy10⟩) (by assumption) ?rest10; (case hy10 => (intro w hSw; (try dsimp only at hSw); go_simp; (try with_reducible rfl))); (try simp only [Act.put, List.setIfInBounds_toArray, List.set_cons_zero, List.set_cons_succ]))
        (refine wpAnyH_take (i := 11) (v := ?v11) (by simp only [List.getElem?_toArray, List.getElem?_cons_succ, List.getElem?_cons_zero]; rfl) (by kernel_rfl) (by kernel_rfl) (by kernel_rfl) (fun _ _ _ h => False.elim h) (Or.inl ⟨by rfl, ?hy11⟩) (by assumption) ?rest11; (case hy11 => (intro w hSw; (try dsimp only at hSw); go_simp; (try with_reducible rfl))); (try simp only [Act.put, List.setIfInBounds_toArray, List.set_cons_zero, List.set_cons_succ]))
        (refine wpAnyH_take (i := 12) (v := ?v12) (by simp only [List.getElem?_toArray, List.getElem?_cons_succ, List.getElem?_cons_zero]; rfl) (by kernel_rfl) (by kernel_rfl) (by kernel_rfl) (fun _ _ _ h => False.elim h) (Or.inl ⟨by rfl, ?hy12⟩) (by assumption) ?rest12; (case hy12 => (intro w hSw; (try dsimp only at hSw); go_simp; (try with_reducible rfl))); (try simp only [Act.put, List.setIfInBounds_toArray, List.set_cons_zero, List.set_cons_succ]))
        (refine wpAnyH_take (i := 13) (v := ?v13) (by simp only [List.getElem?_toArray, List.getElem?_cons_succ, List.getElem?_cons_zero]; rfl) (by kernel_rfl) (by kernel_rfl) (by kernel_rfl) (fun _ _ _ h => False.elim h) (Or.inl ⟨by rfl, ?hy13⟩) (by assumption) ?rest13; (case hy13 => (intro w hSw; (try dsimp only at hSw); go_simp; (try with_reducible rfl))); (try simp only [Act.put, List.setIfInBounds_toArray, List.set_cons_zero, List.set_cons_succ]))
        (refine wpAnyH_take (i := 14) (v := undef) (by simp only [List.getElem?_toArray, List.getElem?_cons_succ, List.getElem?_cons_zero]; rfl) (by kernel_rfl) (by kernel_rfl) (by kernel_rfl) (fun _ _ _ h => False.elim h) (Or.inr ⟨by rfl, rfl⟩) (by assumption) ?rest14; (try simp only [Act.put, List.setIfInBounds_toArray, List.set_cons_zero, List.set_cons_succ]))
        (refine wpAnyH_take (i := 15) (v := undef) (by simp only [List.getElem?_toArray, List.getElem?_cons_succ, List.getElem?_cons_zero]; rfl) (by kernel_rfl) (by kernel_rfl) (by kernel_rfl) (fun _ _ _ h => False.elim h) (Or.inr ⟨by rfl, rfl⟩) (by assumption) ?rest15; (try simp only [Act.put, List.setIfInBounds_toArray, List.set_cons_zero, List.set_cons_succ]))
        (refine wpAnyH_take (i := 16) (v := undef) (by simp only [List.getElem?_toArray, List.getElem?_cons_succ, List.getElem?_cons_zero]; rfl) (by kernel_rfl) (by kernel_rfl) (by kernel_rfl) (fun _ _ _ h => False.elim h) (Or.inr ⟨by rfl, rfl⟩) (by assumption) ?rest16; (try simp only [Act.put, List.setIfInBounds_toArray, List.set_cons_zero, List.set_cons_succ]))
        (refine wpAnyH_take (i := 17) (v := undef) (by simp only [List.getElem?_toArray, List.getElem?_cons_succ, List.getElem?_cons_zero]; rfl) (by kernel_rfl) (by kernel_rfl) (by kernel_rfl) (fun _ _ _ h => False.elim h) (Or.inr ⟨by rfl, rfl⟩) (by assumption) ?rest17; (try simp only [Act.put, List.setIfInBounds_toArray, List.set_cons_zero, List.set_cons_succ]))
        (refine wpAnyH_take (i := 18) (v := undef) (by simp only [List.getElem?_toArray, List.getElem?_cons_succ, List.getElem?_cons_zero]; rfl) (by kernel_rfl) (by kernel_rfl) (by kernel_rfl) (fun _ _ _ h => False.elim h) (Or.inr ⟨by rfl, rfl⟩) (by assumption) ?rest18; (try simp only [Act.put, List.setIfInBounds_toArray, List.set_cons_zero, List.set_cons_succ]))
        (refine wpAnyH_take (i := 19) (v := undef) (by simp only [List.getElem?_toArray, List.getElem?_cons_succ, List.getElem?_cons_zero]; rfl) (by kernel_rfl) (by kernel_rfl) (by kernel_rfl) (fun _ _ _ h => False.elim h) (Or.inr ⟨by rfl, rfl⟩) (by assumption) ?rest19; (try simp only [Act.put, List.setIfInBounds_toArray, List.set_cons_zero, List.set_cons_succ]))
        (refine wpAnyH_take (i := 20) (v := undef) (by simp only [List.getElem?_toArray, List.getElem?_cons_succ, List.getElem?_cons_zero]; rfl) (by kernel_rfl) (by kernel_rfl) (by kernel_rfl) (fun _ _ _ h => False.elim h) (Or.inr ⟨by rfl, rfl⟩) (by assumption) ?rest20; (try simp only [Act.put, List.setIfInBounds_toArray, List.set_cons_zero, List.set_cons_succ]))
        (refine wpAnyH_take (i := 21) (v := undef) (by simp only [List.getElem?_toArray, List.getElem?_cons_succ, List.getElem?_cons_zero]; rfl) (by kernel_rfl) (by kernel_rfl) (by kernel_rfl) (fun _ _ _ h => False.elim h) (Or.inr ⟨by rfl, rfl⟩) (by assumption) ?rest21; (try simp only [Act.put, List.setIfInBounds_toArray, List.set_cons_zero, List.set_cons_succ]))
        (refine wpAnyH_take (i := 22) (v := undef) (by simp only [List.getElem?_toArray, List.getElem?_cons_succ, List.getElem?_cons_zero]; rfl) (by kernel_rfl) (by kernel_rfl) (by kernel_rfl) (fun _ _ _ h => False.elim h) (Or.inr ⟨by rfl, rfl⟩) (by assumption) ?rest22; (try simp only [Act.put, List.setIfInBounds_toArray, List.set_cons_zero, List.set_cons_succ]))
        (refine wpAnyH_take (i := 23) (v := undef) (by simp only [List.getElem?_toArray, List.getElem?_cons_succ, List.getElem?_cons_zero]; rfl) (by kernel_rfl) (by kernel_rfl) (by kernel_rfl) (fun _ _ _ h => False.elim h) (Or.inr ⟨by rfl, rfl⟩) (by assumption) ?rest23; (try simp only [Act.put, List.setIfInBounds_toArray, List.set_cons_zero, List.set_cons_succ]))
        (refine wpAnyH_take (i := 24) (v := undef) (by simp only [List.getElem?_toArray, List.getElem?_cons_succ, List.getElem?_cons_zero]; rfl) (by kernel_rfl) (by kernel_rfl) (by kernel_rfl) (fun _ _ _ h => False.elim h) (Or.inr ⟨by rfl, rfl⟩) (by assumption) ?rest24; (try simp only [Act.put, List.setIfInBounds_toArray, List.set_cons_zero, List.set_cons_succ]))
        (refine wpAnyH_take (i := 25) (v := ?v25) (by simp only [List.getElem?_toArray, List.getElem?_cons_succ, List.getElem?_cons_zero]; rfl) (by kernel_rfl) (by kernel_rfl) (by kernel_rfl) (fun _ _ _ h => False.elim h) (Or.inl ⟨by rfl, ?hy25⟩) (by assumption) ?rest25; (case hy25 => (intro w hSw; (try dsimp only at hSw); go_simp; (try with_reducible rfl))); (try simp only [Act.put, List.setIfInBounds_toArray, List.set_cons_zero, List.set_cons_succ]))
        (refine wpAnyH_take (i := 26) (v := ?v26) (by simp only [List.getElem?_toArray, List.getElem?_cons_succ, List.getElem?_cons_zero]; rfl) (by kernel_rfl) (by kernel_rfl) (by kernel_rfl) (fun _ _ _ h => False.elim h) (Or.inl ⟨by rfl, ?hy26⟩) (by assumption) ?rest26; (case hy26 => (intro w hSw; (try dsimp only at hSw); go_simp; (try with_reducible rfl))); (try simp only [Act.put, List.setIfInBounds_toArray, List.set_cons_zero, List.set_cons_succ]))
        (refine wpAnyH_take (i := 27) (v := ?v27) (by simp only [List.getElem?_toArray, List.getElem?_cons_succ, List.getElem?_cons_zero]; rfl) (by kernel_rfl) (by kernel_rfl) (by kernel_rfl) (fun _ _ _ h => False.elim h) (Or.inl ⟨by rfl, ?hy27⟩) (by assumption) ?rest27; (case hy27 => (intro w hSw; (try dsimp only at hSw); go_simp; (try with_reducible rfl))); (try simp only [Act.put, List.setIfInBounds_toArray, List.set_cons_zero, List.set_cons_succ]))
        refine wpAnyH_done (by kernel_rfl) ?_ _
        refine NoPanic.normal ?_
        go_wp2
        go_ret
        exact ⟨by first | rfl | simp, by first | exact HF.out _ y1 | exact HF.out _ y1.drew | exact HF.out _ (below_drewN y1 _)⟩
      | true =>
        obtain ⟨g3, g4⟩ := g2 hn
        subst g3
        simp only [Prod.mk.injEq] at g4
        obtain ⟨g5, g6⟩ := g4
        have q5 : ((Str xb).toList == SM.toList) = true := by rw [g6, HM.out]; simp
        have q6 : ((Str xe).toList == SE.toList) = true := by rw [g5, HE.out]; simp
        rw [hn] at HR
        simp only [show eva A 0 = .nilIface from rfl]
        clear g1 g2 g5 g6 hn
        go_wp2_with fail
        (first
          | (go_region_held3 (fun W => (W.cell? ⟨w.heap.size, 0, none⟩ = some (.string SE) ∧ W.cell? ⟨w.heap.size, 1, none⟩ = some (.string SB)) ∧ W.cell? ⟨w8.heap.size, 0, none⟩ = some (.string (Str xe)) ∧ W.cell? ⟨w8.heap.size, 1, none⟩ = some (.string (Str xb)))
          (first | exact SK.out _ y1 | exact SK.out _ y0)
          ((go_at_call 28; (with_reducible refine (HR.out _).mono ?_); rintro r w10 ⟨rfl, hb10⟩
            have y1 := y0.trans (hb10.mono y0.size))))
          | fail)
        go_wp2
        go_ret
        exact ⟨by first | rfl | simp, by first | exact HF.out _ y1 | exact HF.out _ y1.drew | exact HF.out _ (below_drewN y1 _)⟩
  · simp only [hbn, decide_false] at e1 e2
    obtain ⟨a, ha⟩ := eva_ne A (HH4.out.1 hbn)
    rw [ha]
    clear e5 hbn e6 hmn ha e3 e4
    go_wp2
    go_ret
    exact ⟨by first | rfl | simp, HB1.out.trans (HB9.out.mono HB1.out.size)⟩
theorem wordslaw_c (e b m : List UInt8) (w : World) (hs : Sent 254 w A acs) :
    Calls Tryd.prog 6 #[.agg #[.string (Str e), .string (Str b)], .string (Str m)] w fun r w' => r = .returned (.bool true) ∧ Below w.heap.size w w' := by
  by_cases hl : e.length ≤ 100 ∧ b.length ≤ 100 ∧ m.length ≤ 100
  · cases hm : (may e && may b) with
    | false => exact words_no e b m w hs (.inr hm)
    | true =>
      simp only [Bool.and_eq_true] at hm
      exact words_yes e b m w hs hl.1 hl.2.1 hl.2.2 hm.1 hm.2
  · exact words_no e b m w hs (.inl hl)
end Ac
end Go.Proofs.YtmfcabidmacdcaaDoor
