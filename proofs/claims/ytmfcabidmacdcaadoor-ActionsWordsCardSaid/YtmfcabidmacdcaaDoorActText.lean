/- strings.Join at a blank; actions.Text; dofferref12.Right and dofferref12.Text. Condition: the sentinels read as laid. -/
import Derived.Test.YtmfcabidmacdcaaDoorActRead
namespace Go.Proofs.YtmfcabidmacdcaaDoor
open Go Go.RowKit Go.Shelf Kt Sp
namespace Ac
variable {w W W' : World} {A : Nat → Addr}
theorem extra156 : Builder.Extra Tryd.prog lays156_ren := {
  sizeBuilder := by kernel_rfl,
  liesBuilder := by kernel_rfl,
  t5 := by kernel_rfl,
  a5 := fun _ => by kernel_rfl,
  z5 := fun _ => by kernel_rfl,
  v5 := fun _ => by kernel_rfl,
  infoByte := by kernel_rfl,
  cellsByte := by kernel_rfl,
  sizeByte := by kernel_rfl,
  neB5 := by decide }
theorem elS : El Tryd.prog 62 9 (.string ⟨#[]⟩) 1 16 := ⟨Tryd.underlying62, info_parts (by kernel_rfl), rfl, by decide⟩
theorem join_lib (ws : List (List UInt8)) : Lib.join ws [32] = join ws := by
  match ws with
  | [] => rfl
  | [x] => exact Lib.join_one x [32]
  | x :: y :: r =>
    have ih := join_lib (y :: r)
    rw [Lib.join_cons] at ih ⊢
    show x ++ Lib.joinTail [32] (y :: r) = x ++ 32 :: join (y :: r)
    rw [← ih]
    simp [Lib.joinTail]
theorem join_c {a : Addr} {c : Nat} (ws : List (List UInt8)) (hr : Rd w (some a) (ws.map Sw)) (h0 : ws ≠ []) (hc : ws.length ≤ c) (hN : ws.length ≤ 1000000) (hl : (join ws).length ≤ 1000000) :
    Calls Tryd.prog 63 #[.slice (some a) ws.length c, .string ⟨#[32]⟩] w fun e w' => e = .returned (.string (Str (join ws))) ∧ Below w.heap.size w w' := by
  obtain ⟨x, r, rfl⟩ : ∃ x r, ws = x :: r := by
    cases ws with
    | nil => exact absurd rfl h0
    | cons x r => exact ⟨x, r, rfl⟩
  obtain ⟨b, o, ha, hc0⟩ := hr 0 (Sw x) rfl
  simp only [Option.some.injEq] at ha
  subst ha
  have hmap : ((x :: r).map Str).map (fun s : ByteArray => s.data.toList) = x :: r := by
    rw [List.map_map]
    have : (fun s : ByteArray => s.data.toList) ∘ Str = id := funext fun l => Str_toList l
    rw [this, List.map_id]
  have h := Any.strings_Join lays156 extra156 b o c ((x :: r).map Str) ⟨#[32]⟩ w (fun j y hj => by
      rw [List.getElem?_map] at hj
      obtain ⟨z, hz, rfl⟩ := Option.map_eq_some_iff.1 hj
      obtain ⟨b', o', he, hc'⟩ := hr j (Sw z) (by rw [List.getElem?_map, hz]; rfl)
      simp only [Option.some.injEq, Addr.mk.injEq, and_true] at he
      obtain ⟨rfl, rfl⟩ := he
      exact hc') (lt_of_cell (p := ⟨b, o + 0, none⟩) hc0) (by simp at hN ⊢; omega) (by simpa using hc)
    (by rw [hmap, show (⟨#[32]⟩ : ByteArray).data.toList = [32] from rfl, join_lib]; omega)
  rw [hmap, show (⟨#[32]⟩ : ByteArray).data.toList = [32] from rfl, join_lib, List.length_map] at h
  exact h
theorem own_some {w : World} {base e sz n : Nat} {v : Value} {xs : List Value} (h : w.ownsRow base e sz v n xs) (h0 : 0 < n) : ∃ g cap, v = .slice (some ⟨g, 0, none⟩) n cap ∧ n ≤ cap ∧ Rd w (some ⟨g, 0, none⟩) xs := by
  obtain ⟨a, cap, rfl, h1, h2, h3, h4⟩ := rd_own h
  rcases h.2 with ⟨h5, h6⟩ | ⟨g, c, cur, h5, h6⟩
  · omega
  · simp only [Value.slice.injEq] at h5
    obtain ⟨rfl, _, rfl⟩ := h5
    exact ⟨g, _, rfl, h1, h3⟩
theorem Rd.of_block {w : World} {b e : Nat} {c : Array Value} {f : Nat × Nat} {xs : List Value} (h : w.heap[b]? = some (.cells c e f)) (hx : c.toList = xs) : Rd w (some ⟨b, 0, none⟩) xs := by
  subst hx
  intro i x hi
  refine ⟨b, 0, rfl, ?_⟩
  rw [Nat.zero_add, cell_block h i]
  simpa using hi
theorem own_block {w : World} {base b e n : Nat} {c : Array Value} {xs : List Value} (h : w.heap[b]? = some (.cells c e (0, 0))) (hb : base ≤ b) (hn : n ≤ maxLen) (hx : c.toList = xs) (hl : c.size = n) : w.ownsRow base e 1 (.slice (some ⟨b, 0, none⟩) n n) n xs := by
  subst hx
  refine ⟨by simp [hl], .inr ⟨b, n, c, rfl, hb, h, Nat.le_refl _, hn, by omega, ?_⟩⟩
  rw [List.take_of_length_le (by simp [hl])]
theorem join_len2 {e b : List UInt8} (he : e.length ≤ 1000) (hb : b.length ≤ 1000) : (txt e b).length ≤ 4 ∧ (join (txt e b)).length ≤ 2020 := by
  unfold txt
  split <;> split <;> simp [join, emitW, skipW, beginW] <;> omega
/-- What Text answers. -/
def teP (A : Nat → Addr) (w : World) (e b : List UInt8) (r : Ending) (w' : World) : Prop :=
  r = .returned (.tuple #[.string (Str (if (may e && may b) = true then join (txt e b) else [])), if (may e && may b) = true then .nilIface else eva A 5]) ∧ Below w.heap.size w w'
set_option maxHeartbeats 4000000 in
set_option maxRecDepth 100000 in
theorem text_no (e b : List UInt8) (he : e.length ≤ 1000) (hb : b.length ≤ 1000) (hm : (may e && may b) = false) (w : World) (hs : Sent 254 w A acs) : Calls Tryd.prog 27 #[.agg #[.string (Str e), .string (Str b)]] w (teP A w e b) := by
  have hr := fun w => right_c e b (by omega) (by omega) w
  rw [hm] at hr
  have b1 := (Below.refl w.heap.size w).alloc (Nat.le_refl _) (.cells #[.string (Str e), .string (Str b)] 48)
  have HR := Lib.hid hr
  have HB := Lib.hid b1
  have HS := Lib.hid hs
  have HP : ∀ W', Below w.heap.size w W' → teP A w e b (.returned (.tuple #[.string (Str []), .iface 254 (.pointer (some (A 4)))])) W' := fun W' h => by
    unfold teP
    rw [hm]
    exact ⟨rfl, h⟩
  have HP := Lib.hid HP
  clear hr b1 hs hm he hb
  go_enter Tryd.func27, Tryd.ntmps27
  go_wp2_with fail
  refine (HR.out _).mono ?_
  rintro r w2 ⟨rfl, hb2⟩
  have b2 := HB.out.trans (hb2.mono HB.out.size)
  have e4 := (HS.out.keep b2).cell 4 (by simp [acs])
  have HB2 := Lib.hid b2
  clear hb2 b2
  go_wp2_with fail
  go_quiet (fail)
  go_wp2
  go_ret2
  exact HP.out _ (below_drewN HB2.out _)
set_option maxHeartbeats 4000000 in
set_option maxRecDepth 100000 in
theorem text_yes (e b : List UInt8) (he : e.length ≤ 1000) (hb : b.length ≤ 1000) (hm : (may e && may b) = true) (w : World) : Calls Tryd.prog 27 #[.agg #[.string (Str e), .string (Str b)]] w (teP A w e b) := by
  have hr := fun w => right_c e b (by omega) (by omega) w
  rw [hm] at hr
  have hjl := join_len2 he hb
  have s1 := heap_alloc_new w (.cells #[.string (Str e), .string (Str b)] 48)
  have b1 := (Below.refl w.heap.size w).alloc (Nat.le_refl _) (.cells #[.string (Str e), .string (Str b)] 48)
  obtain ⟨W1, hW1⟩ : ∃ W1, (w.alloc (.cells #[.string (Str e), .string (Str b)] 48)) = W1 := ⟨_, rfl⟩
  rw [hW1] at s1 b1
  have k0 := cell_block s1 0
  have k1 := cell_block s1 1
  have HR := Lib.hid hr
  have HB := Lib.hid b1
  have H1 := Lib.hid s1
  have HW1 := Lib.hid hW1
  have e1 := str_nil e
  have e2 := str_emp e
  have e3 := str_nil b
  have e4 := str_emp b
  have HP : ∀ W', Below w.heap.size w W' → teP A w e b (.returned (.tuple #[.string (Str (join (txt e b))), .nilIface])) W' := fun W' h => by
    unfold teP
    rw [hm]
    exact ⟨rfl, h⟩
  have HP := Lib.hid HP
  have HJ : ∀ (l : List (List UInt8)), txt e b = l → ∀ (W : World) (a : Addr) (c n : Nat), Rd W (some a) (l.map Sw) → l.length = n → n ≤ c → Calls Tryd.prog 63 #[.slice (some a) n c, .string ⟨#[32]⟩] W fun r w' => r = .returned (.string (Str (join (txt e b)))) ∧ Below W.heap.size W w' := by
    rintro l hl W a c n hrd rfl hc
    subst hl
    exact join_c _ hrd (txt_ne e b) hc (by omega) (by omega)
  have HJ := Lib.hid HJ
  obtain ⟨X, hX⟩ : ∃ X, join (txt e b) = X := ⟨_, rfl⟩
  rw [hX] at HP HJ
  clear hr b1 hm he hb s1 hW1 hX hjl
  by_cases h0 : e = []
  · simp only [h0, decide_true] at e1 e2
    have e5 : (Str e).toList = [] := by rw [Str_list]; exact h0
    by_cases h1 : b = []
    · simp only [h1, decide_true] at e3 e4
      have e6 : (Str b).toList = [] := by rw [Str_list]; exact h1
      have ht : txt e b = [skipW] := by simp [txt, h0, h1]
      have HT := Lib.hid ht
      clear h0 h1 ht
      go_enter Tryd.func27, Tryd.ntmps27
      go_wp2_with fail
      rw [HW1.out]
      refine (HR.out _).mono ?_
      rintro r w2 ⟨rfl, hb2⟩
      have s2 := (hb2.block _ (block_lt H1.out)).trans H1.out
      have b2 := HB.out.trans (hb2.mono HB.out.size)
      have q0 := cell_block s2 0
      have q1 := cell_block s2 1
      have b3 := b2.alloc b2.size (.cells #[.string ⟨#[115, 107, 105, 112]⟩] 9)
      have s3 := block_alloc (x := (Obj.cells #[.string ⟨#[115, 107, 105, 112]⟩] 9)) s2
      have u1 := cell_block s3 0
      have x1 := cell_block s3 1
      have hb0 := heap_alloc_new w2 (.cells #[.string ⟨#[115, 107, 105, 112]⟩] 9)
      have hrd : Rd (w2.alloc (.cells #[.string ⟨#[115, 107, 105, 112]⟩] 9)) (some ⟨w2.heap.size, 0, none⟩) ([skipW].map Sw) := Rd.of_block hb0 rfl
      have HB2 := Lib.hid b3
      have HJC := Lib.hid (HJ.out _ HT.out _ _ 1 1 hrd rfl (Nat.le_refl _))
      clear hb2 b2 b3 s2 s3 hb0 hrd
      go_wp2_with (go_at_call 63; (with_reducible refine HJC.out.mono ?_); rintro r w3 ⟨rfl, hb3⟩)
      go_ret2
      exact HP.out _ (HB2.out.trans (hb3.mono HB2.out.size))
    · simp only [h1, decide_false] at e3 e4
      have ht : txt e b = [skipW, beginW, b] := by simp [txt, h0, h1]
      have HT := Lib.hid ht
      clear h0 h1 ht
      go_enter Tryd.func27, Tryd.ntmps27
      go_wp2_with fail
      rw [HW1.out]
      refine (HR.out _).mono ?_
      rintro r w2 ⟨rfl, hb2⟩
      have s2 := (hb2.block _ (block_lt H1.out)).trans H1.out
      have b2 := HB.out.trans (hb2.mono HB.out.size)
      have q0 := cell_block s2 0
      have q1 := cell_block s2 1
      have b3 := b2.alloc b2.size (.cells #[.string ⟨#[115, 107, 105, 112]⟩] 9)
      have s3 := block_alloc (x := (Obj.cells #[.string ⟨#[115, 107, 105, 112]⟩] 9)) s2
      have u2 := cell_block s3 0
      have x2 := cell_block s3 1
      have hb0 := heap_alloc_new w2 (.cells #[.string ⟨#[115, 107, 105, 112]⟩] 9)
      have hrd : Rd (w2.alloc (.cells #[.string ⟨#[115, 107, 105, 112]⟩] 9)) (some ⟨w2.heap.size, 0, none⟩) ([skipW].map Sw) := Rd.of_block hb0 rfl
      have b4 := b3.alloc b3.size (.cells #[.string ⟨#[98, 101, 103, 105, 110]⟩, .string (Str b)] 9)
      have hb4 := heap_alloc_new (w2.alloc (.cells #[.string ⟨#[115, 107, 105, 112]⟩] 9)) (.cells #[.string ⟨#[98, 101, 103, 105, 110]⟩, .string (Str b)] 9)
      have hw4 : (w2.alloc (.cells #[.string ⟨#[115, 107, 105, 112]⟩] 9)).heap.size = w2.heap.size + 1 := by simp
      rw [hw4] at hb4
      have hr4 : Rd ((w2.alloc (.cells #[.string ⟨#[115, 107, 105, 112]⟩] 9)).alloc (.cells #[.string ⟨#[98, 101, 103, 105, 110]⟩, .string (Str b)] 9)) (some ⟨(w2.heap.size + 1), 0, none⟩) ([beginW, b].map Sw) := Rd.of_block hb4 rfl
      have own4 : World.ownsRow ((w2.alloc (.cells #[.string ⟨#[115, 107, 105, 112]⟩] 9)).alloc (.cells #[.string ⟨#[98, 101, 103, 105, 110]⟩, .string (Str b)] 9)) w.heap.size 9 1 (.slice (some ⟨w2.heap.size, 0, none⟩) 1 1) 1 ([skipW].map Sw) := own_block (block_alloc hb0) (by have := b2.size; omega) (by decide) rfl rfl
      obtain ⟨v5, w5, hrun, own5, gr5, _⟩ := elS.append w.heap.size (ty := 62) own4 2 2 rfl hr4 (fun h => by cases h) (by simp [Sw, Value.oneCell']) (by decide) (by decide) b4.size
      have b5 := below_grown own4 gr5 (Nat.le_refl _) b4.size
      obtain ⟨g, cap, rfl, hcap, hr5⟩ := own_some own5 (by decide)
      have HB2 := Lib.hid (b4.trans b5)
      have HJC := Lib.hid (HJ.out _ HT.out _ _ cap 3 (by simpa using hr5) rfl hcap)
      clear hb2 b2 b3 b4 b5 s2 s3 hb0 hrd hb4 hw4 hr4 own4 own5 gr5 hcap hr5
      go_wp2_with (first | (at_builtin; (with_reducible apply wpList_append_run hrun); rfl; rfl; rfl; rfl; rfl) | (go_at_call 63; (with_reducible refine HJC.out.mono ?_); rintro r w6 ⟨rfl, hb3⟩))
      go_ret2
      exact HP.out _ (HB2.out.trans (hb3.mono HB2.out.size))
  · simp only [h0, decide_false] at e1 e2
    by_cases h1 : b = []
    · simp only [h1, decide_true] at e3 e4
      have e6 : (Str b).toList = [] := by rw [Str_list]; exact h1
      have ht : txt e b = [emitW, e] := by simp [txt, h0, h1]
      have HT := Lib.hid ht
      clear h0 h1 ht
      go_enter Tryd.func27, Tryd.ntmps27
      go_wp2_with fail
      rw [HW1.out]
      refine (HR.out _).mono ?_
      rintro r w2 ⟨rfl, hb2⟩
      have s2 := (hb2.block _ (block_lt H1.out)).trans H1.out
      have b2 := HB.out.trans (hb2.mono HB.out.size)
      have q0 := cell_block s2 0
      have q1 := cell_block s2 1
      have b3 := b2.alloc b2.size (.cells #[.string ⟨#[115, 107, 105, 112]⟩] 9)
      have s3 := block_alloc (x := (Obj.cells #[.string ⟨#[115, 107, 105, 112]⟩] 9)) s2
      have u3 := cell_block s3 0
      have x3 := cell_block s3 1
      have b3 := b3.alloc b3.size (.cells #[.string ⟨#[101, 109, 105, 116]⟩, .string (Str e)] 9)
      have s3 := block_alloc (x := (Obj.cells #[.string ⟨#[101, 109, 105, 116]⟩, .string (Str e)] 9)) s3
      have u4 := cell_block s3 0
      have x4 := cell_block s3 1
      have hb0 := heap_alloc_new (w2.alloc (.cells #[.string ⟨#[115, 107, 105, 112]⟩] 9)) (.cells #[.string ⟨#[101, 109, 105, 116]⟩, .string (Str e)] 9)
      rw [World.size_alloc] at hb0
      have hrd : Rd ((w2.alloc (.cells #[.string ⟨#[115, 107, 105, 112]⟩] 9)).alloc (.cells #[.string ⟨#[101, 109, 105, 116]⟩, .string (Str e)] 9)) (some ⟨(w2.heap.size + 1), 0, none⟩) ([emitW, e].map Sw) := Rd.of_block hb0 rfl
      have HB2 := Lib.hid b3
      have HJC := Lib.hid (HJ.out _ HT.out _ _ 2 2 hrd rfl (Nat.le_refl _))
      clear hb2 b2 b3 s2 s3 hb0 hrd
      go_wp2_with (go_at_call 63; (with_reducible refine HJC.out.mono ?_); rintro r w3 ⟨rfl, hb3⟩)
      go_ret2
      exact HP.out _ (HB2.out.trans (hb3.mono HB2.out.size))
    · simp only [h1, decide_false] at e3 e4
      have ht : txt e b = [emitW, e, beginW, b] := by simp [txt, h0, h1]
      have HT := Lib.hid ht
      clear h0 h1 ht
      go_enter Tryd.func27, Tryd.ntmps27
      go_wp2_with fail
      rw [HW1.out]
      refine (HR.out _).mono ?_
      rintro r w2 ⟨rfl, hb2⟩
      have s2 := (hb2.block _ (block_lt H1.out)).trans H1.out
      have b2 := HB.out.trans (hb2.mono HB.out.size)
      have q0 := cell_block s2 0
      have q1 := cell_block s2 1
      have b3 := b2.alloc b2.size (.cells #[.string ⟨#[115, 107, 105, 112]⟩] 9)
      have s3 := block_alloc (x := (Obj.cells #[.string ⟨#[115, 107, 105, 112]⟩] 9)) s2
      have u5 := cell_block s3 0
      have x5 := cell_block s3 1
      have b3 := b3.alloc b3.size (.cells #[.string ⟨#[101, 109, 105, 116]⟩, .string (Str e)] 9)
      have s3 := block_alloc (x := (Obj.cells #[.string ⟨#[101, 109, 105, 116]⟩, .string (Str e)] 9)) s3
      have u6 := cell_block s3 0
      have x6 := cell_block s3 1
      have hb0 := heap_alloc_new (w2.alloc (.cells #[.string ⟨#[115, 107, 105, 112]⟩] 9)) (.cells #[.string ⟨#[101, 109, 105, 116]⟩, .string (Str e)] 9)
      rw [World.size_alloc] at hb0
      have hrd : Rd ((w2.alloc (.cells #[.string ⟨#[115, 107, 105, 112]⟩] 9)).alloc (.cells #[.string ⟨#[101, 109, 105, 116]⟩, .string (Str e)] 9)) (some ⟨(w2.heap.size + 1), 0, none⟩) ([emitW, e].map Sw) := Rd.of_block hb0 rfl
      have b4 := b3.alloc b3.size (.cells #[.string ⟨#[98, 101, 103, 105, 110]⟩, .string (Str b)] 9)
      have hb4 := heap_alloc_new ((w2.alloc (.cells #[.string ⟨#[115, 107, 105, 112]⟩] 9)).alloc (.cells #[.string ⟨#[101, 109, 105, 116]⟩, .string (Str e)] 9)) (.cells #[.string ⟨#[98, 101, 103, 105, 110]⟩, .string (Str b)] 9)
      have hw4 : ((w2.alloc (.cells #[.string ⟨#[115, 107, 105, 112]⟩] 9)).alloc (.cells #[.string ⟨#[101, 109, 105, 116]⟩, .string (Str e)] 9)).heap.size = w2.heap.size + 2 := by simp
      rw [hw4] at hb4
      have hr4 : Rd (((w2.alloc (.cells #[.string ⟨#[115, 107, 105, 112]⟩] 9)).alloc (.cells #[.string ⟨#[101, 109, 105, 116]⟩, .string (Str e)] 9)).alloc (.cells #[.string ⟨#[98, 101, 103, 105, 110]⟩, .string (Str b)] 9)) (some ⟨(w2.heap.size + 2), 0, none⟩) ([beginW, b].map Sw) := Rd.of_block hb4 rfl
      have own4 : World.ownsRow (((w2.alloc (.cells #[.string ⟨#[115, 107, 105, 112]⟩] 9)).alloc (.cells #[.string ⟨#[101, 109, 105, 116]⟩, .string (Str e)] 9)).alloc (.cells #[.string ⟨#[98, 101, 103, 105, 110]⟩, .string (Str b)] 9)) w.heap.size 9 1 (.slice (some ⟨(w2.heap.size + 1), 0, none⟩) 2 2) 2 ([emitW, e].map Sw) := own_block (block_alloc hb0) (by have := b2.size; omega) (by decide) rfl rfl
      obtain ⟨v5, w5, hrun, own5, gr5, _⟩ := elS.append w.heap.size (ty := 62) own4 2 2 rfl hr4 (fun h => by cases h) (by simp [Sw, Value.oneCell']) (by decide) (by decide) b4.size
      have b5 := below_grown own4 gr5 (Nat.le_refl _) b4.size
      obtain ⟨g, cap, rfl, hcap, hr5⟩ := own_some own5 (by decide)
      have HB2 := Lib.hid (b4.trans b5)
      have HJC := Lib.hid (HJ.out _ HT.out _ _ cap 4 (by simpa using hr5) rfl hcap)
      clear hb2 b2 b3 b4 b5 s2 s3 hb0 hrd hb4 hw4 hr4 own4 own5 gr5 hcap hr5
      go_wp2_with (first | (at_builtin; (with_reducible apply wpList_append_run hrun); rfl; rfl; rfl; rfl; rfl) | (go_at_call 63; (with_reducible refine HJC.out.mono ?_); rintro r w6 ⟨rfl, hb3⟩))
      go_ret2
      exact HP.out _ (HB2.out.trans (hb3.mono HB2.out.size))
end Ac
end Go.Proofs.YtmfcabidmacdcaaDoor
