import Derived.Test.YteekonojmpihlaaDoorQNmAdd
import Derived.Test.YteekonojmpihlaaDoorQNmRAdd
import Derived.Test.YteekonojmpihlaaDoorQNmSmall
import Derived.Test.YteekonojmpihlaaDoorQTreeOpen
import Derived.Deep.RegionHeld3
/- dofferlaw11.books: a book and its model, out of an argument's definitions. Printed by gen_nmbooks.py. Condition: the sentinels read as laid. -/
namespace Go.Proofs.YteekonojmpihlaaDoor
namespace Kt
end Kt
namespace St
end St
namespace Sp
end Sp
namespace Bk
end Bk
namespace Tr
end Tr
open Go Go.RowKit Kt St Sp Bk Tr
namespace Bo
/-- A book and its model, of one content, made since the world w. -/
structure BR (w W : World) (p q : Nat) (L : List Nat) (B : Bks) : Prop where
  bk : BK W p L [q] B
  rk : RK W q L B
  hq : q ∉ L
  hl : ∀ b ∈ L, w.heap.size ≤ b
  q0 : w.heap.size ≤ q
  hb : Below w.heap.size w W
theorem BR.below {w W W' : World} {p q : Nat} {L : List Nat} {B : Bks} (h : BR w W p q L B) (hB : Below W.heap.size W W') : BR w W' p q L B :=
  ⟨h.bk.below hB, h.rk.below hB, h.hq, h.hl, h.q0, h.hb.trans (hB.mono h.hb.size)⟩
theorem BK.sub {w : World} {p : Nat} {L X X' : List Nat} {B : Bks} (h : BK w p L X B) (hX : ∀ b ∈ X', b ∈ X ∨ w.heap.size ≤ b) : BK w p L X' B := by
  obtain ⟨g, c, mb, n, Ts, h1, rfl, h3, h4⟩ := h.ex
  exact ⟨g, c, mb, n, Ts, h1, rfl, h3.sub (fun b hb => by
    rcases List.mem_append.1 hb with hb | hb
    · exact .inl (List.mem_append_left _ hb)
    · exact (hX b hb).imp (List.mem_append_right _) id), h4⟩
theorem RK.sub {w : World} {q : Nat} {X X' : List Nat} {M : Bks} (h : RK w q X M) (hX : ∀ b ∈ X', b ∈ X ∨ w.heap.size ≤ b) : RK w q X' M := by
  obtain ⟨a, c, n, Ts, h1, h2⟩ := h.ex
  refine ⟨a, c, n, Ts, ⟨h1.hq, h1.hr, h1.hn, h1.hc, fun p hp hne hm => ?_, h1.le, h1.ht.sub (fun b hb => ?_)⟩, h2⟩
  · rcases List.mem_cons.1 hm with h | h
    · exact h1.ha p hp hne (by simp [h])
    · rcases hX _ h with h | h
      · exact h1.ha p hp hne (List.mem_cons_of_mem _ h)
      · obtain ⟨p', hp', hl⟩ := h1.hr.lt (dflat_ne hne)
        rw [hp] at hp'
        cases hp'
        omega
  · rcases List.mem_cons.1 hb with h | h
    · exact .inl (by simp [h])
    · exact (hX b h).imp (List.mem_cons_of_mem _) id
theorem addE_le (B : Bks) (s : List UInt8) (n : Nd) : 0 ≤ addE B s n ∧ addE B s n ≤ 18 := by
  unfold addE
  split
  · decide
  · split
    · decide
    · split
      · decide
      · split <;> decide
theorem addE_er (B : Bks) (s : List UInt8) {n m : Nd} (h : er m = er n) : addE B s m = addE B s n := by rw [addE, addE, same_rgt h]
theorem add_er (B : Bks) (s : List UInt8) {n m : Nd} (h : er m = er n) : add B s m = add B s n := by rw [add, add, addE_er B s h, h]
/-- Into the book, then into the model. -/
theorem BR.adds {w W W1 W2 : World} {p q : Nat} {L L' : List Nat} {B : Bks} {s : List UInt8} {x m : Nd} (h : BR w W p q L B) (b1 : BK W1 p L' [q] (add B s x)) (m1 : Mod L W W1) (f1 : Fr L' L W.heap.size) (he : er m = er x) (r2 : RK W2 q L' (add B s m)) (m2 : Mod [q] W1 W2) : BR w W2 p q L' (add B s x) := by
  have hql := h.rk.lt
  have hq' : q ∉ L' := fun hn => by
    rcases f1 q hn with h1 | h1
    · exact h.hq h1
    · omega
  refine ⟨b1.mod m2 (fun b hb => .inl ⟨hb, fun hl => hq' (by simp at hb; subst hb; exact hl)⟩), by rw [add_er B s he] at r2; exact r2, hq', fun b hb => ?_, h.q0, ?_⟩
  · rcases f1 b hb with h1 | h1
    · exact h.hl b h1
    · have := h.hb.size; omega
  · exact (h.hb.trans (m1.toBelow h.hb.size h.hl)).trans (m2.toBelow (by have := h.hb.size; have := m1.size; omega) (by intro k hk; simp at hk; subst hk; exact h.q0))
/-- What books answers. -/
def BoP (w : World) (e : Ending) (w' : World) : Prop :=
  (e = .returned (.tuple #[.pointer none, .pointer none, .int .i64 1]) ∧ Below w.heap.size w w') ∨ ∃ p q L B, e = .returned (.tuple #[.pointer (some ⟨p, 0, none⟩), .pointer (some ⟨q, 0, none⟩), .int .i64 0]) ∧ BR w w' p q L B
set_option maxRecDepth 100000 in
set_option maxHeartbeats 2000000 in
theorem books_c (E : Nat → Addr) (la : Option Addr) (lc n : Nat) (ds : Bks) (w : World) (hn : ds.length = n) (hr : Rd w la (ds.flatMap dcells)) (hd : ∀ x ∈ ds, Is w.heap.size w x.2 ∧ tl x.2 ∧ x.1.length ≤ 9223372036854775807) (hse : Sent 204 w E Er.egs) (hn63 : n ≤ 9223372036854775807) :
    Calls Tryd.prog 15 #[.slice la n lc] w (BoP w) := by
  have hnew := new_c [] w
  have HNew := Lib.hid hnew
  have HD := Lib.hid (And.intro hn (And.intro hr (And.intro hd hse)))
  clear hnew hn hr hd hse
  go_enter Tryd.func15, Tryd.ntmps15
  go_wp2_with fail
  with_reducible refine HNew.out.mono ?_
  rintro e w1 ⟨p, L0, rfl, bk1, hL0, hb1⟩
  obtain ⟨W2, hW2⟩ : ∃ W2, w1.alloc (.cells #[.slice none 0 0] 41 (0, 0)) = W2 := ⟨_, rfl⟩
  have b2 : Below w1.heap.size w1 W2 := by rw [← hW2]; exact (Below.refl _ _).alloc (Nat.le_refl _) _
  have s2 : W2.heap[w1.heap.size]? = some (.cells #[.slice none 0 0] 41 (0, 0)) := by rw [← hW2]; exact World.alloc_heap_new _ _
  have hq0 : ∀ b ∈ L0, b < w1.heap.size := bk1.lts
  have hBR : BR w W2 p w1.heap.size L0 [] := by
    refine ⟨(bk1.sub (X' := [w1.heap.size]) (fun b hb => .inr (by simp at hb; omega))).below b2, ⟨none, 0, 0, [], ⟨s2, Rd.nil _ _, rfl, ⟨Nat.le_refl _, by decide, fun _ => rfl⟩, (fun p hp => by cases hp), by decide, (fun y hy => by cases hy)⟩, rfl⟩, fun h => by have := hq0 _ h; omega, hL0, hb1.size, hb1.trans (b2.mono hb1.size)⟩
  have HW2 := Lib.hid hW2
  have HBR := Lib.hid hBR
  clear hW2 hBR b2 s2 bk1 hL0 hq0
  go_upto_region 2 with (fail)
  rw [HW2.out]
  by_cases h40 : 40 < n
  · have hfin : BoP w (.returned (.tuple #[.pointer none, .pointer none, .int .i64 1])) W2 := .inl ⟨rfl, HBR.out.hb⟩
    have h40' : (40 : Int) < (n : Int) := by omega
    go_wp2
    go_ret3
    exact hfin
  · have h40' : ¬ (40 : Int) < (n : Int) := by omega
    go_wp2_with fail
    go_loopw [21] (fun i W => ∃ j : Nat, j ≤ n ∧ i = .int .i64 (j : Int) ∧ ∃ L B, BR w W p w1.heap.size L B) (fun i _ => n - (intOf i).toNat)
    case atStart => exact ⟨0, Nat.zero_le _, rfl, L0, [], HBR.out⟩
    case round =>
      obtain ⟨j, hj, rfl, L, B, hBR⟩ := hrel
      by_cases hjl : j < n
      · obtain ⟨hn, hr, hd, hse⟩ := HD.out
        have hjk : j < ds.length := by omega
        obtain ⟨hI0, htl, hnl⟩ := hd _ (List.getElem_mem hjk)
        obtain ⟨b, off, rfl, hcs⟩ := Rd.struct 10 (hr.mod (Mod.of_below hBR.hb []) (by simp)) (fun z hz => dcells_len z (hd z hz).1.len) j hjk (by decide)
        obtain ⟨⟨nm, kid⟩, hkd⟩ : ∃ x, ds[j] = x := ⟨_, rfl⟩
        rw [hkd] at hcs hI0 htl hnl
        simp only at hI0 htl hnl
        have hset := hI0.len
        obtain ⟨y0, y1, y2, y3, hys⟩ := four' hset
        obtain ⟨kk, ksx, kmn, kmx, kt, ka, kc, kks⟩ := kid
        simp only [Nd.set] at hys
        subst hys
        have q0 := hcs 0 _ rfl (by omega)
        have q1 := hcs 1 _ rfl (by omega)
        have q2 := hcs 2 _ rfl (by omega)
        have q3 := hcs 3 _ rfl (by omega)
        have q4 := hcs 4 _ rfl (by omega)
        have q5 := hcs 5 _ rfl (by omega)
        have q6 := hcs 6 _ rfl (by omega)
        have q7 := hcs 7 _ rfl (by omega)
        have q8 := hcs 8 _ rfl (by omega)
        have q9 := hcs 9 _ rfl (by omega)
        simp only [← Nat.add_assoc, Nat.add_zero, Nd.kind, Nd.a, Nd.kids, Nd.cap, Nd.mn, Nd.mx, Nd.text] at q0 q1 q2 q3 q4 q5 q6 q7 q8 q9
        have hnvk : nv (.mk kk [y0, y1, y2, y3] kmn kmx kt ka kc kks) = .agg #[.int .i64 kk, .int .u64 (y0 : Int), .int .u64 (y1 : Int), .int .u64 (y2 : Int), .int .u64 (y3 : Int), .slice ka kks.length kc, .int .i64 kmn, .int .i64 kmx, .string (Str kt)] := rfl
        obtain ⟨kid, hkid⟩ : ∃ kid, Nd.mk kk [y0, y1, y2, y3] kmn kmx kt ka kc kks = kid := ⟨_, rfl⟩
        obtain ⟨kl, hkl⟩ : ∃ kl, kks.length = kl := ⟨_, rfl⟩
        rw [hkid, hkl] at hnvk
        rw [hkl] at q6
        rw [hkid] at hI0 htl
        obtain ⟨W7, hW7⟩ : ∃ W7, wr.alloc (.cells #[.string (Str nm), .int .i64 kk, .int .u64 (y0 : Int), .int .u64 (y1 : Int), .int .u64 (y2 : Int), .int .u64 (y3 : Int), .slice ka kl kc, .int .i64 kmn, .int .i64 kmx, .string (Str kt)] 104) = W7 := ⟨_, rfl⟩
        have b7 : Below wr.heap.size wr W7 := by rw [← hW7]; exact (Below.refl _ _).alloc (Nat.le_refl _) _
        have s7 : W7.heap[wr.heap.size]? = some (.cells #[.string (Str nm), .int .i64 kk, .int .u64 (y0 : Int), .int .u64 (y1 : Int), .int .u64 (y2 : Int), .int .u64 (y3 : Int), .slice ka kl kc, .int .i64 kmn, .int .i64 kmx, .string (Str kt)] 104 (0, 0)) := by rw [← hW7]; exact heap_alloc_new wr _
        have hz7 : W7.heap.size = wr.heap.size + 1 := by rw [← hW7]; simp
        have hBR7 := hBR.below b7
        have hI7 : Is W7.heap.size W7 kid := Is.mono hBR7.hb.size (Is.below hBR7.hb hI0)
        have hsm := small11_c kid W7 hI7
        rw [hnvk] at hsm
        have HSm := Lib.hid hsm
        have HW7 := Lib.hid hW7
        have H7 := Lib.hid s7
        have HBR7 := Lib.hid (And.intro hBR7 (And.intro b7 hz7))
        have HX := Lib.hid (And.intro hI0 (And.intro htl (And.intro hnl (And.intro hnvk hse))))
        have HLr := Lib.hid (And.intro hBR.bk.lts hBR.rk.lt)
        have o0 : W7.cell? ⟨wr.heap.size, 0, none⟩ = some (.string (Str nm)) := cell_block s7 0
        have o1 : W7.cell? ⟨wr.heap.size, 1, none⟩ = some (.int .i64 kk) := cell_block s7 1
        have o2 : W7.cell? ⟨wr.heap.size, 2, none⟩ = some (.int .u64 (y0 : Int)) := cell_block s7 2
        have o3 : W7.cell? ⟨wr.heap.size, 3, none⟩ = some (.int .u64 (y1 : Int)) := cell_block s7 3
        have o4 : W7.cell? ⟨wr.heap.size, 4, none⟩ = some (.int .u64 (y2 : Int)) := cell_block s7 4
        have o5 : W7.cell? ⟨wr.heap.size, 5, none⟩ = some (.int .u64 (y3 : Int)) := cell_block s7 5
        have o6 : W7.cell? ⟨wr.heap.size, 6, none⟩ = some (.slice ka kl kc) := cell_block s7 6
        have o7 : W7.cell? ⟨wr.heap.size, 7, none⟩ = some (.int .i64 kmn) := cell_block s7 7
        have o8 : W7.cell? ⟨wr.heap.size, 8, none⟩ = some (.int .i64 kmx) := cell_block s7 8
        have o9 : W7.cell? ⟨wr.heap.size, 9, none⟩ = some (.string (Str kt)) := cell_block s7 9
        clear hsm hW7 s7 hBR7 b7 hz7 hI7 hI0 htl hnl hnvk hkid hkl hset hkd hcs hr hd hse hn hBR
        go_upto_region 9 with (fail)
        rw [HW7.out]
        clear q0 q1 q2 q3 q4 q5 q6 q7 q8 q9
        go_wp2_with fail
        with_reducible refine HSm.out.mono ?_
        rintro e w8 ⟨m, rfl, hme, hmi, hmb, hb8⟩
        obtain ⟨hBR7, b7, hz7⟩ := HBR7.out
        have hBR8 := hBR7.below hb8
        by_cases h7 : sz kid < 700
        · by_cases h50 : 50 < nm.length
          · have h50a : (50 : Int) < ((nm.length : Nat) : Int) := by omega
            have h50b : (50 : Int) < ((Str nm).size : Int) := by rw [Str_size]; omega
            have hsb := decide_eq_true h7
            obtain ⟨v0, v1, v2, v3, hvs⟩ := four' hmi.len
            obtain ⟨k', mn', mx', a', nl', c', t', hnv, hcl⟩ := nv_explicit hvs
            have l78 : w8.cell? ⟨wr.heap.size, 0, none⟩ = some (.string (Str nm)) := cell_block ((hb8.block _ (block_lt H7.out)).trans H7.out) 0
            have b9 : Below w8.heap.size w8 (w8.alloc (.cells #[.int .i64 k', .int .u64 (v0 : Int), .int .u64 (v1 : Int), .int .u64 (v2 : Int), .int .u64 (v3 : Int), .slice a' nl' c', .int .i64 mn', .int .i64 mx', .string (Str t')] 44)) := (Below.refl _ _).alloc (Nat.le_refl _) _
            have l79 : (w8.alloc (.cells #[.int .i64 k', .int .u64 (v0 : Int), .int .u64 (v1 : Int), .int .u64 (v2 : Int), .int .u64 (v3 : Int), .slice a' nl' c', .int .i64 mn', .int .i64 mx', .string (Str t')] 44)).cell? ⟨wr.heap.size, 0, none⟩ = some (.string (Str nm)) := cell_block (block_alloc ((hb8.block _ (block_lt H7.out)).trans H7.out)) 0
            have hfin : BoP w (.returned (.tuple #[.pointer none, .pointer none, .int .i64 1])) (w8.alloc (.cells #[.int .i64 k', .int .u64 (v0 : Int), .int .u64 (v1 : Int), .int .u64 (v2 : Int), .int .u64 (v3 : Int), .slice a' nl' c', .int .i64 mn', .int .i64 mx', .string (Str t')] 44)) := .inl ⟨rfl, hBR8.hb.trans (b9.mono hBR8.hb.size)⟩
            have HFin := Lib.hid hfin
            rw [hnv, hsb]
            clear hfin hmi hmb hb8 hBR8 hBR7 b7 hz7 hnv hcl hvs b9 hme hsb
            go_wp2
            go_ret3
            exact HFin.out
          · have h50a : ¬ (50 : Int) < ((nm.length : Nat) : Int) := by omega
            have h50b : ¬ (50 : Int) < ((Str nm).size : Int) := by rw [Str_size]; omega
            have hsb := decide_eq_true h7
            obtain ⟨hI0, htl, hnl, hnvk, hse⟩ := HX.out
            obtain ⟨v0, v1, v2, v3, hvs⟩ := four' hmi.len
            obtain ⟨k', mn', mx', a', nl', c', t', hnv, hcl⟩ := nv_explicit hvs
            obtain ⟨W9, hW9⟩ : ∃ W9, w8.alloc (.cells #[.int .i64 k', .int .u64 (v0 : Int), .int .u64 (v1 : Int), .int .u64 (v2 : Int), .int .u64 (v3 : Int), .slice a' nl' c', .int .i64 mn', .int .i64 mx', .string (Str t')] 44) = W9 := ⟨_, rfl⟩
            have b9 : Below w8.heap.size w8 W9 := by rw [← hW9]; exact (Below.refl _ _).alloc (Nat.le_refl _) _
            have s9 : W9.heap[w8.heap.size]? = some (.cells #[.int .i64 k', .int .u64 (v0 : Int), .int .u64 (v1 : Int), .int .u64 (v2 : Int), .int .u64 (v3 : Int), .slice a' nl' c', .int .i64 mn', .int .i64 mx', .string (Str t')] 44 (0, 0)) := by rw [← hW9]; exact heap_alloc_new w8 _
            have l7 := (b9.block _ (Nat.lt_of_lt_of_le (block_lt H7.out) hb8.size)).trans ((hb8.block _ (block_lt H7.out)).trans H7.out)
            have hBR9 := hBR8.below b9
            have hz9 := b9.size
            have hz8 := hb8.size
            have hLr := HLr.out.1
            have hqr := HLr.out.2
            have hIk : Is W9.heap.size W9 kid := Is.mono hBR9.hb.size (Is.below hBR9.hb hI0)
            have hkL : Bl (· ∉ L) kid := (Is.bl hI0).mono fun b hb hl => by have := hBR9.hl b hl; omega
            have hmL : Bl (fun b => W7.heap.size ≤ b ∧ b < w8.heap.size) m := Bl.both hmb (Is.bl hmi) fun b h1 h2 => ⟨h1, h2⟩
            have hIm9 : Is W9.heap.size W9 m := Is.mono b9.size (Is.below b9 hmi)
            have hxt : ∀ y ∈ walk kid, y.1.text.length ≤ 9223372036854775807 := tl_walk htl
            have hmt : ∀ y ∈ walk m, y.1.text.length ≤ 9223372036854775807 := text_walk (hme h7) _ hxt
            have hadd := fun (V : World) (hb : Below W9.heap.size W9 V) => add_c E p L [w1.heap.size] B nm hnl kid hxt V (Is.mono hb.size (Is.below hb hIk)) hkL (hBR9.below hb).bk (fun b hb2 => by simp at hb2; have := hb.size; omega) (hse.keep ((hBR9.below hb).hb))
            rw [hnvk] at hadd
            have hnum : ∀ V : World, Below w.heap.size w V → Calls Tryd.prog 27 #[ee E (addE B nm kid)] V fun e w' => e = .returned (.int .i64 (addE B nm kid)) ∧ Below V.heap.size V w' := fun V hb => num_ee E _ (addE_le B nm kid).1 (addE_le B nm kid).2 V (hse.keep hb)
            have hra : ∀ (w10 w11 : World) (L' : List Nat), BK w10 p L' [w1.heap.size] (add B nm kid) → Mod L W9 w10 → Fr L' L W9.heap.size → Below w10.heap.size w10 w11 → Calls Tryd.prog 61 #[.pointer (some ⟨w1.heap.size, 0, none⟩), .string (Str nm), nv m] w11 (RaP w1.heap.size L' B nm m w11) := fun w10 w11 L' g1 g2 g3 g4 => by
              have rk9 : RK W9 w1.heap.size (L ++ L') B := hBR9.rk.sub fun b hb => by
                rcases List.mem_append.1 hb with h | h
                · exact .inl h
                · exact g3 b h
              have rk10 := rk9.mod g2 (fun b hb => .inl ⟨List.mem_append_left _ hb, fun e => hBR9.hq (e ▸ hb)⟩)
              have hL10 := g1.lts
              have hz10 := g2.size
              have hz11 := g4.size
              refine radd_c w1.heap.size L' B nm hnl m hmt w11 ?_ ?_ ((rk10.sub (X' := L') (fun b hb => .inl (List.mem_append_right _ hb))).below g4) (fun b hb => by have := hL10 b hb; omega)
              · have : Is w10.heap.size w10 m := is_mod hIm9 hmL g2 (fun b hb => .inl fun hq => by have := hLr b hb; omega)
                exact Is.mono hz11 (Is.below g4 this)
              · exact hmL.mono fun b hb hq => by
                  rcases List.mem_cons.1 hq with h | h
                  · omega
                  · rcases g3 b h with h | h
                    · have := hLr b h; omega
                    · omega
            have hfin : ∀ (w10 w11 w12 : World) (L' : List Nat), BK w10 p L' [w1.heap.size] (add B nm kid) → Mod L W9 w10 → Fr L' L W9.heap.size → Below w10.heap.size w10 w11 → RK w12 w1.heap.size L' (add B nm m) → Mod [w1.heap.size] w11 w12 → BR w w12 p w1.heap.size L' (add B nm kid) := fun w10 w11 w12 L' g1 g2 g3 g4 g5 g6 =>
              hBR9.adds g1 g2 g3 (hme h7) g5 ((Mod.of_below g4 _).trans g6 (fun q hq => .inl hq))
            have hb10 : ∀ w10, Mod L W9 w10 → Below w.heap.size w w10 := fun w10 g => hBR9.hb.trans (g.toBelow hBR9.hb.size hBR9.hl)
            have hAe := addE_er B nm (hme h7)
            have skm : ∀ V : World, V.heap[wr.heap.size]? = W9.heap[wr.heap.size]? → V.heap[w8.heap.size]? = W9.heap[w8.heap.size]? → (V.cell? ⟨wr.heap.size, 0, none⟩ = some (.string (Str nm)) ∧ V.cell? ⟨wr.heap.size, 1, none⟩ = some (.int .i64 kk) ∧ V.cell? ⟨wr.heap.size, 2, none⟩ = some (.int .u64 (y0 : Int)) ∧ V.cell? ⟨wr.heap.size, 3, none⟩ = some (.int .u64 (y1 : Int)) ∧ V.cell? ⟨wr.heap.size, 4, none⟩ = some (.int .u64 (y2 : Int)) ∧ V.cell? ⟨wr.heap.size, 5, none⟩ = some (.int .u64 (y3 : Int)) ∧ V.cell? ⟨wr.heap.size, 6, none⟩ = some (.slice ka kl kc) ∧ V.cell? ⟨wr.heap.size, 7, none⟩ = some (.int .i64 kmn) ∧ V.cell? ⟨wr.heap.size, 8, none⟩ = some (.int .i64 kmx) ∧ V.cell? ⟨wr.heap.size, 9, none⟩ = some (.string (Str kt))) ∧ (V.cell? ⟨w8.heap.size, 0, none⟩ = some (.int .i64 k') ∧ V.cell? ⟨w8.heap.size, 1, none⟩ = some (.int .u64 (v0 : Int)) ∧ V.cell? ⟨w8.heap.size, 2, none⟩ = some (.int .u64 (v1 : Int)) ∧ V.cell? ⟨w8.heap.size, 3, none⟩ = some (.int .u64 (v2 : Int)) ∧ V.cell? ⟨w8.heap.size, 4, none⟩ = some (.int .u64 (v3 : Int)) ∧ V.cell? ⟨w8.heap.size, 5, none⟩ = some (.slice a' nl' c') ∧ V.cell? ⟨w8.heap.size, 6, none⟩ = some (.int .i64 mn') ∧ V.cell? ⟨w8.heap.size, 7, none⟩ = some (.int .i64 mx') ∧ V.cell? ⟨w8.heap.size, 8, none⟩ = some (.string (Str t'))) := fun V e1 e2 => by
              have k1 := e1.trans l7
              exact ⟨⟨cell_block k1 0, cell_block k1 1, cell_block k1 2, cell_block k1 3, cell_block k1 4, cell_block k1 5, cell_block k1 6, cell_block k1 7, cell_block k1 8, cell_block k1 9⟩, nd_cells (e2.trans s9)⟩
            have sk0 : ∀ V : World, Below W9.heap.size W9 V → (V.cell? ⟨wr.heap.size, 0, none⟩ = some (.string (Str nm)) ∧ V.cell? ⟨wr.heap.size, 1, none⟩ = some (.int .i64 kk) ∧ V.cell? ⟨wr.heap.size, 2, none⟩ = some (.int .u64 (y0 : Int)) ∧ V.cell? ⟨wr.heap.size, 3, none⟩ = some (.int .u64 (y1 : Int)) ∧ V.cell? ⟨wr.heap.size, 4, none⟩ = some (.int .u64 (y2 : Int)) ∧ V.cell? ⟨wr.heap.size, 5, none⟩ = some (.int .u64 (y3 : Int)) ∧ V.cell? ⟨wr.heap.size, 6, none⟩ = some (.slice ka kl kc) ∧ V.cell? ⟨wr.heap.size, 7, none⟩ = some (.int .i64 kmn) ∧ V.cell? ⟨wr.heap.size, 8, none⟩ = some (.int .i64 kmx) ∧ V.cell? ⟨wr.heap.size, 9, none⟩ = some (.string (Str kt))) ∧ (V.cell? ⟨w8.heap.size, 0, none⟩ = some (.int .i64 k') ∧ V.cell? ⟨w8.heap.size, 1, none⟩ = some (.int .u64 (v0 : Int)) ∧ V.cell? ⟨w8.heap.size, 2, none⟩ = some (.int .u64 (v1 : Int)) ∧ V.cell? ⟨w8.heap.size, 3, none⟩ = some (.int .u64 (v2 : Int)) ∧ V.cell? ⟨w8.heap.size, 4, none⟩ = some (.int .u64 (v3 : Int)) ∧ V.cell? ⟨w8.heap.size, 5, none⟩ = some (.slice a' nl' c') ∧ V.cell? ⟨w8.heap.size, 6, none⟩ = some (.int .i64 mn') ∧ V.cell? ⟨w8.heap.size, 7, none⟩ = some (.int .i64 mx') ∧ V.cell? ⟨w8.heap.size, 8, none⟩ = some (.string (Str t'))) := fun V hb => skm V (hb.block _ (block_lt l7)) (hb.block _ (block_lt s9))
            have sk1 : ∀ (V V' : World), Mod L W9 V → Below V.heap.size V V' → (V'.cell? ⟨wr.heap.size, 0, none⟩ = some (.string (Str nm)) ∧ V'.cell? ⟨wr.heap.size, 1, none⟩ = some (.int .i64 kk) ∧ V'.cell? ⟨wr.heap.size, 2, none⟩ = some (.int .u64 (y0 : Int)) ∧ V'.cell? ⟨wr.heap.size, 3, none⟩ = some (.int .u64 (y1 : Int)) ∧ V'.cell? ⟨wr.heap.size, 4, none⟩ = some (.int .u64 (y2 : Int)) ∧ V'.cell? ⟨wr.heap.size, 5, none⟩ = some (.int .u64 (y3 : Int)) ∧ V'.cell? ⟨wr.heap.size, 6, none⟩ = some (.slice ka kl kc) ∧ V'.cell? ⟨wr.heap.size, 7, none⟩ = some (.int .i64 kmn) ∧ V'.cell? ⟨wr.heap.size, 8, none⟩ = some (.int .i64 kmx) ∧ V'.cell? ⟨wr.heap.size, 9, none⟩ = some (.string (Str kt))) ∧ (V'.cell? ⟨w8.heap.size, 0, none⟩ = some (.int .i64 k') ∧ V'.cell? ⟨w8.heap.size, 1, none⟩ = some (.int .u64 (v0 : Int)) ∧ V'.cell? ⟨w8.heap.size, 2, none⟩ = some (.int .u64 (v1 : Int)) ∧ V'.cell? ⟨w8.heap.size, 3, none⟩ = some (.int .u64 (v2 : Int)) ∧ V'.cell? ⟨w8.heap.size, 4, none⟩ = some (.int .u64 (v3 : Int)) ∧ V'.cell? ⟨w8.heap.size, 5, none⟩ = some (.slice a' nl' c') ∧ V'.cell? ⟨w8.heap.size, 6, none⟩ = some (.int .i64 mn') ∧ V'.cell? ⟨w8.heap.size, 7, none⟩ = some (.int .i64 mx') ∧ V'.cell? ⟨w8.heap.size, 8, none⟩ = some (.string (Str t'))) := fun V V' hm hb => skm V' ((hb.block _ (Nat.lt_of_lt_of_le (block_lt l7) hm.size)).trans (hm.block _ (block_lt l7) (fun h => by have := hLr _ h; omega))) ((hb.block _ (Nat.lt_of_lt_of_le (block_lt s9) hm.size)).trans (hm.block _ (block_lt s9) (fun h => by have := hLr _ h; omega)))
            have sk2 : ∀ (V V' V2 : World), Mod L W9 V → Below V.heap.size V V' → Mod [w1.heap.size] V' V2 → (V2.cell? ⟨wr.heap.size, 0, none⟩ = some (.string (Str nm)) ∧ V2.cell? ⟨wr.heap.size, 1, none⟩ = some (.int .i64 kk) ∧ V2.cell? ⟨wr.heap.size, 2, none⟩ = some (.int .u64 (y0 : Int)) ∧ V2.cell? ⟨wr.heap.size, 3, none⟩ = some (.int .u64 (y1 : Int)) ∧ V2.cell? ⟨wr.heap.size, 4, none⟩ = some (.int .u64 (y2 : Int)) ∧ V2.cell? ⟨wr.heap.size, 5, none⟩ = some (.int .u64 (y3 : Int)) ∧ V2.cell? ⟨wr.heap.size, 6, none⟩ = some (.slice ka kl kc) ∧ V2.cell? ⟨wr.heap.size, 7, none⟩ = some (.int .i64 kmn) ∧ V2.cell? ⟨wr.heap.size, 8, none⟩ = some (.int .i64 kmx) ∧ V2.cell? ⟨wr.heap.size, 9, none⟩ = some (.string (Str kt))) ∧ (V2.cell? ⟨w8.heap.size, 0, none⟩ = some (.int .i64 k') ∧ V2.cell? ⟨w8.heap.size, 1, none⟩ = some (.int .u64 (v0 : Int)) ∧ V2.cell? ⟨w8.heap.size, 2, none⟩ = some (.int .u64 (v1 : Int)) ∧ V2.cell? ⟨w8.heap.size, 3, none⟩ = some (.int .u64 (v2 : Int)) ∧ V2.cell? ⟨w8.heap.size, 4, none⟩ = some (.int .u64 (v3 : Int)) ∧ V2.cell? ⟨w8.heap.size, 5, none⟩ = some (.slice a' nl' c') ∧ V2.cell? ⟨w8.heap.size, 6, none⟩ = some (.int .i64 mn') ∧ V2.cell? ⟨w8.heap.size, 7, none⟩ = some (.int .i64 mx') ∧ V2.cell? ⟨w8.heap.size, 8, none⟩ = some (.string (Str t'))) := fun V V' V2 hm hb hq => skm V2 ((hq.block _ (Nat.lt_of_lt_of_le (Nat.lt_of_lt_of_le (block_lt l7) hm.size) hb.size) (by simp; omega)).trans ((hb.block _ (Nat.lt_of_lt_of_le (block_lt l7) hm.size)).trans (hm.block _ (block_lt l7) (fun h => by have := hLr _ h; omega)))) ((hq.block _ (Nat.lt_of_lt_of_le (Nat.lt_of_lt_of_le (block_lt s9) hm.size) hb.size) (by simp; omega)).trans ((hb.block _ (Nat.lt_of_lt_of_le (block_lt s9) hm.size)).trans (hm.block _ (block_lt s9) (fun h => by have := hLr _ h; omega))))
            rw [hnv] at hra
            have HAdd := Lib.hid hadd
            have HNum := Lib.hid hnum
            have HRa := Lib.hid hra
            have HFin := Lib.hid hfin
            have HB10 := Lib.hid hb10
            have HAe := Lib.hid hAe
            have HS0 := Lib.hid sk0
            have HS1 := Lib.hid sk1
            have HS2 := Lib.hid sk2
            have HW9 := Lib.hid hW9
            have l78 : w8.cell? ⟨wr.heap.size, 0, none⟩ = some (.string (Str nm)) := cell_block ((hb8.block _ (block_lt H7.out)).trans H7.out) 0
            have l79 : W9.cell? ⟨wr.heap.size, 0, none⟩ = some (.string (Str nm)) := cell_block l7 0
            obtain ⟨⟨i0, i1, i2, i3, i4, i5, i6, i7, i8, i9⟩, p0, p1, p2, p3, p4, p5, p6, p7, p8⟩ := sk0 W9 (Below.refl _ _)
            rw [hnv, hsb]
            clear hadd hnum hra hfin hb10 hAe skm sk0 sk1 sk2 hW9 hmi hmb hmL hIm9 hb8 hBR8 hBR7 b7 hz7 hnv hcl hvs b9 hme hsb s9 l7 hBR9 hz9 hz8 hLr hqr hIk hkL hxt hmt hI0 htl hnl hnvk hse
            go_upto_region 10 with (fail)
            rw [HW9.out]
            go_upto_region 12 with (fail)
            have n0 : Below W9.heap.size W9 W9.drew := (Below.refl _ _).drew
            refine wp_region_noPanic ?_
            refine wp_region_held_drew (S := fun V => (V.cell? ⟨wr.heap.size, 0, none⟩ = some (.string (Str nm)) ∧ V.cell? ⟨wr.heap.size, 1, none⟩ = some (.int .i64 kk) ∧ V.cell? ⟨wr.heap.size, 2, none⟩ = some (.int .u64 (y0 : Int)) ∧ V.cell? ⟨wr.heap.size, 3, none⟩ = some (.int .u64 (y1 : Int)) ∧ V.cell? ⟨wr.heap.size, 4, none⟩ = some (.int .u64 (y2 : Int)) ∧ V.cell? ⟨wr.heap.size, 5, none⟩ = some (.int .u64 (y3 : Int)) ∧ V.cell? ⟨wr.heap.size, 6, none⟩ = some (.slice ka kl kc) ∧ V.cell? ⟨wr.heap.size, 7, none⟩ = some (.int .i64 kmn) ∧ V.cell? ⟨wr.heap.size, 8, none⟩ = some (.int .i64 kmx) ∧ V.cell? ⟨wr.heap.size, 9, none⟩ = some (.string (Str kt))) ∧ (V.cell? ⟨w8.heap.size, 0, none⟩ = some (.int .i64 k') ∧ V.cell? ⟨w8.heap.size, 1, none⟩ = some (.int .u64 (v0 : Int)) ∧ V.cell? ⟨w8.heap.size, 2, none⟩ = some (.int .u64 (v1 : Int)) ∧ V.cell? ⟨w8.heap.size, 3, none⟩ = some (.int .u64 (v2 : Int)) ∧ V.cell? ⟨w8.heap.size, 4, none⟩ = some (.int .u64 (v3 : Int)) ∧ V.cell? ⟨w8.heap.size, 5, none⟩ = some (.slice a' nl' c') ∧ V.cell? ⟨w8.heap.size, 6, none⟩ = some (.int .i64 mn') ∧ V.cell? ⟨w8.heap.size, 7, none⟩ = some (.int .i64 mx') ∧ V.cell? ⟨w8.heap.size, 8, none⟩ = some (.string (Str t')))) (by kernel_rfl) (HS0.out _ n0) (fun hHeld => ?_)
            (refine wpAnyH_take (i := 0) (v := ?v0n1) (by simp only [List.getElem?_toArray, List.getElem?_cons_succ, List.getElem?_cons_zero]; rfl) (by kernel_rfl) (by kernel_rfl) (by kernel_rfl) (fun _ _ _ h => False.elim h) (Or.inl ⟨by rfl, ?hy0n1⟩) (by assumption) ?rest0n1; (case hy0n1 => (intro w hSw; (try dsimp only at hSw); go_simp; (try with_reducible rfl))); (try simp only [Act.put, List.setIfInBounds_toArray, List.set_cons_zero, List.set_cons_succ]))
            (refine wpAnyH_take (i := 1) (v := ?v1n2) (by simp only [List.getElem?_toArray, List.getElem?_cons_succ, List.getElem?_cons_zero]; rfl) (by kernel_rfl) (by kernel_rfl) (by kernel_rfl) (fun _ _ _ h => False.elim h) (Or.inl ⟨by rfl, ?hy1n2⟩) (by assumption) ?rest1n2; (case hy1n2 => (intro w hSw; (try dsimp only at hSw); go_simp; (try with_reducible rfl))); (try simp only [Act.put, List.setIfInBounds_toArray, List.set_cons_zero, List.set_cons_succ]))
            (refine wpAnyH_take (i := 2) (v := ?v2n3) (by simp only [List.getElem?_toArray, List.getElem?_cons_succ, List.getElem?_cons_zero]; rfl) (by kernel_rfl) (by kernel_rfl) (by kernel_rfl) (fun _ _ _ h => False.elim h) (Or.inl ⟨by rfl, ?hy2n3⟩) (by assumption) ?rest2n3; (case hy2n3 => (intro w hSw; (try dsimp only at hSw); go_simp; (try with_reducible rfl))); (try simp only [Act.put, List.setIfInBounds_toArray, List.set_cons_zero, List.set_cons_succ]))
            (refine wpAnyH_take (i := 3) (v := ?v3n4) (by simp only [List.getElem?_toArray, List.getElem?_cons_succ, List.getElem?_cons_zero]; rfl) (by kernel_rfl) (by kernel_rfl) (by kernel_rfl) (fun _ _ _ h => False.elim h) (Or.inl ⟨by rfl, ?hy3n4⟩) (by assumption) ?rest3n4; (case hy3n4 => (intro w hSw; (try dsimp only at hSw); go_simp; (try with_reducible rfl))); (try simp only [Act.put, List.setIfInBounds_toArray, List.set_cons_zero, List.set_cons_succ]))
            (refine wpAnyH_take (i := 4) (v := ?v4n5) (by simp only [List.getElem?_toArray, List.getElem?_cons_succ, List.getElem?_cons_zero]; rfl) (by kernel_rfl) (by kernel_rfl) (by kernel_rfl) (fun _ _ _ h => False.elim h) (Or.inl ⟨by rfl, ?hy4n5⟩) (by assumption) ?rest4n5; (case hy4n5 => (intro w hSw; (try dsimp only at hSw); go_simp; (try with_reducible rfl))); (try simp only [Act.put, List.setIfInBounds_toArray, List.set_cons_zero, List.set_cons_succ]))
            (refine wpAnyH_take (i := 7) (v := ?v7n6) (by simp only [List.getElem?_toArray, List.getElem?_cons_succ, List.getElem?_cons_zero]; rfl) (by kernel_rfl) (by kernel_rfl) (by kernel_rfl) (fun _ _ _ h => False.elim h) (Or.inl ⟨by rfl, ?hy7n6⟩) (by assumption) ?rest7n6; (case hy7n6 => (intro w hSw; (try dsimp only at hSw); go_simp; (try with_reducible rfl))); (try simp only [Act.put, List.setIfInBounds_toArray, List.set_cons_zero, List.set_cons_succ]))
            (refine wpAnyH_take (i := 8) (v := ?v8n7) (by simp only [List.getElem?_toArray, List.getElem?_cons_succ, List.getElem?_cons_zero]; rfl) (by kernel_rfl) (by kernel_rfl) (by kernel_rfl) (fun _ _ _ h => False.elim h) (Or.inl ⟨by rfl, ?hy8n7⟩) (by assumption) ?rest8n7; (case hy8n7 => (intro w hSw; (try dsimp only at hSw); go_simp; (try with_reducible rfl))); (try simp only [Act.put, List.setIfInBounds_toArray, List.set_cons_zero, List.set_cons_succ]))
            (refine wpAnyH_take (i := 9) (v := ?v9n8) (by simp only [List.getElem?_toArray, List.getElem?_cons_succ, List.getElem?_cons_zero]; rfl) (by kernel_rfl) (by kernel_rfl) (by kernel_rfl) (fun _ _ _ h => False.elim h) (Or.inl ⟨by rfl, ?hy9n8⟩) (by assumption) ?rest9n8; (case hy9n8 => (intro w hSw; (try dsimp only at hSw); go_simp; (try with_reducible rfl))); (try simp only [Act.put, List.setIfInBounds_toArray, List.set_cons_zero, List.set_cons_succ]))
            (refine wpAnyH_take (i := 10) (v := ?v10n9) (by simp only [List.getElem?_toArray, List.getElem?_cons_succ, List.getElem?_cons_zero]; rfl) (by kernel_rfl) (by kernel_rfl) (by kernel_rfl) (fun _ _ _ h => False.elim h) (Or.inl ⟨by rfl, ?hy10n9⟩) (by assumption) ?rest10n9; (case hy10n9 => (intro w hSw; (try dsimp only at hSw); go_simp; (try with_reducible rfl))); (try simp only [Act.put, List.setIfInBounds_toArray, List.set_cons_zero, List.set_cons_succ]))
            (refine wpAnyH_ready (rs := [5]) (by kernel_rfl) (by simp) ?_; refine AllReadyH.cons (o := _) (by simp only [List.getElem?_toArray, List.getElem?_cons_succ, List.getElem?_cons_zero]; rfl) (fun K hK => ?_) AllReadyH.nil; go_simp; ((with_reducible refine (HAdd.out _ n0).mono ?_); rintro e w10 ⟨rfl, L', g1, g2, g3⟩; have g2' := (Mod.of_below n0 L).trans g2 (fun q hq => .inl hq); have g3 : Fr L' L W9.heap.size := g3); refine hK.out _ _ (by exact HS1.out _ _ g2' (Below.refl _ _)) (fun hHeld => ?_); clear hK K; (try simp only [Act.put, List.setIfInBounds_toArray, List.set_cons_zero, List.set_cons_succ]))
            (refine wpAnyH_ready (rs := [6]) (by kernel_rfl) (by simp) ?_; refine AllReadyH.cons (o := _) (by simp only [List.getElem?_toArray, List.getElem?_cons_succ, List.getElem?_cons_zero]; rfl) (fun K hK => ?_) AllReadyH.nil; go_simp; ((with_reducible refine (HNum.out _ (HB10.out _ g2')).mono ?_); rintro e w11 ⟨rfl, g4⟩); refine hK.out _ _ (by exact HS1.out _ _ g2' g4) (fun hHeld => ?_); clear hK K; (try simp only [Act.put, List.setIfInBounds_toArray, List.set_cons_zero, List.set_cons_succ]))
            (refine wpAnyH_ready (rs := [11]) (by kernel_rfl) (by simp) ?_; refine AllReadyH.cons (o := _) (by simp only [List.getElem?_toArray, List.getElem?_cons_succ, List.getElem?_cons_zero]; rfl) (fun K hK => ?_) AllReadyH.nil; go_simp; ((with_reducible refine (HRa.out w10 w11 L' g1 g2' g3 g4).mono ?_); rintro e w12 ⟨rfl, g5, g6⟩); refine hK.out _ _ (by exact HS2.out _ _ _ g2' g4 g6) (fun hHeld => ?_); clear hK K; (try simp only [Act.put, List.setIfInBounds_toArray, List.set_cons_zero, List.set_cons_succ]))
            rw [HAe.out]
            (refine wpAnyH_take (i := 12) (v := ?v12n10) (by simp only [List.getElem?_toArray, List.getElem?_cons_succ, List.getElem?_cons_zero]; rfl) (by kernel_rfl) (by kernel_rfl) (by kernel_rfl) (fun _ _ _ h => False.elim h) (Or.inl ⟨by rfl, ?hy12n10⟩) (by assumption) ?rest12n10; (case hy12n10 => (intro w hSw; (try dsimp only at hSw); go_simp; (try with_reducible rfl))); (try simp only [Act.put, List.setIfInBounds_toArray, List.set_cons_zero, List.set_cons_succ]))
            refine wpAnyH_done (by kernel_rfl) ?_ _
            refine NoPanic.normal ?_
            have HB12 := Lib.hid (HFin.out w10 w11 w12 L' g1 g2' g3 g4 g5 g6)
            clear g1 g2 g2' g3 g4 g5 g6
            generalize addE B nm kid = A
            go_wp2
            go_roundw
            case rel => exact ⟨j + 1, by omega, by go_num, _, _, HB12.out⟩
            case measure => simp [intOf]; omega
        · have hsb := decide_eq_false h7
          obtain ⟨v0, v1, v2, v3, hvs⟩ := four' hmi.len
          obtain ⟨k', mn', mx', a', nl', c', t', hnv, hcl⟩ := nv_explicit hvs
          have b9 : Below w8.heap.size w8 (w8.alloc (.cells #[.int .i64 k', .int .u64 (v0 : Int), .int .u64 (v1 : Int), .int .u64 (v2 : Int), .int .u64 (v3 : Int), .slice a' nl' c', .int .i64 mn', .int .i64 mx', .string (Str t')] 44)) := (Below.refl _ _).alloc (Nat.le_refl _) _
          have hfin : BoP w (.returned (.tuple #[.pointer none, .pointer none, .int .i64 1])) (w8.alloc (.cells #[.int .i64 k', .int .u64 (v0 : Int), .int .u64 (v1 : Int), .int .u64 (v2 : Int), .int .u64 (v3 : Int), .slice a' nl' c', .int .i64 mn', .int .i64 mx', .string (Str t')] 44)) := .inl ⟨rfl, hBR8.hb.trans (b9.mono hBR8.hb.size)⟩
          have HFin := Lib.hid hfin
          rw [hnv, hsb]
          clear hfin hmi hmb hb8 hBR8 hBR7 b7 hz7 hnv hcl hvs b9 hme hsb
          go_wp2
          go_ret3
          exact HFin.out
      · obtain rfl : j = n := by omega
        have hfin : BoP w (.returned (.tuple #[.pointer (some ⟨p, 0, none⟩), .pointer (some ⟨w1.heap.size, 0, none⟩), .int .i64 0])) wr := .inr ⟨p, w1.heap.size, L, B, rfl, hBR⟩
        have HFin := Lib.hid hfin
        clear hfin hBR
        go_wp2
        go_ret3
        exact HFin.out
end Bo
end Go.Proofs.YteekonojmpihlaaDoor
