/- The walks of package pack: Out's Num, raw, Byte, Bytes, Text, Row, Done. Condition where an error is answered: the sentinels read as laid. -/
import Derived.Test.YtjohljpcoodijaaDoorPackNum
import Derived.Test.YtjohljpcoodijaaDoorApp
namespace Go.Proofs.YtjohljpcoodijaaDoor
open Go Go.RowKit Kt
namespace Pk
/-- The blocks g' are among g, or lie from B on. -/
def Fr (g' g : List Nat) (B : Nat) : Prop := ∀ k ∈ g', k ∈ g ∨ B ≤ k
theorem Fr.refl (g : List Nat) (B : Nat) : Fr g g B := fun _ h => .inl h
theorem Fr.trans {a b c : List Nat} {B B' : Nat} (h : Fr a b B') (k : Fr b c B) (hB : B ≤ B') : Fr a c B := fun x hx => by
  rcases h x hx with h1 | h1
  · exact k x h1
  · right; omega
/-- A writer at block p, its row's block (if any) g: what was written, its error. -/
structure OutS (w : World) (p : Nat) (g : List Nat) (bs : List UInt8) (ev : Value) : Prop where
  h : ∃ a cap, w.heap[p]? = some (.cells #[.slice a bs.length cap, ev] 76 (0, 0)) ∧ w.ownsRow 0 5 1 (.slice a bs.length cap) bs.length (u8s bs) ∧ (Value.slice a bs.length cap).ownBlock.toList = g
  ne : p ∉ g
variable {w w' : World} {p : Nat} {g : List Nat} {bs : List UInt8} {ev : Value}
theorem OutS.plt (h : OutS w p g bs ev) : p < w.heap.size := by obtain ⟨a, cap, h1, _⟩ := h.h; exact block_lt h1
theorem OutS.lts (h : OutS w p g bs ev) : ∀ k ∈ p :: g, k < w.heap.size := by
  intro k hk
  rcases List.mem_cons.1 hk with rfl | hk
  · exact h.plt
  · obtain ⟨a, cap, _, h2, rfl⟩ := h.h
    exact (h2.lt k (by simpa using hk)).2
theorem OutS.mod {S : List Nat} (h : OutS w p g bs ev) (hb : Mod S w w') (hS : ∀ k ∈ p :: g, k ∉ S) : OutS w' p g bs ev := by
  obtain ⟨a, cap, h1, h2, rfl⟩ := h.h
  exact ⟨⟨a, cap, by rw [hb.block p (block_lt h1) (hS p (by simp))]; exact h1, own_mod h2 hb (fun k hk => hS k (by simp [hk])), rfl⟩, h.ne⟩
theorem OutS.below (h : OutS w p g bs ev) (hb : Below w.heap.size w w') : OutS w' p g bs ev := h.mod (Mod.of_below hb []) (by simp)
/-- An append to the field: its run, and what is then written. -/
theorem OutS.app (h : OutS w p g bs ev) (n m c : Nat) (hn : bs.length = n) {a : Option Addr} {news : List UInt8} (hl : news.length = m) (hr : Rd w a (u8s news)) (hno : a = none → c = 0) (h63 : n + m ≤ 4611686018427387904 / 65536) :
    ∃ a0 c0 a' c' w6, w.cell? ⟨p, 0, none⟩ = some (.slice a0 n c0) ∧ (Builtin.append_ #[24, 24] 24 #[.slice a0 n c0, .slice a m c]).run Tryd.prog w = .ok (.slice a' (n + m) c') w6 ∧
      (∃ v, w6.cell? ⟨p, 0, none⟩ = some v) ∧ w6.frozen? ⟨p, 0, none⟩ = false ∧ ∃ g', OutS (w6.setCell ⟨p, 0, none⟩ (.slice a' (n + m) c')) p g' (bs ++ news) ev ∧ Mod (p :: g) w (w6.setCell ⟨p, 0, none⟩ (.slice a' (n + m) c')) ∧ Fr g' g w.heap.size := by
  subst hn hl
  obtain ⟨a0, c0, h1, h2, h3⟩ := h.h
  obtain ⟨a', c', w6, hrun, own, gr, hlie⟩ := Num.elU8.any 0 (ty := 24) h2 news.length c (by simp [u8s]) hr hno (oneCell_u8s _) (by unfold maxLen; omega) (by omega) (Nat.zero_le _)
  have hpb : ∀ k, (Value.slice a0 bs.length c0).ownBlock = some k → k ≠ p := by
    rintro k hk rfl
    exact h.ne (by rw [← h3, hk]; simp)
  have hp6 : ∀ k, (Value.slice a' (bs.length + news.length) c').ownBlock = some k → k ≠ p := by
    rintro k hk rfl
    rcases hlie k hk with h4 | h4
    · exact hpb k h4 rfl
    · have := block_lt h1; omega
  have e6 : w6.heap[p]? = some (.cells #[.slice a0 bs.length c0, ev] 76 (0, 0)) := by
    rw [gr.block p (block_lt h1) (fun e => hpb p e.symm rfl)]; exact h1
  have hlen : (bs ++ news).length = bs.length + news.length := List.length_append
  refine ⟨a0, c0, a', c', w6, cell_block h1 0, hrun, ⟨_, cell_block e6 0⟩, frozen_block e6 0, (Value.slice a' (bs.length + news.length) c').ownBlock.toList, ⟨⟨a', c', ?_, ?_, by rw [hlen]⟩, ?_⟩, ?_, ?_⟩
  · rw [block_setCell e6, hlen]; rfl
  · rw [hlen, u8s_append]
    exact own_mod own ((Mod.refl [p] w6).setCell (.inl (by simp)) _) (fun k hk hm => hp6 k hk (by simpa using hm))
  · intro hm; exact hp6 p (by simpa using hm) rfl
  · refine Mod.setCell (Mod.grown (Mod.refl _ w) gr (fun k hk => .inl ?_)) (.inl (by simp)) _
    rw [← h3, hk]; simp
  · intro k hk
    rcases hlie k (by simpa using hk) with h4 | h4
    · left; rw [← h3, h4]; simp
    · exact .inr h4

set_option maxHeartbeats 1000000 in
set_option maxRecDepth 100000 in
theorem raw_c (a : Option Addr) (c m : Nat) (news : List UInt8) (w : World) (h : OutS w p g bs .nilIface) (hl : news.length = m) (hr : Rd w a (u8s news)) (hno : a = none → c = 0) (h63 : bs.length + m ≤ 70368744177664) :
    Calls Tryd.prog 91 #[.pointer (some ⟨p, 0, none⟩), .slice a m c] w fun e w' => e = .returned (.tuple #[]) ∧ ∃ g', OutS w' p g' (bs ++ news) .nilIface ∧ Mod (p :: g) w w' ∧ Fr g' g w.heap.size := by
  obtain ⟨n, hn⟩ : ∃ n, bs.length = n := ⟨_, rfl⟩
  obtain ⟨a0, c0, a', c', w6, k0, hrun, ⟨v, k6⟩, f6, fin⟩ := h.app n m c hn hl hr hno (by omega)
  obtain ⟨_, _, h1, _⟩ := h.h
  have k1 := cell_block h1 1
  have Fin := Lib.hid fin
  simp at k1
  clear fin h h1 hr hn hl
  go_enter Tryd.func91, Tryd.ntmps91
  go_wp2_with (at_builtin; (with_reducible apply wpList_append_run hrun); rfl; rfl; rfl; rfl; rfl)
  go_end0
  exact ⟨rfl, Fin.out⟩
set_option maxHeartbeats 1000000 in
set_option maxRecDepth 100000 in
theorem raw_no (v : Value) (w : World) (h : OutS w p g bs (.iface 152 ev)) :
    Calls Tryd.prog 91 #[.pointer (some ⟨p, 0, none⟩), v] w fun e w' => e = .returned (.tuple #[]) ∧ w = w' := by
  obtain ⟨_, _, h1, _⟩ := h.h
  have k1 := cell_block h1 1
  clear h h1
  go_enter Tryd.func91, Tryd.ntmps91
  go_wp2
  go_end0
  exact ⟨rfl, rfl⟩

/-- The loop's relation: what is written and what is still to be. -/
def OnR (w : World) (p : Nat) (g : List Nat) (bs : List UInt8) (n : Nat) (v : Value) (W : World) : Prop := ∃ (m : Nat) (bs' : List UInt8) (g' : List Nat), v = .int .i64 m ∧ m ≤ n ∧ bs' ++ enc m = bs ++ enc n ∧ bs'.length ≤ bs.length + (n - m) ∧ OutS W p g' bs' .nilIface ∧ Mod (p :: g) w W ∧ Fr g' g w.heap.size
set_option maxHeartbeats 2000000 in
set_option maxRecDepth 100000 in
theorem onum_ok (n : Nat) (w : World) (h : OutS w p g bs .nilIface) (hn : n ≤ 2147483647) (h63 : bs.length ≤ 1000000000) :
    Calls Tryd.prog 47 #[.pointer (some ⟨p, 0, none⟩), .int .i64 n] w fun e w' => e = .returned (.tuple #[]) ∧ ∃ g', OutS w' p g' (bs ++ enc n) .nilIface ∧ Mod (p :: g) w w' ∧ Fr g' g w.heap.size := by
  obtain ⟨_, _, h1, _⟩ := h.h
  have k1 := cell_block h1 1
  simp at k1
  have H := Lib.hid h
  clear h h1
  go_enter Tryd.func47, Tryd.ntmps47
  go_wp2
  go_loopw [1] (fun v W => OnR w p g bs n v W) (fun v _ => (intOf v).toNat)
  case atStart => exact ⟨n, bs, g, rfl, Nat.le_refl _, rfl, by omega, H.out, Mod.refl _ _, Fr.refl _ _⟩
  case round =>
    obtain ⟨m, bs', g', rfl, hmn, hbs, hlen, hO, hM, hF⟩ := hrel
    obtain ⟨L, hL⟩ : ∃ L, bs'.length = L := ⟨_, rfl⟩
    by_cases hbig : m < 128
    · have b1 := (Below.refl wr.heap.size wr).alloc (Nat.le_refl _) (.cells #[.int .u8 (m : Int)] 5)
      have henc := enc_small hbig
      rw [henc] at hbs
      have hcb : ((UInt8.ofNat m).toNat : Int) = (m : Int) := by rw [ofNat_toNat (by omega)]
      obtain ⟨a0, c0, a', c', w6, k0, hrun, ⟨v, k6⟩, f6, g2, q1, q2, q3⟩ := (hO.below b1).app L 1 1 hL (news := [UInt8.ofNat m]) rfl (Rd.new wr #[.int .u8 (m : Int)] 5 (0, 0) _ (by simp [u8s]; omega)) (fun h => by cases h) (by omega)
      rw [hbs] at q1
      have kk : wr.cell? ⟨p, 0, none⟩ = some (.slice a0 L c0) := by rw [← k0]; exact (World.cell?_of_block (b1.block p hO.plt)).symm
      have Fin := Lib.hid q1
      have HM := Lib.hid (hM.trans ((Mod.of_below b1 (p :: g')).trans q2 (fun k hk => .inl hk)) (fun k hk => by
        rcases List.mem_cons.1 hk with rfl | hk
        · left; simp
        · rcases hF k hk with h1 | h1
          · left; simp [h1]
          · right; exact h1))
      have HF := Lib.hid (q3.trans hF (by have := hM.size; have := b1.size; omega))
      clear hO hM hF q1 q2 q3 b1 henc hcb hbs hL k0 hlen
      go_wp2_with (at_builtin; (with_reducible apply wpList_append_run hrun); rfl; rfl; rfl; rfl; rfl)
      go_end0
      exact ⟨rfl, _, Fin.out, HM.out, HF.out⟩
    · have b1 := (Below.refl wr.heap.size wr).alloc (Nat.le_refl _) (.cells #[.int .u8 ((m : Int) % 128 + 128)] 5)
      have henc := enc_big hbig
      rw [henc] at hbs
      have hcb : ((UInt8.ofNat (m % 128 + 128)).toNat : Int) = (m : Int) % 128 + 128 := by rw [ofNat_toNat (by omega)]; omega
      obtain ⟨a0, c0, a', c', w6, k0, hrun, ⟨v, k6⟩, f6, g2, q1, q2, q3⟩ := (hO.below b1).app L 1 1 hL (news := [UInt8.ofNat (m % 128 + 128)]) rfl (Rd.new wr #[.int .u8 ((m : Int) % 128 + 128)] 5 (0, 0) _ (by simp [u8s]; omega)) (fun h => by cases h) (by omega)
      have kk : wr.cell? ⟨p, 0, none⟩ = some (.slice a0 L c0) := by rw [← k0]; exact (World.cell?_of_block (b1.block p hO.plt)).symm
      have hbs2 : (bs' ++ [UInt8.ofNat (m % 128 + 128)]) ++ enc (m / 128) = bs ++ enc n := by rw [← hbs]; simp
      have hlen2 : (bs' ++ [UInt8.ofNat (m % 128 + 128)]).length ≤ bs.length + (n - m / 128) := by simp; omega
      have Fin := Lib.hid q1
      have HM := Lib.hid (hM.trans ((Mod.of_below b1 (p :: g')).trans q2 (fun k hk => .inl hk)) (fun k hk => by
        rcases List.mem_cons.1 hk with rfl | hk
        · left; simp
        · rcases hF k hk with h1 | h1
          · left; simp [h1]
          · right; exact h1))
      have HF := Lib.hid (q3.trans hF (by have := hM.size; have := b1.size; omega))
      have HBs := Lib.hid hbs2
      have HLen := Lib.hid hlen2
      clear hO hM hF q1 q2 q3 b1 henc hcb hbs hL k0 hlen hbs2 hlen2
      go_wp2_with (at_builtin; (with_reducible apply wpList_append_run hrun); rfl; rfl; rfl; rfl; rfl)
      go_roundw
      case rel => first | exact ⟨m / 128, _, g2, by go_num, by omega, HBs.out, HLen.out, Fin.out, HM.out, HF.out⟩ | ((repeat apply Exists.intro); refine ⟨?r, ?f⟩; (case f => (and_intros <;> rfl)); exact ⟨m / 128, _, g2, by go_num, by omega, HBs.out, HLen.out, Fin.out, HM.out, HF.out⟩)
      case measure => simp [intOf]; omega
set_option maxHeartbeats 1000000 in
set_option maxRecDepth 100000 in
theorem onum_bad (A : Nat → Addr) (n : Int) (w : World) (h : OutS w p g bs .nilIface) (hn : n < 0 ∨ 2147483647 < n) (hs : Sent 152 w A pks) :
    Calls Tryd.prog 47 #[.pointer (some ⟨p, 0, none⟩), .int .i64 n] w fun e w' => e = .returned (.tuple #[]) ∧ OutS w' p g bs (Er.ev A 1) ∧ Mod (p :: g) w w' := by
  have hc := hs.cell 1 (by simp [pks])
  obtain ⟨a, cap, h1, h2, h3⟩ := h.h
  have k1 := cell_block h1 1
  have f1 := frozen_block h1 1
  simp at k1
  have fin : OutS (w.setCell ⟨p, 1, none⟩ (Er.ev A 1)) p g bs (Er.ev A 1) := by
    refine ⟨⟨a, cap, by rw [block_setCell h1]; rfl, own_mod h2 ((Mod.refl [p] w).setCell (.inl (by simp)) _) (fun k hk hm => ?_), h3⟩, h.ne⟩
    have : k = p := by simpa using hm
    subst this
    exact h.ne (by rw [← h3, hk]; simp)
  have Fin := Lib.hid fin
  have HM := Lib.hid ((Mod.refl (p :: g) w).setCell (p := ⟨p, 1, none⟩) (.inl (by simp)) (Er.ev A 1))
  clear fin h h1 h2 h3 hs
  by_cases h0 : n < 0
  · have hb : decide (n < 0) = true := by simpa using h0
    clear h0 hn
    go_enter Tryd.func47, Tryd.ntmps47
    go_wp2
    ((try simp only [Exit.inBlock, Exit.then]); refine bodyPost_ret (results_none rfl _ _ _) rfl ?_)
    exact ⟨rfl, Fin.out, HM.out⟩
  · have hb : decide (n < 0) = false := by simpa using h0
    have hb2 : decide (2147483647 < n) = true := by simp; omega
    clear h0 hn
    go_enter Tryd.func47, Tryd.ntmps47
    go_wp2
    ((try simp only [Exit.inBlock, Exit.then]); refine bodyPost_ret (results_none rfl _ _ _) rfl ?_)
    exact ⟨rfl, Fin.out, HM.out⟩
set_option maxHeartbeats 1000000 in
set_option maxRecDepth 100000 in
theorem onum_no (v : Value) (w : World) (h : OutS w p g bs (.iface 152 ev)) :
    Calls Tryd.prog 47 #[.pointer (some ⟨p, 0, none⟩), v] w fun e w' => e = .returned (.tuple #[]) ∧ w = w' := by
  obtain ⟨_, _, h1, _⟩ := h.h
  have k1 := cell_block h1 1
  clear h h1
  go_enter Tryd.func47, Tryd.ntmps47
  go_wp2
  ((try simp only [Exit.inBlock, Exit.then]); refine bodyPost_ret (results_none rfl _ _ _) rfl ?_)
  exact ⟨rfl, rfl⟩
set_option maxHeartbeats 1000000 in
set_option maxRecDepth 100000 in
theorem odone_ok (n : Nat) (hn : bs.length = n) (w : World) (h : OutS w p g bs .nilIface) (h63 : n ≤ 140737488355328) :
    Calls Tryd.prog 48 #[.pointer (some ⟨p, 0, none⟩)] w fun e w' => ∃ a c, e = .returned (.tuple #[.slice a n c, .nilIface]) ∧ w'.ownsRow w.heap.size 5 1 (.slice a n c) n (u8s bs) ∧ Below w.heap.size w w' := by
  obtain ⟨a, cap, h1, h2, h3⟩ := h.h
  have k1 := cell_block h1 1
  have k0 := cell_block h1 0
  rw [hn] at k0 h2
  simp at k1 k0
  have hc := Sl.clone_n a cap n bs w hn (by omega) (fun e => by subst e; exact (own_none h2).1) (Rd.own h2)
  clear h h1 h2 h3 hn
  go_enter Tryd.func48, Tryd.ntmps48
  go_wp2_with fail
  refine hc.mono ?_
  rintro e w5 ⟨v, rfl, own, hb5⟩
  obtain ⟨a5, c5, rfl, _⟩ := rd_own own
  have O := Lib.hid own
  clear own
  go_wp2
  go_ret2
  exact ⟨a5, c5, rfl, O.out, hb5⟩
set_option maxHeartbeats 1000000 in
set_option maxRecDepth 100000 in
theorem odone_no (w : World) (h : OutS w p g bs (.iface 152 ev)) :
    Calls Tryd.prog 48 #[.pointer (some ⟨p, 0, none⟩)] w fun e w' => e = .returned (.tuple #[.slice none 0 0, .iface 152 ev]) ∧ Below w.heap.size w w' := by
  obtain ⟨_, _, h1, _⟩ := h.h
  have k1 := cell_block h1 1
  clear h h1
  go_enter Tryd.func48, Tryd.ntmps48
  go_wp2
  go_quiet (fail)
  go_wp2
  go_ret2
  exact ⟨rfl, below_drewN (Below.refl _ _) _⟩
theorem out_new (w : World) : OutS (w.alloc (.cells #[.slice none 0 0, .nilIface] 76)) w.heap.size [] [] .nilIface :=
  ⟨⟨none, 0, heap_alloc_new w _, World.ownsRow_nil _ _ _ _, rfl⟩, by simp⟩
theorem enc300 : enc 300 = [172, 2] := by rw [enc_big (by omega), enc_small (by omega)]; rfl
set_option maxHeartbeats 1000000 in
set_option maxRecDepth 100000 in
theorem alive_c (w : World) : Calls Tryd.prog 43 #[] w fun e w' => e = .returned (.bool true) ∧ Below w.heap.size w w' := by
  go_enter Tryd.func43, Tryd.ntmps43
  go_wp2_with fail
  have hb0 := (Below.refl w.heap.size w).alloc (Nat.le_refl _) (.cells #[.slice none 0 0, .nilIface] 76)
  refine (onum_ok 300 _ (out_new w) (by omega) (by simp)).mono ?_
  rintro e w5 ⟨rfl, g5, hO, hM, hF⟩
  rw [enc300] at hO
  have hB5 : Below w.heap.size w w5 := hb0.trans (hM.toBelow hb0.size (by simp))
  go_wp2_with fail
  refine (odone_ok 2 rfl _ hO (by omega)).mono ?_
  rintro e w6 ⟨a6, c6, rfl, own, hb6⟩
  have hcv := str_run (P := Tryd.prog) (dst := 9) Num.elU8.ht Tryd.underlying5 Tryd.underlying9 (Rd.own own) c6 0
  have hB6 := hB5.trans (hb6.mono hB5.size)
  have e0 : w6.drewN 0 = w6 := rfl
  rw [e0] at hcv
  simp at hcv
  clear hO hM hF own hb6 e0 hb0 hB5
  have hst : ((Str [172, 2]).toList == [172, 2]) = true := by rw [Str_list]; rfl
  go_wp2
  go_ret
  exact ⟨rfl, hB6⟩
end Pk
end Go.Proofs.YtjohljpcoodijaaDoor
