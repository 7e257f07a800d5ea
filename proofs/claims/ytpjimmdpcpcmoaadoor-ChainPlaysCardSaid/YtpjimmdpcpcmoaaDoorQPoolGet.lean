import Derived.Test.YtpjimmdpcpcmoaaDoorQPoolMem
import Derived.Test.YtpjimmdpcpcmoaaDoorQAtom
/- The walks of package pool that only read: Held, Credit, Used, Free, Size. -/
namespace Go.Proofs.YtpjimmdpcpcmoaaDoor
open Go Go.RowKit Kt
namespace Po
variable {w w' : World} {p ob oc bb mz mg mb : Nat} {A : List (Int × Int × Nat)} {G : List (Option Nat)} {m : Md} {L : List Nat}
theorem zero_acct (w : World) : (zeroValue 98).run Tryd.prog w = .ok (.pointer none) w := by kernel_rfl
theorem PB.look (h : PB w p ob oc bb mz mg mb A G m) (x : Int) (hx : (Lit.int .i64 x).wf = true) :
    (Instr.lookup 89 (.map (some mb)) (.int .i64 x) true).run Tryd.prog w = .ok (.tuple #[pv (lk (am A) x), .bool (lk (am A) x).isSome]) w :=
  h.hM.get_ok Tryd.underlying89 Tryd.underlying3 (zero_acct w) x hx
theorem PB.held0 (hk : Ok m) {x : Int} (hc : crd m.acc x = none) : held m.own x = 0 := by
  unfold held
  rw [List.countP_eq_zero]
  intro o ho
  simp only [Bool.and_eq_true, decide_eq_true_eq, not_and]
  rintro rfl
  rcases hk.ow o ho with h4 | ⟨h4, h5⟩
  · omega
  · rw [hc] at h5; cases h5
set_option maxRecDepth 100000 in
theorem held_c (x : Int) (hx : (Lit.int .i64 x).wf = true) (w : World) (h : PI w p L m) :
    Calls Tryd.prog 16 #[.pointer (some ⟨p, 0, none⟩), .int .i64 x] w fun e w' => e = .returned (.int .i64 (held m.own x : Int)) ∧ w = w' := by
  obtain ⟨ob, oc, bb, mz, mg, mb, A, G, hb, rfl⟩ := h.ex
  have k3 := cell_block hb.hp 3
  have hl := hb.look x hx
  cases hc : crd m.acc x with
  | none =>
    rw [(hb.lk_iff x).2 hc] at hl
    rw [PB.held0 h.ok hc]
    simp only [pv, Option.isSome_none] at hl
    clear hb h hc hx
    go_enter Tryd.func16, Tryd.ntmps16
    go_wp2
    go_ret
    exact ⟨rfl, rfl⟩
  | some c =>
    obtain ⟨b, e1, e2⟩ := hb.acct hc
    rw [e1] at hl
    simp only [pv, Option.isSome_some] at hl
    have k1 := cell_block (hb.ha _ e2) 1
    simp only at k1
    obtain ⟨H, hH⟩ : ∃ H : Int, (held m.own x : Int) = H := ⟨_, rfl⟩
    rw [hH] at k1 ⊢
    have hat := At.load_c b 1 H w k1
    have HA := Lib.hid hat
    clear hb h hc hx e1 e2 hH hat
    go_enter Tryd.func16, Tryd.ntmps16
    go_wp2_with (go_at_call 48; (with_reducible refine HA.out.mono ?_); rintro e w2 ⟨rfl, rfl⟩)
    go_ret
    exact ⟨rfl, rfl⟩
set_option maxRecDepth 100000 in
theorem size_c (w : World) (h : PI w p L m) : Calls Tryd.prog 62 #[.pointer (some ⟨p, 0, none⟩)] w fun e w' => e = .returned (.int .i64 (m.size : Int)) ∧ w = w' := by
  obtain ⟨ob, oc, bb, mz, mg, mb, A, G, hb, rfl⟩ := h.ex
  have k4 := cell_block hb.hp 4
  clear hb h
  go_enter Tryd.func62, Tryd.ntmps62
  go_wp2
  go_ret
  exact ⟨rfl, rfl⟩
set_option maxRecDepth 100000 in
theorem used_c (w : World) (h : PI w p L m) : Calls Tryd.prog 18 #[.pointer (some ⟨p, 0, none⟩)] w fun e w' => e = .returned (.int .i64 (used m.own : Int)) ∧ w = w' := by
  obtain ⟨ob, oc, bb, mz, mg, mb, A, G, hb, rfl⟩ := h.ex
  have k5 := cell_block hb.hp 5
  have hat := At.load_c p 5 (used m.own : Int) w k5
  have HA := Lib.hid hat
  clear hb h hat k5
  go_enter Tryd.func18, Tryd.ntmps18
  go_wp2_with (go_at_call 48; (with_reducible refine HA.out.mono ?_); rintro e w2 ⟨rfl, rfl⟩)
  go_ret
  exact ⟨rfl, rfl⟩
end Po
end Go.Proofs.YtpjimmdpcpcmoaaDoor
