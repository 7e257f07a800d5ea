import Derived.Test.YteekonojmpihlaaDoorQNmRSpread
/- The document's Spread. -/
namespace Go.Proofs.YteekonojmpihlaaDoor
namespace Kt
end Kt
namespace St
end St
namespace Sp
end Sp
namespace Bk
end Bk
namespace Tr
end Tr
open Go Go.RowKit Kt St Sp Bk Tr
namespace Bo
theorem rs_all (w0 : World) (q : Nat) (ra : Option Addr) (rc rn : Nat) (X : List Nat) (Ts : Bks) (hrb : RB w0 q ra rc rn X Ts) :
    ∀ (f : Nat) (path : List (List UInt8)) (lv many : Nat) (n : Nd) (W : World) (pa : Option Addr) (pn pc : Nat), RsC w0 (erB Ts) f path lv many n W pa pn pc → Calls Tryd.prog 28 #[.pointer (some ⟨q, 0, none⟩), nv n, .int .i64 (lv : Int), .int .i64 (many : Int), .slice pa pn pc] W (RsP (spr (erB Ts) f path lv many (er n)) W) := by
  intro f
  induction f with
  | zero => intro path lv many n W pa pn pc hC; exact absurd hC.hf (Nat.not_lt_zero _)
  | succ f ih =>
    intro path lv many n W pa pn pc hC
    obtain ⟨k, s, mn, mx, t, a, c, ks⟩ := n
    by_cases hk : k = 5
    · cases hl : lkS Ts t with
      | none => exact rs_none w0 q f ra rc rn X Ts hrb path lv many W pa pn pc hC hk hl
      | some m0 =>
        by_cases hin : t ∈ path
        · exact rs_loop w0 q f ra rc rn X Ts hrb path lv many W pa pn pc hC hk m0 hl hin
        · exact rs_name w0 q f ra rc rn X Ts hrb path lv many W pa pn pc hC hk m0 hl hin ih
    · by_cases h24 : 24 < lv
      · exact rs_deep w0 q f ra rc rn X Ts hrb path lv many W pa pn pc hC hk h24
      · by_cases h6 : 600 ≤ many
        · exact rs_many w0 q f ra rc rn X Ts hrb path lv many W pa pn pc hC hk h24 h6
        · exact rs_node w0 q f ra rc rn X Ts hrb path lv many W pa pn pc hC hk h24 h6 ih
/-- From the top. -/
theorem rspread_c (w : World) (q : Nat) (X : List Nat) (B : Bks) (h : RK w q X B) (n : Nd) (hI : Is w.heap.size w n) (hr : rgt n = true) :
    Calls Tryd.prog 28 #[.pointer (some ⟨q, 0, none⟩), nv n, .int .i64 1, .int .i64 0, .slice none 0 0] w (RsP (spr B 64 [] 1 0 (er n)) w) := by
  obtain ⟨a, c, rn, Ts, h1, rfl⟩ := h.ex
  have := rs_all w q a c rn X Ts h1 64 [] 1 0 n w none 0 0 ⟨Below.refl _ _, Rd.nil _ _, rfl, fun _ => rfl, List.nodup_nil, (fun x hx => by cases hx), by decide, by decide, by have h2 := h1.le; have h3 := h1.hn; simp [erB]; omega, hI, rgt_sz hr⟩
  exact this
end Bo
end Go.Proofs.YteekonojmpihlaaDoor
