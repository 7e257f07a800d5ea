/- dofferlaw04.PackWrites: the state of a round: the writer, what is wanted, the value's block; contracts on it. Condition where an error is answered: the sentinels read as laid. -/
import Derived.Test.YtjohljpcoodijaaDoorPackBack
namespace Go.Proofs.YtjohljpcoodijaaDoor
open Go Go.RowKit Kt
namespace Pk
set_option maxHeartbeats 1000000 in
set_option maxRecDepth 100000 in
theorem row_no {p : Nat} {g : List Nat} {bs : List UInt8} {ev : Value} (a : Option Addr) (c n : Nat) (l : List Int) (w : World) (h : OutS w p g bs (.iface 152 ev)) (hl : l.length = n) (hr : Rd w a (i64s l)) (hwf : n ≤ 1000) :
    Calls Tryd.prog 74 #[.pointer (some ⟨p, 0, none⟩), .slice a n c] w fun e w' => e = .returned (.tuple #[]) ∧ w = w' := by
  have H := Lib.hid h
  have HR := Lib.hid hr
  have HL := Lib.hid hl
  clear h hr hl
  go_enter Tryd.func74, Tryd.ntmps74
  go_wp2_with fail
  refine (onum_no _ w H.out).mono ?_
  rintro e w5 ⟨rfl, rfl⟩
  go_wp2_with fail
  go_loopw [5, 12] (fun _ i W => ∃ k : Nat, k ≤ n ∧ i = .int .i64 k ∧ w = W) (fun _ i _ => n - (intOf i).toNat)
  case atStart => exact ⟨0, Nat.zero_le _, rfl, rfl⟩
  case round =>
    obtain ⟨k, hk, rfl, rfl⟩ := hrel
    by_cases hlt : k < n
    · have hkl : k < l.length := by rw [HL.out]; exact hlt
      obtain ⟨b, off, ha, hc⟩ := HR.out.i64 k hkl
      generalize l[k] = x at *
      subst ha
      by_cases hx : x < -1
      · have hd : decide (x < -1) = true := by simpa using hx
        go_wp2_with fail
        refine (onum_no _ w H.out).mono ?_
        rintro e w6 ⟨rfl, rfl⟩
        go_wp2
        go_roundw
        case rel => exact ⟨k + 1, by omega, by go_num, by first | rfl | trivial⟩
        case measure => simp [intOf]; omega
      · have hd : decide (x < -1) = false := by simpa using hx
        by_cases hx2 : 2147483647 ≤ x
        · have hd2 : decide (2147483647 ≤ x) = true := by simpa using hx2
          go_wp2_with fail
          refine (onum_no _ w H.out).mono ?_
          rintro e w6 ⟨rfl, rfl⟩
          go_wp2
          go_roundw
          case rel => exact ⟨k + 1, by omega, by go_num, by first | rfl | trivial⟩
          case measure => simp [intOf]; omega
        · have hd2 : decide (2147483647 ≤ x) = false := by simpa using hx2
          go_wp2_with fail
          refine (onum_no _ w H.out).mono ?_
          rintro e w6 ⟨rfl, rfl⟩
          go_wp2
          go_roundw
          case rel => exact ⟨k + 1, by omega, by go_num, by first | rfl | trivial⟩
          case measure => simp [intOf]; omega
    · have : k = n := by omega
      subst this
      go_wp2
      go_end0
      exact ⟨rfl, rfl⟩

structure PwS (A : Nat → Addr) (w W : World) (p y : Nat) (c : Array Value) (eb : Bool) (bs : List UInt8) (vw : Value) (m : Nat) (xs : List UInt8) : Prop where
  ex : ∃ g, OSt A W p g eb bs ∧ (∀ j ∈ p :: g, w.heap.size ≤ j) ∧ (∀ j, vw.ownBlock = some j → j ∉ p :: g) ∧ y ∉ p :: g
  own : W.ownsRow w.heap.size 5 1 vw m (u8s xs)
  B : Below w.heap.size w W
  yb : W.heap[y]? = some (.cells c 104 (0, 0))
  yv : ∀ j, vw.ownBlock = some j → j ≠ y
variable {A : Nat → Addr} {w W W' : World} {p y : Nat} {c : Array Value} {eb : Bool} {bs : List UInt8} {vw : Value} {m : Nat} {xs : List UInt8} {g g' : List Nat}
theorem OSt.below (h : OSt A W p g eb bs) (hb : Below W.heap.size W W') : OSt A W' p g eb bs := by
  unfold OSt at h ⊢
  cases eb with
  | true => obtain ⟨bs', h1, h2⟩ := h; exact ⟨bs', h1, h2.below hb⟩
  | false => exact OutS.below h hb
theorem OSt.mod {S : List Nat} (h : OSt A W p g eb bs) (hb : Mod S W W') (hS : ∀ k ∈ p :: g, k ∉ S) : OSt A W' p g eb bs := by
  unfold OSt at h ⊢
  cases eb with
  | true => obtain ⟨bs', h1, h2⟩ := h; exact ⟨bs', h1, h2.mod hb hS⟩
  | false => exact OutS.mod h hb hS
theorem OSt.lts (h : OSt A W p g eb bs) : ∀ k ∈ p :: g, k < W.heap.size := by
  unfold OSt at h
  cases eb with
  | true => obtain ⟨bs', h1, h2⟩ := h; exact h2.lts
  | false => exact OutS.lts h
theorem PwS.below (h : PwS A w W p y c eb bs vw m xs) (hb : Below W.heap.size W W') : PwS A w W' p y c eb bs vw m xs := by
  obtain ⟨g, h1, h2⟩ := h.ex
  exact ⟨⟨g, h1.below hb, h2⟩, own_keep h.own hb, h.B.trans (hb.mono h.B.size), by rw [hb.block y (block_lt h.yb)]; exact h.yb, h.yv⟩
/-- The writer has worked. -/
theorem PwS.stepO (h : PwS A w W p y c eb bs vw m xs) (h2 : ∀ j ∈ p :: g, w.heap.size ≤ j) (h3 : ∀ j, vw.ownBlock = some j → j ∉ p :: g) (h4 : y ∉ p :: g) {eb' : Bool} {bs' : List UInt8} (ho : OSt A W' p g' eb' bs') (hM : Mod (p :: g) W W') (hF : Fr g' g W.heap.size) : PwS A w W' p y c eb' bs' vw m xs := by
  have hnew : ∀ j ∈ p :: g', j ∈ p :: g ∨ W.heap.size ≤ j := by
    intro j hj
    rcases List.mem_cons.1 hj with rfl | hj
    · left; simp
    · rcases hF j hj with h1 | h1
      · left; simp [h1]
      · exact .inr h1
  refine ⟨⟨g', ho, fun j hj => ?_, fun j hj hm => ?_, fun hm => ?_⟩, own_mod h.own hM h3, h.B.trans (hM.toBelow h.B.size h2), by rw [hM.block y (block_lt h.yb) h4]; exact h.yb, h.yv⟩
  · rcases hnew j hj with h1 | h1
    · exact h2 j h1
    · have := h.B.size; omega
  · rcases hnew j hm with h1 | h1
    · exact h3 j hj h1
    · have := (h.own.lt j hj).2; omega
  · rcases hnew y hm with h1 | h1
    · exact h4 h1
    · have := block_lt h.yb; omega
/-- What is wanted has grown. -/
theorem PwS.stepR (h : PwS A w W p y c eb bs vw m xs) {w7 : World} (hb : Below W.heap.size W w7) {ys : List UInt8} {k c7 : Nat} {a7 : Option Addr} (hyl : ys.length = k) (hyr : Rd w7 a7 (u8s ys)) (hyn : a7 = none → c7 = 0) (h63 : m + k ≤ 1000000000) :
    ∃ a' c' w8, (Builtin.append_ #[24, 24] 24 #[vw, .slice a7 k c7]).run Tryd.prog w7 = .ok (.slice a' (m + k) c') w8 ∧ PwS A w w8 p y c eb bs (.slice a' (m + k) c') (m + k) (xs ++ ys) := by
  obtain ⟨g, h1, h2, h3, h4⟩ := h.ex
  obtain ⟨a', c', w8, hrun, own, gr, hlie⟩ := Num.elU8.any w.heap.size (ty := 24) (own_keep h.own hb) k c7 (by simp [u8s, hyl]) hyr hyn (oneCell_u8s _) (by unfold maxLen; omega) (by omega) (by have := hb.size; have := h.B.size; omega)
  rw [← u8s_append] at own
  have hM : Mod vw.ownBlock.toList w7 w8 := Mod.of_grown gr
  have hws := hb.size
  refine ⟨a', c', w8, hrun, ⟨⟨g, (h1.below hb).mod hM (fun k hk hm => h3 k (by simpa using hm) hk), h2, fun j hj hm => ?_, h4⟩, own, (h.B.trans (hb.mono h.B.size)).trans (hM.toBelow (by have := h.B.size; omega) (fun k hk => (h.own.lt k (by simpa using hk)).1)), ?_, fun j hj => ?_⟩⟩
  · rcases hlie j hj with h5 | h5
    · exact h3 j h5 hm
    · have := h1.lts j hm; omega
  · rw [hM.block y (by have := block_lt h.yb; omega) (fun hm => h.yv y (by simpa using hm) rfl), hb.block y (block_lt h.yb)]; exact h.yb
  · rcases hlie j hj with h5 | h5
    · exact h.yv j h5
    · have := block_lt h.yb; omega

theorem PwS.stepW (h : PwS A w W p y c eb bs vw m xs) {w7 : World} (hb : Below W.heap.size W w7) {ys : List UInt8} {k c7 : Nat} {a7 : Option Addr} (hy : w7.ownsRow W.heap.size 5 1 (.slice a7 k c7) k (u8s ys)) (h63 : m + k ≤ 1000000000) :
    ∃ a' c' w8, (Builtin.append_ #[24, 24] 24 #[vw, .slice a7 k c7]).run Tryd.prog w7 = .ok (.slice a' (m + k) c') w8 ∧ PwS A w w8 p y c eb bs (.slice a' (m + k) c') (m + k) (xs ++ ys) :=
  h.stepR hb (by have := hy.1; simpa [u8s] using this) (Rd.own hy) (fun e => by subst e; exact (own_none hy).1) h63
theorem pNum (n : Nat) (h : PwS A w W p y c false bs vw m xs) (hn : n ≤ 2147483647) (hl : bs.length ≤ 900000) :
    Calls Tryd.prog 47 #[.pointer (some ⟨p, 0, none⟩), .int .i64 n] W fun e W' => e = .returned (.tuple #[]) ∧ PwS A w W' p y c false (bs ++ enc n) vw m xs := by
  obtain ⟨g, h1, h2, h3, h4⟩ := h.ex
  exact (onum_ok n W (show OutS W p g bs .nilIface from h1) hn (by omega)).mono fun _ _ ⟨e1, g', e2, e3, e4⟩ => ⟨e1, h.stepO h2 h3 h4 (g' := g') e2 e3 e4⟩
theorem pNumBad (n : Int) (h : PwS A w W p y c false bs vw m xs) (hn : n < 0 ∨ 2147483647 < n) (hl : bs.length ≤ 900000) (hs : Sent 152 w A pks) (bs' : List UInt8) :
    Calls Tryd.prog 47 #[.pointer (some ⟨p, 0, none⟩), .int .i64 n] W fun e W' => e = .returned (.tuple #[]) ∧ PwS A w W' p y c true bs' vw m xs := by
  obtain ⟨g, h1, h2, h3, h4⟩ := h.ex
  exact (onum_bad A n W (show OutS W p g bs .nilIface from h1) hn (hs.keep h.B)).mono fun _ _ ⟨e1, e2, e3⟩ => ⟨e1, h.stepO h2 h3 h4 (g' := g) ⟨bs, by omega, e2⟩ e3 (Fr.refl _ _)⟩
theorem pNumNo (v : Value) (h : PwS A w W p y c true bs vw m xs) (bs' : List UInt8) :
    Calls Tryd.prog 47 #[.pointer (some ⟨p, 0, none⟩), v] W fun e W' => e = .returned (.tuple #[]) ∧ PwS A w W' p y c true bs' vw m xs := by
  obtain ⟨g, h1, h2, h3, h4⟩ := h.ex
  obtain ⟨bs0, hb0, hO⟩ := id h1
  exact (onum_no v W hO).mono fun _ _ ⟨e1, e2⟩ => ⟨e1, by subst e2; exact ⟨⟨g, ⟨bs0, hb0, hO⟩, h2, h3, h4⟩, h.own, h.B, h.yb, h.yv⟩⟩
theorem PwS.no (h : PwS A w W p y c true bs vw m xs) (bs' : List UInt8) : PwS A w W p y c true bs' vw m xs := by
  obtain ⟨g, h1, h2⟩ := h.ex
  exact ⟨⟨g, h1, h2⟩, h.own, h.B, h.yb, h.yv⟩
theorem pByte (n : Int) (h : PwS A w W p y c false bs vw m xs) (hl : bs.length ≤ 900000) :
    Calls Tryd.prog 71 #[.pointer (some ⟨p, 0, none⟩), .int .u8 (IntKind.u8.wrap n)] W fun e W' => e = .returned (.tuple #[]) ∧ PwS A w W' p y c false (bs ++ [byteOf n]) vw m xs := by
  obtain ⟨g, h1, h2, h3, h4⟩ := h.ex
  have hbv : ((byteOf n).toNat : Int) = IntKind.u8.wrap n := by
    rw [IntKind.wrap_u8', byteOf, ofNat_toNat (by omega)]
    omega
  exact (byte_ok (byteOf n) _ (by rw [hbv]) W (show OutS W p g bs .nilIface from h1) (by omega)).mono fun _ _ ⟨e1, g', e2, e3, e4⟩ => ⟨e1, h.stepO h2 h3 h4 (g' := g') e2 e3 e4⟩
theorem pByteNo (n : Int) (h : PwS A w W p y c true bs vw m xs) (bs' : List UInt8) :
    Calls Tryd.prog 71 #[.pointer (some ⟨p, 0, none⟩), .int .u8 n] W fun e W' => e = .returned (.tuple #[]) ∧ PwS A w W' p y c true bs' vw m xs := by
  obtain ⟨g, h1, h2, h3, h4⟩ := h.ex
  obtain ⟨bs0, hb0, hO⟩ := id h1
  exact (byte_no n W hO).mono fun _ _ ⟨e1, e2⟩ => ⟨e1, (h.below e2).no bs'⟩
theorem pBytes (a : Option Addr) (k cp : Nat) (l : List UInt8) (h : PwS A w W p y c false bs vw m xs) (hk : l.length = k) (hr : Rd W a (u8s l)) (hra : Rd w a (u8s l)) (hno : a = none → cp = 0) (hk3 : k ≤ 300) (hl : bs.length ≤ 900000) :
    Calls Tryd.prog 72 #[.pointer (some ⟨p, 0, none⟩), .slice a k cp] W fun e W' => e = .returned (.tuple #[]) ∧ PwS A w W' p y c false (bs ++ (enc k ++ l)) vw m xs := by
  obtain ⟨g, h1, h2, h3, h4⟩ := h.ex
  exact (bytes_ok a cp k l W (show OutS W p g bs .nilIface from h1) hk hr (fun hne q hq hm => by obtain ⟨p', hp', hlt⟩ := hra.lt hne; rw [hp'] at hq; obtain rfl := Option.some.inj hq; have := h2 _ hm; omega) hno (by omega) (by omega)).mono fun _ _ ⟨e1, g', e2, e3, e4⟩ => ⟨e1, h.stepO h2 h3 h4 (g' := g') e2 e3 e4⟩
theorem pBytesNo (a : Option Addr) (k cp : Nat) (h : PwS A w W p y c true bs vw m xs) (bs' : List UInt8) :
    Calls Tryd.prog 72 #[.pointer (some ⟨p, 0, none⟩), .slice a k cp] W fun e W' => e = .returned (.tuple #[]) ∧ PwS A w W' p y c true bs' vw m xs := by
  obtain ⟨g, h1, h2, h3, h4⟩ := h.ex
  obtain ⟨bs0, hb0, hO⟩ := id h1
  exact (bytes_no a cp k W hO).mono fun _ _ ⟨e1, e2⟩ => ⟨e1, by subst e2; exact h.no bs'⟩
theorem pText (l : List UInt8) (k : Nat) (h : PwS A w W p y c false bs vw m xs) (hk : l.length = k) (hk3 : k ≤ 300) (hl : bs.length ≤ 900000) :
    Calls Tryd.prog 73 #[.pointer (some ⟨p, 0, none⟩), .string (Str l)] W fun e W' => e = .returned (.tuple #[]) ∧ PwS A w W' p y c false (bs ++ (enc k ++ l)) vw m xs := by
  subst hk
  obtain ⟨g, h1, h2, h3, h4⟩ := h.ex
  exact (text_ok l W (show OutS W p g bs .nilIface from h1) (by omega) (by omega)).mono fun _ _ ⟨e1, g', e2, e3, e4⟩ => ⟨e1, h.stepO h2 h3 h4 (g' := g') e2 e3 e4⟩
theorem pTextNo (l : List UInt8) (h : PwS A w W p y c true bs vw m xs) (hk3 : l.length ≤ 300) (bs' : List UInt8) :
    Calls Tryd.prog 73 #[.pointer (some ⟨p, 0, none⟩), .string (Str l)] W fun e W' => e = .returned (.tuple #[]) ∧ PwS A w W' p y c true bs' vw m xs := by
  obtain ⟨g, h1, h2, h3, h4⟩ := h.ex
  obtain ⟨bs0, hb0, hO⟩ := id h1
  exact (text_no l W hO (by omega)).mono fun _ _ ⟨e1, e2⟩ => ⟨e1, (h.below e2).no bs'⟩
theorem pRow (a : Option Addr) (k cp : Nat) (l : List Int) (h : PwS A w W p y c false bs vw m xs) (hk : l.length = k) (hr : Rd W a (i64s l)) (hra : Rd w a (i64s l)) (hk3 : k ≤ 60) (hl : bs.length ≤ 900000) (hs : Sent 152 w A pks) :
    Calls Tryd.prog 74 #[.pointer (some ⟨p, 0, none⟩), .slice a k cp] W fun e W' => e = .returned (.tuple #[]) ∧ PwS A w W' p y c (l.any nbad) (bs ++ encRow l) vw m xs := by
  obtain ⟨g, h1, h2, h3, h4⟩ := h.ex
  exact (row_c A a cp k l W (show OutS W p g bs .nilIface from h1) hk hr (fun hne q hq hm => by obtain ⟨p', hp', hlt⟩ := hra.lt hne; rw [hp'] at hq; obtain rfl := Option.some.inj hq; have := h2 _ hm; omega) (by omega) hl w hs h.B h2).mono fun _ _ ⟨e1, g', e2, e3, e4⟩ => ⟨e1, h.stepO h2 h3 h4 (g' := g') e2 e3 e4⟩
theorem pRowNo (a : Option Addr) (k cp : Nat) (l : List Int) (h : PwS A w W p y c true bs vw m xs) (hk : l.length = k) (hr : Rd W a (i64s l)) (hk3 : k ≤ 60) (bs' : List UInt8) :
    Calls Tryd.prog 74 #[.pointer (some ⟨p, 0, none⟩), .slice a k cp] W fun e W' => e = .returned (.tuple #[]) ∧ PwS A w W' p y c true bs' vw m xs := by
  obtain ⟨g, h1, h2, h3, h4⟩ := h.ex
  obtain ⟨bs0, hb0, hO⟩ := id h1
  exact (row_no a cp k l W hO hk hr (by omega)).mono fun _ _ ⟨e1, e2⟩ => ⟨e1, by subst e2; exact h.no bs'⟩
end Pk
end Go.Proofs.YtjohljpcoodijaaDoor
