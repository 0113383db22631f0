/- Package link: begin: a reader of a frame of a kind, behind its client. -/
import Derived.Test.YtoojnpafcdaflaaTrn
import Derived.Test.YtoojnpafcdaflaaVrp
namespace Go.Proofs.Ytoojnpafcdaflaa
open Go Go.RowKit
set_option linter.unusedVariables false
set_option linter.unusedSimpArgs false
set_option maxRecDepth 100000

def RBeg (w : World) (l : List UInt8) (kind : Nat) (e : Ending) (w' : World) : Prop :=
  Only (fun _ => False) w w' ∧
  ((∃ c : Int, OpenCode l c ∧ c ≠ 0 ∧ e = .returned (.tuple #[.pointer none, .int .i64 0, .int .i64 c])) ∨
   (∃ m, l = sealed m ∧ (∀ r, decU kind m ≠ some (kind, r)) ∧ e = .returned (.tuple #[.pointer none, .int .i64 0, .int .i64 3])) ∨
   (∃ (m r1 : List UInt8) (b c : Nat) (r2 : List UInt8) (β : Bool), l = sealed m ∧ decU kind m = some (kind, r1) ∧ e = .returned (.tuple #[.pointer (some ⟨b, 0, none⟩), .int .i64 (c : Int), .int .i64 0]) ∧ w.heap.size ≤ b ∧ ReaderAt w' b r2 β ∧ c ≤ 4 ∧ (β = false → decU 4 r1 = some (c, r2)) ∧ (β = true → c = 0 ∧ decU 4 r1 = none)))
set_option maxHeartbeats 4000000 in
theorem begin_any (v : Value) (l : List UInt8) (kind : Nat) (w : World) (h : Bytes w v l) (hl : l.length ≤ 1000000000) (hk : 1 ≤ kind) (hk2 : kind ≤ 100) :
    Calls Try.prog 73 #[v, .int .u64 kind] w (RBeg w l kind) := by
  have ho := wOpen v l w h hl
  have hk0 : (1 : Int) ≤ (kind : Int) := by omega
  have hk1 : (kind : Int) ≤ 100 := by omega
  have HO := Lib.hid ho; clear ho h
  go_enter Try.func73, Try.ntmps73
  go_wp2_with fail
  refine HO.out.mono ?_
  rintro e w1 hr
  obtain ⟨o1, ⟨h1, h2⟩ | ⟨h1, h2, h3⟩ | ⟨m, b, h1, h2, h3, h4⟩⟩ := hr
  · have HF := Lib.hid (show RBeg w l kind (.returned (.tuple #[.pointer none, .int .i64 0, .int .i64 3])) w1 from ⟨o1, .inl ⟨3, .inl ⟨h1, rfl⟩, by decide, rfl⟩⟩)
    subst h2
    clear o1 h1
    go_wp2_with fail
    go_ret3
    exact HF.out
  · have HF := Lib.hid (show RBeg w l kind (.returned (.tuple #[.pointer none, .int .i64 0, .int .i64 14])) w1 from ⟨o1, .inl ⟨14, .inr (.inl ⟨h1, h2, rfl⟩), by decide, rfl⟩⟩)
    subst h3
    clear o1 h1 h2
    go_wp2_with fail
    go_ret3
    exact HF.out
  · subst h2
    have hu := ruint_b b kind m false w1 h4 (by omega)
    have O1 := Lib.hid o1; have H1 := Lib.hid h1; have HU := Lib.hid hu; have HB := Lib.hid h3; clear o1 h1 hu h3 h4
    go_wp2_with fail
    refine HU.out.mono ?_
    rintro e w2 ⟨x, r1, β1, rfl, hx, h2, o2, a1, a2⟩
    have ho2 : Only (fun _ => False) w w2 := O1.out.trans' o2 (fun k hk e => by have := HB.out; omega)
    by_cases hxk : x = kind
    · subst hxk
      have hβ : β1 = false := by
        cases β1 with
        | false => rfl
        | true => have := (a2 rfl).1; omega
      subst hβ
      have hd := (a1 rfl).2
      have t1 : ((x : Int) != (x : Int)) = false := by simp
      have hu2 := ruint_b b 4 r1 false w2 h2 (by decide)
      have H2 := Lib.hid h2; have O2 := Lib.hid ho2; have HD := Lib.hid hd; have HU2 := Lib.hid hu2; clear h2 o2 ho2 hd a1 a2 hu2 HU
      go_wp2_with fail
      refine (bad_any b r1 false w2 H2.out).mono ?_
      rintro e w9 ⟨rfl, rfl⟩
      go_wp2_with fail
      refine HU2.out.mono ?_
      rintro e w3 ⟨c, r2, β2, rfl, hc, h3, o3, b1, b2⟩
      have hfin : RBeg w l x (.returned (.tuple #[.pointer (some ⟨b, 0, none⟩), .int .i64 (c : Int), .int .i64 0])) w3 :=
        ⟨O2.out.trans' o3 (fun k hk e => by have := HB.out; have := O1.out.size; omega), .inr (.inr ⟨m, r1, b, c, r2, β2, H1.out, HD.out, rfl, Nat.le_trans (Nat.le_refl _) HB.out, h3, hc, fun hb => (b1 hb).2, fun hb => ⟨(b2 hb).1, (b2 hb).2.resolve_left (by simp)⟩⟩)⟩
      have hc0 : (0 : Int) ≤ (c : Int) := by omega
      have hc1 : (c : Int) ≤ 4 := by omega
      have HF := Lib.hid hfin; clear hfin b1 b2 h3 o3 hc
      go_wp2_with fail
      go_ret3
      exact HF.out
    · have t1 : ((x : Int) != (kind : Int)) = true := by simp; omega
      have hno : ∀ r, decU kind m ≠ some (kind, r) := fun r e => by
        cases β1 with
        | false =>
          have := (a1 rfl).2
          rw [e] at this
          injection this with this
          injection this with this
          exact hxk this.symm
        | true =>
          rcases (a2 rfl).2 with h | h
          · cases h
          · rw [e] at h; cases h
      have HF := Lib.hid (show RBeg w l kind (.returned (.tuple #[.pointer none, .int .i64 0, .int .i64 3])) w2 from ⟨ho2, .inr (.inl ⟨m, H1.out, hno, rfl⟩)⟩)
      have hx0 : (0 : Int) ≤ (x : Int) := by omega
      clear ho2 hno a1 a2 h2 o2 hxk
      go_wp2_with fail
      go_ret3
      exact HF.out
end Go.Proofs.Ytoojnpafcdaflaa
