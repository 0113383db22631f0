/- Package wire: the reader's Int, Text, End. -/
import Derived.Test.YtoojnpafcdaflaaRdu
import Derived.Test.YtoojnpafcdaflaaWrt
namespace Go.Proofs.Ytoojnpafcdaflaa
open Go Go.RowKit
set_option linter.unusedVariables false
set_option linter.unusedSimpArgs false

theorem end_any (b : Nat) (l : List UInt8) (bad : Bool) (w : World) (h : ReaderAt w b l bad) : Calls Try.prog 35 #[.pointer (some ⟨b, 0, none⟩)] w fun e w' => e = .returned (.bool (!bad && l.isEmpty)) ∧ w = w' := by
  obtain ⟨a, c, c0, c1, fz, g1, g2, _, _⟩ := h.cells
  have hl : l.length ≤ 9223372036854775807 := by omega
  clear h
  cases bad
  · cases hb : l.isEmpty
    · have hne : ((l.length : Int) == 0) = false := by
        cases l with
        | nil => cases hb
        | cons x l => simp; omega
      have HBE := Lib.hid hb; clear hb
      go_enter Try.func35, Try.ntmps35
      go_wp2
      go_ret
      exact ⟨rfl, rfl⟩
    · have hn : l = [] := List.isEmpty_iff.1 hb
      subst hn
      clear hb
      go_enter Try.func35, Try.ntmps35
      go_wp2
      go_ret
      exact ⟨rfl, rfl⟩
  · go_enter Try.func35, Try.ntmps35
    go_wp2
    go_ret
    exact ⟨rfl, rfl⟩

def unzig (x : Nat) : Int := if x % 2 = 0 then ((x / 2 : Nat) : Int) else -((x / 2 : Nat) : Int) - 1
theorem unzig_zig {i : Int} : unzig (zig i) = i := by unfold unzig zig; split <;> split <;> omega
theorem and1_64 (a : Nat) (ha : a < 18446744073709551616) : bits .and .u64 (a : Int) 1 = ((a % 2 : Nat) : Int) := by
  show IntKind.u64.wrap ((BitVec.ofInt 64 (a : Int) &&& BitVec.ofInt 64 1).toNat : Int) = _
  have e : BitVec.ofInt 64 1 = 1#64 := by decide
  rw [e, BitVec.toNat_and, ofInt64 a ha, show (1#64).toNat = 1 from rfl, Nat.and_one_is_mod, IntKind.wrap_u64]
  omega
theorem xor_m1 (a : Nat) (ha : a < 9223372036854775808) : bits .xor .i64 (a : Int) (-1) = -(a : Int) - 1 := by
  show IntKind.i64.wrap ((BitVec.ofInt 64 (a : Int) ^^^ BitVec.ofInt 64 (-1)).toNat : Int) = _
  have e : BitVec.ofInt 64 (-1) = BitVec.allOnes 64 := by decide
  rw [e, BitVec.xor_allOnes, BitVec.toNat_not, ofInt64 a (by omega), IntKind.wrap_i64]
  omega
theorem xor_00 (a : Nat) (ha : a < 9223372036854775808) : bits .xor .i64 (a : Int) 0 = (a : Int) := by
  show IntKind.i64.wrap ((BitVec.ofInt 64 (a : Int) ^^^ BitVec.ofInt 64 0).toNat : Int) = _
  have e : BitVec.ofInt 64 0 = 0#64 := by decide
  rw [e, BitVec.xor_zero, ofInt64 a (by omega), IntKind.wrap_i64]
  omega
theorem decGo_le (most : Nat) : ∀ (l : List UInt8) (i n : Nat) {x : Nat} {r : List UInt8}, decGo most i n l = some (x, r) → x ≤ most ∧ r.length ≤ l.length
  | [], _, _, x, r, h => by simp [decGo] at h
  | b :: l, i, n, x, r, h => by
    simp only [decGo] at h
    split at h
    · cases h
    · split at h
      · split at h
        · cases h
        · injection h with h
          injection h with h1 h2
          subst h1; subst h2
          exact ⟨by omega, by simp⟩
      · have := decGo_le most l _ _ h
        exact ⟨this.1, by simp; omega⟩
theorem decU_le {most : Nat} {l r : List UInt8} {x : Nat} (h : decU most l = some (x, r)) : x ≤ most ∧ r.length ≤ l.length := decGo_le most l 0 0 h

def decI (l : List UInt8) : Option (Int × List UInt8) := (decU 18446744073709551615 l).map fun p => (unzig p.1, p.2)
def RI (w : World) (b : Nat) (l : List UInt8) (e : Ending) (w' : World) : Prop :=
  (∃ x r, decI l = some (x, r) ∧ e = .returned (.int .i64 x) ∧ ReaderAt w' b r false ∧ Only (fun k => k = b) w w') ∨ (decI l = none ∧ e = .returned (.int .i64 0) ∧ ReaderAt w' b l true ∧ Only (fun k => k = b) w w')
set_option maxRecDepth 100000 in
theorem rint_any (b : Nat) (l : List UInt8) (w : World) (h : ReaderAt w b l false) : Calls Try.prog 33 #[.pointer (some ⟨b, 0, none⟩)] w (RI w b l) := by
  have hu : Calls Try.prog 32 #[.pointer (some ⟨b, 0, none⟩), .int .u64 18446744073709551615] w _ := ruint_any b l 18446744073709551615 w h (by decide)
  have HU := Lib.hid hu; clear hu h
  go_enter Try.func33, Try.ntmps33
  go_wp2_with fail
  refine HU.out.mono ?_
  rintro e w2 (⟨x, r, hd, rfl, h2, o2⟩ | ⟨hd, rfl, h2, o2⟩)
  · have hx := (decU_le hd).1
    have hand := and1_64 x (by omega)
    have hI : decI l = some (unzig x, r) := by unfold decI; rw [hd]; rfl
    have HI := Lib.hid hI; have H2 := Lib.hid h2; have O2 := Lib.hid o2; clear hd h2 o2 hI
    have hx0 : (0 : Int) ≤ (x : Int) := by omega
    have hxd : ((x / 2 : Nat) : Int) = (x : Int) / 2 := by omega
    rcases Nat.mod_two_eq_zero_or_one x with hp | hp
    · have hx2 := xor_00 (x / 2) (by omega)
      have hv : unzig x = ((x / 2 : Nat) : Int) := by unfold unzig; rw [if_pos hp]
      rw [hp] at hand
      rw [hxd] at hx2 hv
      have HV := Lib.hid hv; have HX := Lib.hid hx; clear hv hp hxd hx
      simp at hand
      have hq : (x : Int) / 2 ≤ 9223372036854775807 := by have := HX.out; omega
      go_wp2
      go_ret
      exact .inl ⟨_, _, HI.out, by rw [HV.out]; rfl, H2.out, O2.out⟩
    · have hx2 := xor_m1 (x / 2) (by omega)
      have hv : unzig x = -((x / 2 : Nat) : Int) - 1 := by unfold unzig; rw [if_neg (by omega)]
      rw [hp] at hand
      rw [hxd] at hx2 hv
      have HV := Lib.hid hv; have HX := Lib.hid hx; clear hv hp hxd hx
      simp at hand
      have hq : (x : Int) / 2 ≤ 9223372036854775807 := by have := HX.out; omega
      go_wp2
      go_ret
      exact .inl ⟨_, _, HI.out, by rw [HV.out]; rfl, H2.out, O2.out⟩
  · have hI : decI l = none := by unfold decI; rw [hd]; rfl
    have HI := Lib.hid hI; have H2 := Lib.hid h2; have O2 := Lib.hid o2; clear hd h2 o2 hI
    have hand := and1_64 0 (by decide)
    have hx2 := xor_00 0 (by decide)
    simp at hand hx2
    go_wp2
    go_ret
    exact .inr ⟨HI.out, rfl, H2.out, O2.out⟩
end Go.Proofs.Ytoojnpafcdaflaa
