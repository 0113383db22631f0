/- The reference's disk (columbaryref01): begin, Read, Sync's test. -/
import Derived.Test.YtlkglhgndfhjeaaRk
namespace Go.Proofs.Ytlkglhgndfhjeaa
open Go Go.RowKit
set_option linter.unusedVariables false
set_option linter.unusedSimpArgs false
set_option maxRecDepth 100000

theorem rkBegin (F : Nat → Prop) (b : Nat) (st : Dk) (w : World) (h : RkAt w F b st) (hops : 0 ≤ st.ops ∧ st.ops ≤ 1000000000) (harm : 0 ≤ st.armed ∧ st.armed ≤ 9223372036854775807) :
    Calls Try.prog 50 #[.pointer (some ⟨b, 0, none⟩)] w fun e w' => e = .returned (.int .i64 (if (begun st).off then 12 else 0)) ∧ RkAt w' F b (begun st) ∧ Only (fun k => k = b) w w' := by
  obtain ⟨aS, aL, cS, cL, c0, c1, c2, c3, c4, fz, _, _⟩ := h.cells
  have H := Lib.hid h; clear h
  by_cases h1 : 0 < st.armed
  · by_cases h2 : st.armed = 1
    · have hE : begun st = { st with ops := st.ops + 1, armed := st.armed - 1, off := true } := by simp [begun, h2]
      rw [hE]; clear hE
      have e1 : (st.armed - 1 == 0) = true := by simp [h2]
      have e2 : decide (0 < st.armed) = true := by simpa using h1
      have e3 : IntKind.i64.wrap (st.armed - 1) = st.armed - 1 := by rw [IntKind.wrap_i64]; omega
      have e4 : IntKind.i64.wrap (st.ops + 1) = st.ops + 1 := by rw [IntKind.wrap_i64]; omega
      clear h2
      go_enter Try.func50, Try.ntmps50
      go_wp2_with fail
      go_ret
      exact ⟨rfl, ((H.out.setOps _).setArmed _).setOff _, by (repeat' (first | (with_reducible exact Only.refl _ _) | (with_reducible assumption) | (with_reducible refine Only.drew ?_) | (with_reducible refine Only.drewN ?_ _) | (with_reducible refine Only.alloc ?_ _) | (with_reducible refine Only.setCell ?_ ?_ _) | (first | exact Or.inl rfl | exact Or.inl (Or.inl rfl) | exact Or.inl (Or.inr rfl) | (simp; omega) | (simp; done) | omega)))⟩
    · have hE : begun st = { st with ops := st.ops + 1, armed := st.armed - 1, off := false } := by
        have : ¬ st.armed - 1 = 0 := by omega
        simp [begun, h1, this]
      rw [hE]; clear hE
      have e1 : (st.armed - 1 == 0) = false := by simp; omega
      have e2 : decide (0 < st.armed) = true := by simpa using h1
      have e3 : IntKind.i64.wrap (st.armed - 1) = st.armed - 1 := by rw [IntKind.wrap_i64]; omega
      have e4 : IntKind.i64.wrap (st.ops + 1) = st.ops + 1 := by rw [IntKind.wrap_i64]; omega
      go_enter Try.func50, Try.ntmps50
      go_wp2_with fail
      go_ret
      exact ⟨rfl, ((H.out.setOps _).setArmed _).setOff _, by (repeat' (first | (with_reducible exact Only.refl _ _) | (with_reducible assumption) | (with_reducible refine Only.drew ?_) | (with_reducible refine Only.drewN ?_ _) | (with_reducible refine Only.alloc ?_ _) | (with_reducible refine Only.setCell ?_ ?_ _) | (first | exact Or.inl rfl | exact Or.inl (Or.inl rfl) | exact Or.inl (Or.inr rfl) | (simp; omega) | (simp; done) | omega)))⟩
  · have hE : begun st = { st with ops := st.ops + 1 } := by simp [begun, h1]
    rw [hE]; clear hE
    have e2 : decide (0 < st.armed) = false := by simpa using h1
    have e4 : IntKind.i64.wrap (st.ops + 1) = st.ops + 1 := by rw [IntKind.wrap_i64]; omega
    cases ho : st.off
    · rw [ho] at c4
      go_enter Try.func50, Try.ntmps50
      go_wp2_with fail
      go_ret
      exact ⟨by simp [ho], by simpa [ho] using H.out.setOps _, by (repeat' (first | (with_reducible exact Only.refl _ _) | (with_reducible assumption) | (with_reducible refine Only.drew ?_) | (with_reducible refine Only.drewN ?_ _) | (with_reducible refine Only.alloc ?_ _) | (with_reducible refine Only.setCell ?_ ?_ _) | (first | exact Or.inl rfl | exact Or.inl (Or.inl rfl) | exact Or.inl (Or.inr rfl) | (simp; omega) | (simp; done) | omega)))⟩
    · rw [ho] at c4
      go_enter Try.func50, Try.ntmps50
      go_wp2_with fail
      go_ret
      exact ⟨by simp [ho], by simpa [ho] using H.out.setOps _, by (repeat' (first | (with_reducible exact Only.refl _ _) | (with_reducible assumption) | (with_reducible refine Only.drew ?_) | (with_reducible refine Only.drewN ?_ _) | (with_reducible refine Only.alloc ?_ _) | (with_reducible refine Only.setCell ?_ ?_ _) | (first | exact Or.inl rfl | exact Or.inl (Or.inl rfl) | exact Or.inl (Or.inr rfl) | (simp; omega) | (simp; done) | omega)))⟩
/-- The last write at a place. -/
theorem settled_hit {s : List (List UInt8)} {l : List (Int × List UInt8)} {m i : Nat} (hm : m < l.length) (hi : i < s.length) (he : l[m].1 = (i : Int)) : (settled s (l.take (m + 1))).getD i [] = l[m].2 := by
  rw [settled_step s l m hm, he, Int.toNat_natCast]
  rw [List.getD_eq_getElem?_getD, List.getElem?_set_self (by rw [settled_len]; exact hi)]
  rfl
theorem settled_miss {s : List (List UInt8)} {l : List (Int × List UInt8)} {m i : Nat} (hm : m < l.length) (h0 : 0 ≤ l[m].1) (he : l[m].1 ≠ (i : Int)) : (settled s (l.take (m + 1))).getD i [] = (settled s (l.take m)).getD i [] := by
  rw [settled_step s l m hm]
  rw [List.getD_eq_getElem?_getD, List.getElem?_set_ne (by omega), ← List.getD_eq_getElem?_getD]
theorem rkRead_bad (F : Nat → Prop) (b : Nat) (st : Dk) (i : Int) (w : World) (h : RkAt w F b st) (hl : lookE st i ≠ 0) :
    Calls Try.prog 30 #[.pointer (some ⟨b, 0, none⟩), .int .i64 i] w fun e w' => e = .returned (.tuple #[.string ⟨#[]⟩, .int .i64 (lookE st i)]) ∧ w = w' := by
  obtain ⟨aS, aL, cS, cL, c0, c1, c2, c3, c4, fz, _, _⟩ := h.cells
  have hn := h.2.1
  clear h
  by_cases h1 : i < 0
  · have hE : lookE st i = 1 := by simp [lookE, h1]
    rw [hE]; clear hE hl
    go_enter Try.func30, Try.ntmps30
    go_wp2_with fail
    go_ret2
    exact ⟨rfl, rfl⟩
  · by_cases h2 : (st.sure.length : Int) ≤ i
    · have hE : lookE st i = 1 := by simp [lookE, h2]
      rw [hE]; clear hE hl
      go_enter Try.func30, Try.ntmps30
      go_wp2_with fail
      go_ret2
      exact ⟨rfl, rfl⟩
    · cases ho : st.off
      · exact absurd (by simp [lookE, h1, h2, ho]) hl
      · have hE : lookE st i = 12 := by simp [lookE, h1, h2, ho]
        rw [hE]; clear hE hl
        rw [ho] at c4
        go_enter Try.func30, Try.ntmps30
        go_wp2_with fail
        go_ret2
        exact ⟨rfl, rfl⟩
theorem rkRead (F : Nat → Prop) (b : Nat) (st : Dk) (i : Nat) (w : World) (h : RkAt w F b st) (hi : i < st.sure.length) (ho : st.off = false) (hw : st.wait.length ≤ 1000000000) (hix : ∀ p ∈ st.wait, 0 ≤ p.1) :
    Calls Try.prog 30 #[.pointer (some ⟨b, 0, none⟩), .int .i64 i] w fun e w' => e = .returned (.tuple #[.string ⟨((view st).getD i []).toArray⟩, .int .i64 0]) ∧ w = w' := by
  obtain ⟨aS, aL, cS, cL, c0, c1, c2, c3, c4, fz, hS, hL⟩ := h.cells
  rw [ho] at c4
  have hn := h.2.1
  have hi0 : (0 : Int) ≤ (i : Int) := by omega
  have hi1 : (i : Int) < (st.sure.length : Int) := by omega
  obtain ⟨gs, rfl, _, hs⟩ := sure_cell hS rfl hi
  have hv : view st = settled st.sure (st.wait.take st.wait.length) := by rw [List.take_length]; rfl
  obtain ⟨V, hV⟩ : ∃ V, V = (view st).getD i [] := ⟨_, rfl⟩
  have hV2 : V = (settled st.sure (st.wait.take st.wait.length)).getD i [] := by rw [hV, hv]
  rw [← hV]
  have hs2 : (settled st.sure (st.wait.take 0)).getD i [] = st.sure[i] := by
    rw [List.getD_eq_getElem?_getD]; simp [settled, hi]
  obtain ⟨s0, hs0⟩ : ∃ s0, s0 = st.sure[i] := ⟨_, rfl⟩
  rw [← hs0] at hs hs2
  have HL := Lib.hid hL; have HV2 := Lib.hid hV2; have HS2 := Lib.hid hs2; have HIX := Lib.hid hix; have HI := Lib.hid hi
  clear h hS hL hv hV hV2 hs2 hix hs0 hi
  go_enter Try.func30, Try.ntmps30
  go_wp2_with fail
  go_loopw [6] (fun v wr => ∃ m : Nat, v = .int .i64 ((m : Int) - 1) ∧ m ≤ st.wait.length ∧ Hid (V = (settled st.sure (st.wait.take m)).getD i []) ∧ w = wr) (fun v _ => (intOf v + 1).toNat)
  case atStart => exact ⟨st.wait.length, by simp [go_sem], Nat.le_refl _, HV2, rfl⟩
  case round =>
    obtain ⟨m, rfl, hm, HV, rfl⟩ := hrel
    by_cases hp : 0 < m
    · obtain ⟨k, rfl⟩ : ∃ k, m = k + 1 := ⟨m - 1, by omega⟩
      have hkl : k < st.wait.length := by omega
      have e1 : ((k + 1 : Nat) : Int) - 1 = (k : Int) := by omega
      rw [e1]
      have t1 : decide ((0 : Int) ≤ (k : Int)) = true := by simp
      have hk0 : (0 : Int) ≤ (k : Int) := by omega
      have hk1 : (k : Int) < (st.wait.length : Int) := by omega
      obtain ⟨gw, rfl, _, d0, d1⟩ := wait_cell HL.out rfl hkl
      have hx := HIX.out _ (List.getElem_mem hkl)
      by_cases he : st.wait[k].1 = (i : Int)
      · have hr : V = st.wait[k].2 := HV.out.trans (settled_hit hkl HI.out he)
        rw [he] at d0
        rw [← hr] at d1
        clear hr he hx
        have t2 : ((i : Int) == (i : Int)) = true := by simp
        go_wp2_with fail
        go_ret2
        exact ⟨rfl, rfl⟩
      · have hr : V = (settled st.sure (st.wait.take k)).getD i [] := HV.out.trans (settled_miss hkl hx he)
        have HR := Lib.hid hr
        have t2 : (st.wait[k].1 == (i : Int)) = false := by simpa using he
        generalize st.wait[k].1 = q at *
        clear hr hx
        go_wp2_with fail
        go_roundw
        case rel => exact ⟨k, by simp [go_sem], by omega, HR, by first | rfl | trivial⟩
        case measure => simp [intOf]
    · obtain rfl : m = 0 := by omega
      have e1 : ((0 : Nat) : Int) - 1 = -1 := by omega
      rw [e1]
      have hr : V = s0 := HV.out.trans HS2.out
      rw [← hr] at hs
      clear hr
      go_wp2_with fail
      go_ret2
      exact ⟨rfl, rfl⟩
end Go.Proofs.Ytlkglhgndfhjeaa
