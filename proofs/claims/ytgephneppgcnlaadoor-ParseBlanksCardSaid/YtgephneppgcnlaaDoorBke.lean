/- Where a token ends, as the law has it: columbarylaw06.end. -/
import Derived.Test.YtgephneppgcnlaaDoorBkp
import Derived.Test.YtgephneppgcnlaaDoorTks
namespace Go.Proofs.YtgephneppgcnlaaDoor
open Go Go.RowKit
set_option linter.unusedVariables false
set_option linter.unusedSimpArgs false

theorem qE_drop (s : ByteArray) {k : Nat} (hk : k < s.size) :
    (s[k].toNat = 92 → k + 1 < s.size → qE (s.data.toList.drop k) = qE (s.data.toList.drop (k + 2)) + 2) ∧
    (s[k].toNat = 92 → k + 1 = s.size → qE (s.data.toList.drop k) = 1) ∧
    (s[k].toNat = 34 → qE (s.data.toList.drop k) = 1) ∧
    (s[k].toNat ≠ 92 → s[k].toNat ≠ 34 → qE (s.data.toList.drop k) = qE (s.data.toList.drop (k + 1)) + 1) := by
  have e := drop_get s k hk
  rw [e]
  refine ⟨fun h h1 => ?_, fun h h1 => ?_, fun h => qE_quote _ h, fun h1 h2 => qE_else _ h1 h2⟩
  · rw [drop_get s (k + 1) h1, qE_esc _ _ h]
  · rw [drop_all s (k + 1) (by omega), qE_one]
set_option maxRecDepth 100000 in
set_option maxHeartbeats 4000000 in
theorem end_any (t : Tok) (s : ByteArray) (w : World) (hs : s.size ≤ 2000) (ha : t.at_ ≤ 2000) (hl : t.text.length ≤ 1000000) (h3 : t.kind = 3 → t.at_ + 1 ≤ s.size) :
    Calls Tryd.prog 18 #[.agg #[.int .u8 (t.kind : Int), .string ⟨t.text.toArray⟩, .int .i64 t.n, .int .i64 (t.at_ : Int)], .string s] w (fun e w' => e = .returned (.int .i64 (endT s.data.toList t : Int)) ∧ Only (fun _ => False) w w') := by
  obtain ⟨kd, tx, nn, at_⟩ := t
  simp only at ha hl h3 ⊢
  obtain ⟨E, hE⟩ : ∃ E, endT s.data.toList ⟨kd, tx, nn, at_⟩ = E := ⟨_, rfl⟩
  rw [hE]
  obtain ⟨w1, hw1⟩ : ∃ x, w.alloc (.cells #[.int .u8 (kd : Int), .string ⟨tx.toArray⟩, .int .i64 nn, .int .i64 (at_ : Int)] 60) = x := ⟨_, rfl⟩
  obtain ⟨B, hB⟩ : ∃ B, w.heap.size = B := ⟨_, rfl⟩
  have hbx : w1.heap[B]? = some (.cells #[.int .u8 (kd : Int), .string ⟨tx.toArray⟩, .int .i64 nn, .int .i64 (at_ : Int)] 60 (0, 0)) := by rw [← hw1, ← hB]; exact heap_new _ _
  have ho : Only (fun _ => False) w w1 := by rw [← hw1]; exact (Only.refl _ w).alloc _
  obtain ⟨y0, y1, y2, y3, yz⟩ := boxN4 hbx
  have HW1 := Lib.hid hw1; have HB := Lib.hid hB; have HO := Lib.hid ho; have HE := Lib.hid hE
  clear hw1 hB hbx ho hE
  by_cases hk : kd = 3
  · have hE := HE.out
    unfold endT at hE
    rw [if_pos hk] at hE
    have hE : at_ + 1 + qE (s.data.toList.drop (at_ + 1)) = E := hE
    have H0 := Lib.hid hE
    have h4 : at_ + 1 ≤ s.size := h3 hk
    have t0 : ((kd : Int) != 3) = false := by simp; omega
    clear hE h3 HE hk
    go_enter Tryd.func18, Tryd.ntmps18
    go_upto_region 1 with (fail)
    rw [HB.out, HW1.out]
    clear HB HW1
    go_wp2_with fail
    clear y0 y1 y2 y3 yz
    go_loopw [5] (fun x wr => wr = w1 ∧ ∃ k : Nat, x = .int .i64 (k : Int) ∧ k ≤ s.size + 1 ∧ Hid ((k ≤ s.size ∧ k + qE (s.data.toList.drop k) = E) ∨ (k = s.size + 1 ∧ E = s.size))) (fun x _ => s.size + 1 - (intOf x).toNat)
    case atStart => exact ⟨rfl, at_ + 1, by simp, by omega, Lib.hid (.inl ⟨h4, H0.out⟩)⟩
    case round =>
      obtain ⟨rfl, k, rfl, hk, HK⟩ := hrel
      by_cases hlt : k < s.size
      · have t1 : decide ((k : Int) < (s.size : Int)) = true := decide_eq_true (by omega)
        have hki : (k : Int) < (s.size : Int) := by omega
        have hkk := (HK.out.resolve_right (by omega)).2
        obtain ⟨q1, q2, q3, q4⟩ := qE_drop s hlt
        by_cases c1 : s[k].toNat = 92
        · have t2 : ((s[k].toNat : Int) == 92) = true := by simp; omega
          have hn : (k + 2 ≤ s.size ∧ k + 2 + qE (s.data.toList.drop (k + 2)) = E) ∨ (k + 2 = s.size + 1 ∧ E = s.size) := by
            by_cases h1 : k + 1 < s.size
            · exact .inl ⟨by omega, by rw [q1 c1 h1] at hkk; omega⟩
            · exact .inr ⟨by omega, by rw [q2 c1 (by omega)] at hkk; omega⟩
          have HN := Lib.hid hn
          clear hn q1 q2 q3 q4 hkk HK c1
          go_wp2_with fail
          go_roundw
          case rel => exact ⟨by first | rfl | trivial, k + 2, by simp; omega, by omega, HN⟩
          case measure => simp [intOf]; omega
        · have t2 : ((s[k].toNat : Int) == 92) = false := by simp; omega
          by_cases c2 : s[k].toNat = 34
          · have t3 : ((s[k].toNat : Int) == 34) = true := by simp; omega
            rw [q3 c2] at hkk
            have HF := Lib.hid hkk
            clear q1 q2 q3 q4 hkk HK c1 c2
            go_wp2_with fail
            go_ret
            exact ⟨by rw [← HF.out]; simp, HO.out⟩
          · have t3 : ((s[k].toNat : Int) == 34) = false := by simp; omega
            rw [q4 c1 c2] at hkk
            have HN := Lib.hid (show (k + 1 ≤ s.size ∧ k + 1 + qE (s.data.toList.drop (k + 1)) = E) ∨ (k + 1 = s.size + 1 ∧ E = s.size) from .inl ⟨by omega, by omega⟩)
            clear q1 q2 q3 q4 hkk HK c1 c2
            go_wp2_with fail
            go_roundw
            case rel => exact ⟨by first | rfl | trivial, k + 1, by simp, by omega, HN⟩
            case measure => simp [intOf]; omega
      · have t1 : decide ((k : Int) < (s.size : Int)) = false := decide_eq_false (by omega)
        have he : E = s.size := by
          rcases HK.out with ⟨h1, h2⟩ | ⟨_, h2⟩
          · rw [drop_all s k (by omega), qE] at h2; omega
          · exact h2
        subst he
        clear HK H0
        go_wp2_with fail
        go_ret
        exact ⟨rfl, HO.out⟩
  · have hE := HE.out
    unfold endT at hE
    rw [if_neg hk] at hE
    have hE : at_ + tx.length = E := hE
    have H0 := Lib.hid hE
    have t0 : ((kd : Int) != 3) = true := by simp; omega
    clear hE h3 HE hk
    go_enter Tryd.func18, Tryd.ntmps18
    go_upto_region 1 with (fail)
    rw [HB.out, HW1.out]
    clear HB HW1
    go_wp2_with fail
    clear y0 y1 y2 y3 yz
    go_ret
    exact ⟨by rw [← H0.out]; simp, HO.out⟩
end Go.Proofs.YtgephneppgcnlaaDoor
