/- Package wire: the reader's Uint. -/
import Derived.Test.YtoojnpafcdaflaaRdr
namespace Go.Proofs.Ytoojnpafcdaflaa
open Go Go.RowKit
set_option linter.unusedVariables false
set_option linter.unusedSimpArgs false

theorem and127 : ∀ x : Nat, x < 256 → bits .and .u8 (x : Int) 127 = ((x % 128 : Nat) : Int) := by decide +kernel
theorem ofInt64 (a : Nat) (ha : a < 18446744073709551616) : (BitVec.ofInt 64 (a : Int)).toNat = a := by
  rw [BitVec.ofInt_natCast, BitVec.toNat_ofNat]; exact Nat.mod_eq_of_lt ha
theorem or64 (a b : Nat) (ha : a < 18446744073709551616) (hb : b < 18446744073709551616) : bits .or .u64 (a : Int) (b : Int) = ((a ||| b : Nat) : Int) := by
  have hx : a ||| b < 2 ^ 64 := Nat.or_lt_two_pow ha hb
  show IntKind.u64.wrap ((BitVec.ofInt 64 (a : Int) ||| BitVec.ofInt 64 (b : Int)).toNat : Int) = _
  rw [BitVec.toNat_or, ofInt64 a ha, ofInt64 b hb, IntKind.wrap_u64]; omega
theorem pow128 (k : Nat) : 128 ^ k = 2 ^ (7 * k) := by rw [Nat.pow_mul]
theorem vbits (k n x : Nat) (hk : k ≤ 9) (h9 : k = 9 → x ≤ 1) (hn : n < 128 ^ k) :
    Op.shift .shl .u64 ((x : Int) % 128) .i64 (7 * (k : Int)) = pure (.int .u64 ((x % 128 * 128 ^ k : Nat) : Int)) ∧ bits .or .u64 (n : Int) ((x % 128 * 128 ^ k : Nat) : Int) = ((n + x % 128 * 128 ^ k : Nat) : Int) ∧ n + x % 128 * 128 ^ k < 18446744073709551616 := by
  have hb : n + x % 128 * 128 ^ k < 18446744073709551616 := by
    by_cases h : k = 9
    · subst h
      have e : (128 : Nat) ^ 9 = 9223372036854775808 := by decide
      rw [e] at hn ⊢
      have := h9 rfl
      have h2 : x % 128 ≤ 1 := by omega
      have h3 : x % 128 * 9223372036854775808 ≤ 1 * 9223372036854775808 := Nat.mul_le_mul_right _ h2
      omega
    · have h8 : 128 ^ k ≤ 128 ^ 8 := Nat.pow_le_pow_right (by decide) (by omega)
      have e : (128 : Nat) ^ 8 = 72057594037927936 := by decide
      rw [e] at h8
      have h3 : x % 128 * 128 ^ k ≤ 127 * 72057594037927936 := Nat.mul_le_mul (by omega) h8
      omega
  refine ⟨?_, ?_, hb⟩
  · have hs := shift_shl_u64 (x := (x : Int) % 128) (yk := .i64) (y := 7 * (k : Int)) (by omega) (by omega)
    rw [hs]
    have e1 : (7 * (k : Int)).toNat = 7 * k := by omega
    have e2 : ((x : Int) % 128) * 2 ^ (7 * k) = ((x % 128 * 128 ^ k : Nat) : Int) := by rw [pow128]; push_cast; rfl
    rw [e1, e2, IntKind.wrap_u64]
    have : x % 128 * 128 ^ k < 18446744073709551616 := by omega
    congr 2
    omega
  · rw [or64 n _ (by omega) (by omega)]
    have h := Nat.two_pow_add_eq_or_of_lt (i := 7 * k) (b := n) (by rw [← pow128]; exact hn) (x % 128)
    rw [← pow128, Nat.mul_comm] at h
    rw [Nat.or_comm, ← h, Nat.add_comm]
theorem bytes_mk {w : World} {a : Option Addr} {n c : Nat} {l : List UInt8} (hn : n = l.length) (h1 : l.length ≤ c) (h2 : c ≤ 9223372036854775807) (h3 : 0 < l.length → ∃ b off, a = some ⟨b, off, none⟩ ∧ b < w.heap.size ∧ w.rangeAt b off (u8s l)) : Bytes w (.slice a n c) l := ⟨a, c, by rw [hn], h1, h2, h3⟩
theorem ReaderAt.put {w : World} {b : Nat} {l l' : List UInt8} (h : ReaderAt w b l false) {v' : Value} (hb : Bytes w v' l') (hbb : 0 < l'.length → ∀ k, v'.ownBlock = some k → k < b) :
    ReaderAt (w.setCell ⟨b, 0, none⟩ v') b l' false ∧ Only (fun k => k = b) w (w.setCell ⟨b, 0, none⟩ v') := by
  obtain ⟨v, h1, h2, h3⟩ := h
  have ho := (Only.refl (fun k => k = b) w).setCell (p := ⟨b, 0, none⟩) (.inl rfl) v'
  exact ⟨⟨v', heap_set (o := 0) h1 _, hb.only ho (fun hp k hk e => absurd e (Nat.ne_of_lt (hbb hp k hk))), hbb⟩, ho⟩

/-- What the reader's Uint leaves. -/
def RU (w : World) (b most : Nat) (l : List UInt8) (e : Ending) (w' : World) : Prop :=
  (∃ x r, decU most l = some (x, r) ∧ e = .returned (.int .u64 (x : Int)) ∧ ReaderAt w' b r false ∧ Only (fun k => k = b) w w') ∨ (decU most l = none ∧ e = .returned (.int .u64 0) ∧ ReaderAt w' b l true ∧ Only (fun k => k = b) w w')
set_option maxRecDepth 100000 in
set_option maxHeartbeats 8000000 in
theorem ruint_any (b : Nat) (l : List UInt8) (most : Nat) (w : World) (h : ReaderAt w b l false) (hm : most < 18446744073709551616) :
    Calls Try.prog 32 #[.pointer (some ⟨b, 0, none⟩), .int .u64 most] w (RU w b most l) := by
  obtain ⟨a, c, c0, c1, fz, g1, g2, hB, hBb⟩ := h.cells
  have H := Lib.hid h; have HB := Lib.hid hB; have HBB := Lib.hid hBb; clear h hB hBb
  have HM := Lib.hid hm; clear hm
  have hl63 : l.length ≤ 9223372036854775807 := by omega
  go_enter Try.func32, Try.ntmps32
  go_wp2_with fail
  go_loop [5, 21] (fun v5 v21 => ∃ k n : Nat, v21 = .int .i64 k ∧ v5 = .int .u64 n ∧ k ≤ l.length ∧ k ≤ 9 ∧ Hid (decGo most k n (l.drop k) = decU most l) ∧ Hid (n < 128 ^ k)) (fun _ v => l.length - (intOf v).toNat)
  case atStart => exact ⟨0, 0, by simp, by simp, by omega, by omega, Lib.hid (by simp [decU]), Lib.hid (by decide)⟩
  case round =>
    obtain ⟨k, n, rfl, rfl, hk, hk9, HD, HN⟩ := hrel
    by_cases hlt : k < l.length
    · have t1 : decide ((k : Int) < (l.length : Int)) = true := by simpa using hlt
      have hcell : ∃ b2 off, a = some ⟨b2, off, none⟩ ∧ w.cell? ⟨b2, off + k, none⟩ = some (.int .u8 (l[k].toNat : Int)) := by
        obtain ⟨a', c', e, _, _, h3⟩ := HB.out
        cases e
        obtain ⟨b2, off, rfl, hb2, hr⟩ := h3 (by omega)
        exact ⟨b2, off, rfl, hr k _ (by simp [u8s, hlt])⟩
      obtain ⟨b2, off, rfl, hc2⟩ := hcell
      have hx0 : (0 : Int) ≤ (l[k].toNat : Int) := by omega
      have hx1 : (l[k].toNat : Int) ≤ 255 := by have := l[k].toNat_lt; omega
      have hx2 : l[k].toNat < 256 := by have := l[k].toNat_lt; omega
      have hdr : l.drop k = l[k] :: l.drop (k + 1) := List.drop_eq_getElem_cons hlt
      have hd := HD.out
      rw [hdr] at hd
      simp only [decGo] at hd
      generalize l[k].toNat = x at *
      have HDD := Lib.hid hd; clear hd hdr
      have hand := and127 x hx2
      by_cases k9 : k = 9
      · have q1 : ((k : Int) == 9) = true := by simp; omega
        have K9 := Lib.hid k9; clear k9
        have k0 : 0 < k := by have := K9.out; omega
        have q2 : decide ((0 : Int) < (k : Int)) = true := by have := K9.out; simp; omega
        by_cases x1 : 1 < x
        · have q4 : decide ((1 : Int) < (x : Int)) = true := by simp; omega
          have hN : decU most l = none := by rw [← HDD.out, if_pos (by have := K9.out; omega)]
          have HNN := Lib.hid hN; clear hN hand
          go_wp2
          go_ret
          exact .inr ⟨HNN.out, rfl, H.out.fault.1, H.out.fault.2⟩
        · have q4 : decide ((1 : Int) < (x : Int)) = false := by simp; omega
          by_cases xz : x = 0
          · have q3 : ((x : Int) == 0) = true := by simp; omega
            have q5 : (x == 0) = true := by simp; omega
            have q6 : decide (x = 0) = true := by simp; omega
            have hN : decU most l = none := by rw [← HDD.out, if_pos (by have := K9.out; omega)]
            have HNN := Lib.hid hN; clear hN hand xz
            go_wp2
            go_ret
            exact .inr ⟨HNN.out, rfl, H.out.fault.1, H.out.fault.2⟩
          · have q3 : ((x : Int) == 0) = false := by simp; omega
            have q5 : (x == 0) = false := by simp; omega
            have q6 : decide (x = 0) = false := by simp; omega
            obtain ⟨hsh, hor, hlt64⟩ := vbits k n x hk9 (by omega) HN.out
            have hwr : IntKind.u64.wrap ((x : Int) % 128 * 2 ^ (7 * k)) = ((x % 128 * 128 ^ k : Nat) : Int) := by
              have e2 : ((x : Int) % 128) * 2 ^ (7 * k) = ((x % 128 * 128 ^ k : Nat) : Int) := by rw [pow128]; push_cast; rfl
              rw [e2, IntKind.wrap_u64]; omega
            have hd := HDD.out
            rw [if_neg (by omega)] at hd
            by_cases hx7 : x < 128
            · have t2 : decide ((x : Int) < 128) = true := by simp; omega
              have hxm : x % 128 = x := Nat.mod_eq_of_lt hx7
              rw [if_pos hx7] at hd
              rw [hxm] at hsh hor hlt64 hwr
              generalize x * 128 ^ k = S at *
              have HSX := Lib.hid hxm; clear hxm
              by_cases hmo : most < n + S
              · have t3 : decide ((most : Int) < ((n + S : Nat) : Int)) = true := by simp; omega
                rw [if_pos hmo] at hd
                have HNN := Lib.hid hd.symm; clear hd
                go_wp2
                go_ret
                exact .inr ⟨HNN.out, rfl, H.out.fault.1, H.out.fault.2⟩
              · have t3 : decide ((most : Int) < ((n + S : Nat) : Int)) = false := by simp; omega
                rw [if_neg hmo] at hd
                have HNN := Lib.hid hd.symm; clear hd
                have hi1 : (k : Int) + 1 ≤ (l.length : Int) := by omega
                have hdl : (l.drop (k + 1)).length = l.length - (k + 1) := List.length_drop
                have HDL := Lib.hid hdl; clear hdl
                have hpost : ∀ v', Bytes w v' (l.drop (k + 1)) → (0 < (l.drop (k + 1)).length → ∀ q, v'.ownBlock = some q → q < b) → RU w b most l (.returned (.int .u64 ((n + S : Nat) : Int))) (w.setCell ⟨b, 0, none⟩ v') := fun v' h1 h2 => .inl ⟨_, _, HNN.out, rfl, (H.out.put h1 h2).1, (H.out.put h1 h2).2⟩
                have HPOST := Lib.hid hpost; clear hpost
                go_wp2
                all_goals
                  go_ret
                  refine HPOST.out _ (bytes_mk HDL.out.symm (by rw [HDL.out]; omega) (by omega) (fun hp => ?_)) (fun hp q hq => ?_)
                  · rw [HDL.out] at hp
                    first
                      | (exfalso; omega)
                      | (obtain ⟨a', c', e, _, _, h3⟩ := HB.out
                         cases e
                         obtain ⟨b3, off3, e3, hb2, hr⟩ := h3 (by omega)
                         cases e3
                         refine ⟨b2, off + (k + 1), by first | rfl | (simp [addr_add]; done), hb2, fun j v hv => ?_⟩
                         rw [u8s_drop, List.getElem?_drop] at hv
                         rw [Nat.add_assoc]; exact hr _ _ hv)
                  · rw [HDL.out] at hp
                    exact HBB.out (by omega) q (by simpa [Value.ownBlock] using hq)
            · exfalso; omega
      · have q1 : ((k : Int) == 9) = false := by simp; omega
        by_cases k0 : 0 < k
        · have q2 : decide ((0 : Int) < (k : Int)) = true := by simp; omega
          by_cases xz : x = 0
          · have q3 : ((x : Int) == 0) = true := by simp; omega
            have q5 : (x == 0) = true := by simp; omega
            have q6 : decide (x = 0) = true := by simp; omega
            have hN : decU most l = none := by rw [← HDD.out, if_pos (by skip; omega)]
            have HNN := Lib.hid hN; clear hN hand xz
            go_wp2
            go_ret
            exact .inr ⟨HNN.out, rfl, H.out.fault.1, H.out.fault.2⟩
          · have q3 : ((x : Int) == 0) = false := by simp; omega
            have q5 : (x == 0) = false := by simp; omega
            have q6 : decide (x = 0) = false := by simp; omega
            obtain ⟨hsh, hor, hlt64⟩ := vbits k n x hk9 (by omega) HN.out
            have hwr : IntKind.u64.wrap ((x : Int) % 128 * 2 ^ (7 * k)) = ((x % 128 * 128 ^ k : Nat) : Int) := by
              have e2 : ((x : Int) % 128) * 2 ^ (7 * k) = ((x % 128 * 128 ^ k : Nat) : Int) := by rw [pow128]; push_cast; rfl
              rw [e2, IntKind.wrap_u64]; omega
            have hd := HDD.out
            rw [if_neg (by omega)] at hd
            by_cases hx7 : x < 128
            · have t2 : decide ((x : Int) < 128) = true := by simp; omega
              have hxm : x % 128 = x := Nat.mod_eq_of_lt hx7
              rw [if_pos hx7] at hd
              rw [hxm] at hsh hor hlt64 hwr
              generalize x * 128 ^ k = S at *
              have HSX := Lib.hid hxm; clear hxm
              by_cases hmo : most < n + S
              · have t3 : decide ((most : Int) < ((n + S : Nat) : Int)) = true := by simp; omega
                rw [if_pos hmo] at hd
                have HNN := Lib.hid hd.symm; clear hd
                go_wp2
                go_ret
                exact .inr ⟨HNN.out, rfl, H.out.fault.1, H.out.fault.2⟩
              · have t3 : decide ((most : Int) < ((n + S : Nat) : Int)) = false := by simp; omega
                rw [if_neg hmo] at hd
                have HNN := Lib.hid hd.symm; clear hd
                have hi1 : (k : Int) + 1 ≤ (l.length : Int) := by omega
                have hdl : (l.drop (k + 1)).length = l.length - (k + 1) := List.length_drop
                have HDL := Lib.hid hdl; clear hdl
                have hpost : ∀ v', Bytes w v' (l.drop (k + 1)) → (0 < (l.drop (k + 1)).length → ∀ q, v'.ownBlock = some q → q < b) → RU w b most l (.returned (.int .u64 ((n + S : Nat) : Int))) (w.setCell ⟨b, 0, none⟩ v') := fun v' h1 h2 => .inl ⟨_, _, HNN.out, rfl, (H.out.put h1 h2).1, (H.out.put h1 h2).2⟩
                have HPOST := Lib.hid hpost; clear hpost
                go_wp2
                all_goals
                  go_ret
                  refine HPOST.out _ (bytes_mk HDL.out.symm (by rw [HDL.out]; omega) (by omega) (fun hp => ?_)) (fun hp q hq => ?_)
                  · rw [HDL.out] at hp
                    first
                      | (exfalso; omega)
                      | (obtain ⟨a', c', e, _, _, h3⟩ := HB.out
                         cases e
                         obtain ⟨b3, off3, e3, hb2, hr⟩ := h3 (by omega)
                         cases e3
                         refine ⟨b2, off + (k + 1), by first | rfl | (simp [addr_add]; done), hb2, fun j v hv => ?_⟩
                         rw [u8s_drop, List.getElem?_drop] at hv
                         rw [Nat.add_assoc]; exact hr _ _ hv)
                  · rw [HDL.out] at hp
                    exact HBB.out (by omega) q (by simpa [Value.ownBlock] using hq)
            · have t2 : decide ((x : Int) < 128) = false := by simp; omega
              rw [if_neg hx7] at hd
              have hn2 : n + x % 128 * 128 ^ k < 128 ^ (k + 1) := by
                have h1 := HN.out
                have h2 : x % 128 * 128 ^ k ≤ 127 * 128 ^ k := Nat.mul_le_mul_right _ (by omega)
                rw [Nat.pow_succ]; omega
              generalize x % 128 * 128 ^ k = S at *
              have HD2 := Lib.hid hd; have HN2 := Lib.hid hn2; clear hd hn2
              go_wp2_with fail
              go_round
              case rel => exact ⟨k + 1, n + S, by simp [go_sem], by first | rfl | (go_num; done) | (push_cast; rfl) | (simp; done), by omega, by omega, HD2, HN2⟩
              case measure => simp [intOf]; omega
        · have q2 : decide ((0 : Int) < (k : Int)) = false := by simp; omega
          obtain ⟨hsh, hor, hlt64⟩ := vbits k n x hk9 (by omega) HN.out
          have hwr : IntKind.u64.wrap ((x : Int) % 128 * 2 ^ (7 * k)) = ((x % 128 * 128 ^ k : Nat) : Int) := by
            have e2 : ((x : Int) % 128) * 2 ^ (7 * k) = ((x % 128 * 128 ^ k : Nat) : Int) := by rw [pow128]; push_cast; rfl
            rw [e2, IntKind.wrap_u64]; omega
          have hd := HDD.out
          rw [if_neg (by omega)] at hd
          by_cases hx7 : x < 128
          · have t2 : decide ((x : Int) < 128) = true := by simp; omega
            have hxm : x % 128 = x := Nat.mod_eq_of_lt hx7
            rw [if_pos hx7] at hd
            rw [hxm] at hsh hor hlt64 hwr
            generalize x * 128 ^ k = S at *
            have HSX := Lib.hid hxm; clear hxm
            by_cases hmo : most < n + S
            · have t3 : decide ((most : Int) < ((n + S : Nat) : Int)) = true := by simp; omega
              rw [if_pos hmo] at hd
              have HNN := Lib.hid hd.symm; clear hd
              go_wp2
              go_ret
              exact .inr ⟨HNN.out, rfl, H.out.fault.1, H.out.fault.2⟩
            · have t3 : decide ((most : Int) < ((n + S : Nat) : Int)) = false := by simp; omega
              rw [if_neg hmo] at hd
              have HNN := Lib.hid hd.symm; clear hd
              have hi1 : (k : Int) + 1 ≤ (l.length : Int) := by omega
              have hdl : (l.drop (k + 1)).length = l.length - (k + 1) := List.length_drop
              have HDL := Lib.hid hdl; clear hdl
              have hpost : ∀ v', Bytes w v' (l.drop (k + 1)) → (0 < (l.drop (k + 1)).length → ∀ q, v'.ownBlock = some q → q < b) → RU w b most l (.returned (.int .u64 ((n + S : Nat) : Int))) (w.setCell ⟨b, 0, none⟩ v') := fun v' h1 h2 => .inl ⟨_, _, HNN.out, rfl, (H.out.put h1 h2).1, (H.out.put h1 h2).2⟩
              have HPOST := Lib.hid hpost; clear hpost
              go_wp2
              all_goals
                go_ret
                refine HPOST.out _ (bytes_mk HDL.out.symm (by rw [HDL.out]; omega) (by omega) (fun hp => ?_)) (fun hp q hq => ?_)
                · rw [HDL.out] at hp
                  first
                    | (exfalso; omega)
                    | (obtain ⟨a', c', e, _, _, h3⟩ := HB.out
                       cases e
                       obtain ⟨b3, off3, e3, hb2, hr⟩ := h3 (by omega)
                       cases e3
                       refine ⟨b2, off + (k + 1), by first | rfl | (simp [addr_add]; done), hb2, fun j v hv => ?_⟩
                       rw [u8s_drop, List.getElem?_drop] at hv
                       rw [Nat.add_assoc]; exact hr _ _ hv)
                · rw [HDL.out] at hp
                  exact HBB.out (by omega) q (by simpa [Value.ownBlock] using hq)
          · have t2 : decide ((x : Int) < 128) = false := by simp; omega
            rw [if_neg hx7] at hd
            have hn2 : n + x % 128 * 128 ^ k < 128 ^ (k + 1) := by
              have h1 := HN.out
              have h2 : x % 128 * 128 ^ k ≤ 127 * 128 ^ k := Nat.mul_le_mul_right _ (by omega)
              rw [Nat.pow_succ]; omega
            generalize x % 128 * 128 ^ k = S at *
            have HD2 := Lib.hid hd; have HN2 := Lib.hid hn2; clear hd hn2
            go_wp2_with fail
            go_round
            case rel => exact ⟨k + 1, n + S, by simp [go_sem], by first | rfl | (go_num; done) | (push_cast; rfl) | (simp; done), by omega, by omega, HD2, HN2⟩
            case measure => simp [intOf]; omega
    · have hke : k = l.length := by omega
      have t1 : decide ((k : Int) < (l.length : Int)) = false := by simp; omega
      have hd := HD.out
      rw [List.drop_eq_nil_of_le (by omega)] at hd
      have HNN : Hid (decU most l = none) := Lib.hid (by rw [← hd]; rfl)
      clear hd hke
      go_wp2
      go_ret
      exact .inr ⟨HNN.out, rfl, H.out.fault.1, H.out.fault.2⟩
end Go.Proofs.Ytoojnpafcdaflaa
