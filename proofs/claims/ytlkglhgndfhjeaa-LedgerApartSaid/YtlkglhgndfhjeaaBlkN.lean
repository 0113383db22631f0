/- columbarylaw01.BlockNil, BlockArms: the walks. -/
import Derived.Test.YtlkglhgndfhjeaaBlkO
namespace Go.Proofs.Ytlkglhgndfhjeaa
open Go Go.RowKit
set_option linter.unusedVariables false
set_option linter.unusedSimpArgs false

theorem Only.still {w w' : World} (h : Only (fun _ => False) w w') : Below w.heap.size w w' := h.below (Nat.le_refl _) (fun _ _ h => h)
theorem bytes_row {w : World} {a : Option Addr} {len cap : Nat} {z : List Int} (h : IsRow .u8 w a len cap z) : ∃ l : List UInt8, l.length = len ∧ Bytes w (.slice a len cap) l ∧ (0 < l.length → ∀ k, (Value.slice a len cap).ownBlock = some k → k < w.heap.size) := by
  rcases h with ⟨rfl, rfl, rfl, rfl⟩ | ⟨⟨b, off, sp⟩, rfl, h1, h2, h3, h4, h5⟩
  · exact ⟨[], rfl, ⟨none, 0, rfl, by decide, by decide, fun h => absurd h (by decide)⟩, fun _ k hk => by cases hk⟩
  · obtain ⟨m1, m2⟩ : len ≤ 9223372036854775807 ∧ cap ≤ 9223372036854775807 := by unfold maxLen at h2; omega
    by_cases hl0 : len = 0
    · subst hl0
      refine ⟨[], rfl, ⟨_, _, rfl, Nat.zero_le _, m2, fun h => absurd h (by decide)⟩, fun h => absurd h (by decide)⟩
    · have hs : sp = none := by simpa [Addr.add] using World.cell?_spot (h4 0 (by omega))
      subst hs
      have hlz : (z.take len).length = len := by rw [List.length_take]; omega
      refine ⟨(z.take len).map fun n => UInt8.ofNat n.toNat, by simp; omega, ⟨_, cap, by simp; omega, by simp; omega, m2, fun _ => ⟨b, off, rfl, ?_, ?_⟩⟩, ?_⟩
      · have := h4 0 (by omega)
        rw [addr_add] at this
        exact cell_lt this
      · intro j v hv
        have hj : j < len := by have := (List.getElem?_eq_some_iff.1 hv).1; simp [u8s] at this; omega
        have hc := h4 j (by omega)
        rw [addr_add] at hc
        rw [hc]
        have hz : z[j]? = some z[j] := List.getElem?_eq_getElem (by omega)
        have hm := h5 z[j] (List.getElem_mem _)
        have hm0 : 0 ≤ z[j] ∧ z[j] ≤ 255 := by simp [Lit.wf, IntKind.min, IntKind.max, IntKind.signed, IntKind.bits] at hm; omega
        simp [u8s, List.getElem?_take, hj, hz] at hv
        rw [← hv, List.getD_eq_getElem?_getD, hz, Option.getD_some]
        have : max z[j] 0 % 256 = z[j] := by omega
        rw [this]
      · intro _ k hk
        simp [Value.ownBlock] at hk
        subst hk
        have := h4 0 (by omega)
        rw [addr_add] at this
        exact cell_lt this
set_option maxRecDepth 100000 in
theorem nil_walk (i : Int) (a : Option Addr) (len cap : Nat) (z : List Int) (w : World) (hi : (Lit.int .i64 i).wf = true) (hr : IsRow .u8 w a len cap z) :
    Calls Try.prog 9 #[.int .i64 i, .slice a len cap] w fun e w' => e = .returned (.bool true) ∧ Below w.heap.size w w' := by
  clear hi hr
  go_enter Try.func9, Try.ntmps9
  go_wp2_with fail
  refine (read_nil _ _).mono ?_
  rintro e w1 ⟨rfl, o1⟩
  go_wp2_with fail
  refine (awake_any _).mono ?_
  rintro e w2 ⟨rfl, o2⟩
  go_wp2_with fail
  refine (write_nil' _ _ _).mono ?_
  rintro e w3 ⟨rfl, o3⟩
  go_wp2_with fail
  refine (sync_nil _).mono ?_
  rintro e w4 ⟨rfl, rfl⟩
  go_wp2_with fail
  refine (arm_nil _ _).mono ?_
  rintro e w5 ⟨rfl, rfl⟩
  go_wp2_with fail
  refine (restart_nil _ _ _).mono ?_
  rintro e w6 ⟨rfl, o6⟩
  go_wp2_with fail
  refine (don_nil _).mono ?_
  rintro e w7 ⟨rfl, rfl⟩
  go_wp2_with fail
  refine (dlen_nil _).mono ?_
  rintro e w8 ⟨rfl, rfl⟩
  go_wp2_with fail
  refine (dwait_nil _).mono ?_
  rintro e w9 ⟨rfl, rfl⟩
  go_wp2_with fail
  refine (dops_nil _).mono ?_
  rintro e w10 ⟨rfl, rfl⟩
  go_wp2
  go_ret
  exact ⟨rfl, (((o1.trans o2).trans o3).trans o6).still⟩

structure ArmsSt (W : World) (b k i : Nat) (st : Dk) (B : Nat) (w : World) : Prop where
  own : Own W B w b st
  fine : Fine st i
  ops : st.ops = i
  armed : st.armed = (k : Int) - i
  off : st.off = decide (i = k)
  wait : st.wait.length = i
  sure : st.sure.length = 4
  hB : B ≤ w.heap.size
set_option maxRecDepth 100000 in
theorem arms_walk (n : Int) (a : Option Addr) (len cap : Nat) (z : List Int) (w : World) (hn : (Lit.int .u8 n).wf = true) (hr : IsRow .u8 w a len cap z) :
    Calls Try.prog 7 #[.int .u8 n, .slice a len cap] w fun e w' => e = .returned (.bool true) ∧ Below w.heap.size w w' := by
  have hn0 : 0 ≤ n ∧ n ≤ 255 := by simp [Lit.wf, IntKind.min, IntKind.max, IntKind.signed, IntKind.bits] at hn; omega
  obtain ⟨n0, n1⟩ := hn0
  obtain ⟨l, hl, hb, hk⟩ := bytes_row hr
  have HL := Lib.hid hl; have HB := Lib.hid hb; have HK := Lib.hid hk
  have hlen := hr.len_le
  clear hn hr hl hb hk
  by_cases h64 : len ≤ 64
  · have e64 : decide ((64 : Int) < (len : Int)) = false := by simp; omega
    go_enter Try.func7, Try.ntmps7
    go_wp2_with fail
    refine (awake_any _).mono ?_
    rintro e w1 ⟨rfl, o1⟩
    go_upto_region 4 with (fail)
    obtain ⟨k, hke, hk1, hk20⟩ : ∃ k : Nat, 1 + n % 20 = (k : Int) ∧ 1 ≤ k ∧ k ≤ 20 := ⟨(1 + n % 20).toNat, by omega, by omega, by omega⟩
    rw [hke]
    clear hke
    have hN : Calls Try.prog 17 #[.int .i64 4] w1 _ := new_own w 4 w1 o1 (by decide) (by decide)
    have HN := Lib.hid hN; have O1 := Lib.hid o1; clear hN o1
    go_wp2_with fail
    refine HN.out.mono ?_
    rintro e w2 ⟨b, rfl, h2, o2⟩
    have H2 := Lib.hid h2; have O2 := Lib.hid o2; clear h2 o2
    go_wp2_with fail
    refine (arm_own w w2.heap.size b (fresh 4) k _ H2.out (by omega)).mono ?_
    rintro e w3 ⟨rfl, h3, o3⟩
    have H3 := Lib.hid h3; have O3 := Lib.hid o3; clear h3 o3
    go_wp2_with fail
    go_loopw [8] (fun v wr => ∃ (i : Nat) (st : Dk) (B : Nat), v = .int .i64 ((i : Int) + 1) ∧ i ≤ k ∧ Hid (ArmsSt w b k i st B wr)) (fun v _ => k + 1 - (intOf v).toNat)
    case atStart => exact ⟨0, { fresh 4 with armed := k }, w2.heap.size, by simp, by omega, Lib.hid ⟨H3.out, ⟨⟨Int.le_refl _, Int.le_refl _⟩, ⟨by show (0 : Int) ≤ k; omega, by show (k : Int) ≤ _; omega⟩, Nat.le_refl _, (fun p hp => by cases hp), by decide⟩, rfl, (by show (k : Int) = k - (0 : Nat); omega), (by show false = decide (0 = k); rw [eq_comm, decide_eq_false_iff_not]; omega), rfl, rfl, O3.out.size⟩⟩
    case round =>
      obtain ⟨i, st, B, rfl, hik, hs⟩ := hrel
      by_cases hlt : i < k
      · have t1 : decide ((i : Int) + 1 ≤ (k : Int)) = true := by simp; omega
        have hoff0 : st.off = false := by rw [hs.out.off]; simp; omega
        have hbo : (begun st).off = decide (i + 1 = k) := by
          have ha := hs.out.armed
          unfold begun
          rw [if_pos (by omega)]
          show (st.armed - 1 == 0) = _
          rw [ha, Bool.eq_iff_iff]; simp; omega
        have hbw : (begun st).armed = (k : Int) - (i + 1 : Nat) := by
          have ha := hs.out.armed
          unfold begun
          rw [if_pos (by omega)]
          show st.armed - 1 = _
          omega
        have hm4 : 0 ≤ ((i : Int) + 1) % 4 ∧ ((i : Int) + 1) % 4 < 4 := by omega
        have hnew : ∀ w9, Own w w9.heap.size w9 b (wrote st (((i : Int) + 1) % 4) l) → ArmsSt w b k (i + 1) (wrote st (((i : Int) + 1) % 4) l) w9.heap.size w9 := by
          intro w9 ho
          refine ⟨ho, hs.out.fine.wrote (by omega) ⟨hm4.1, by rw [hs.out.sure]; exact hm4.2⟩ l, ?_, hbw, ?_, ?_, ?_, Nat.le_refl _⟩
          · show (begun st).ops = _
            rw [begun_ops, hs.out.ops]; omega
          · show (begun st).off = _
            rw [hbo]
          · show ((begun st).wait ++ [_]).length = _
            rw [begun_wait, List.length_append, hs.out.wait]; rfl
          · show (begun st).sure.length = _
            rw [begun_sure]; exact hs.out.sure
        have HNEW := Lib.hid hnew; have HBO := Lib.hid hbo; have HOFF := Lib.hid hoff0
        clear hnew hbw hbo hoff0
        have q0 : (wrote st (((i : Int) + 1) % 4) l).off = (begun st).off := rfl
        have Q0 := Lib.hid q0; clear q0
        go_wp2_with fail
        refine (write_own w B b st i (((i : Int) + 1) % 4) _ l _ hs.out.own (look0 hm4.1 (by rw [hs.out.sure]; exact hm4.2) HOFF.out) (HB.out.only hs.out.own.old (fun _ _ _ h => h)) (by rw [HL.out]; exact h64) (fun hp k hk => .inl (HK.out hp k hk)) hs.out.fine).mono ?_
        rintro e w4 ⟨rfl, h4, o4⟩
        rw [HBO.out]
        have H4 := Lib.hid (HNEW.out _ h4); clear h4 o4
        by_cases hlast : i + 1 = k
        · have d1 : decide (i + 1 = k) = true := by simpa using hlast
          have d2 : decide ((i : Int) + 1 < (k : Int)) = false := by simp; omega
          rw [d1]
          simp only [if_true]
          go_wp2_with fail
          refine (don_any _ b _ _ H4.out.own.at_).mono ?_
          rintro e w5 ⟨rfl, rfl⟩
          rw [Q0.out, HBO.out, d1]
          go_wp2_with fail
          go_roundw
          case rel => exact ⟨i + 1, _, _, by simp [go_sem], by omega, H4⟩
          case measure => simp [intOf]; omega
        · have d1 : decide (i + 1 = k) = false := by simpa using hlast
          have d2 : decide ((i : Int) + 1 < (k : Int)) = true := by simp; omega
          rw [d1]
          go_wp2_with fail
          refine (don_any _ b _ _ H4.out.own.at_).mono ?_
          rintro e w5 ⟨rfl, rfl⟩
          rw [Q0.out, HBO.out, d1]
          go_wp2_with fail
          go_roundw
          case rel => exact ⟨i + 1, _, _, by simp [go_sem], by omega, H4⟩
          case measure => simp [intOf]; omega
      · have hke : i = k := by omega
        subst hke
        have t1 : decide ((i : Int) + 1 ≤ (i : Int)) = false := by simp; omega
        have hoff0 : st.off = true := by rw [hs.out.off]; simp
        have hl12 : ∀ j : Int, j = 0 → lookE st j = 12 := by
          intro j hj
          unfold lookE; rw [if_neg (by have := hs.out.sure; omega), if_pos hoff0]
        have HL12 := Lib.hid (hl12 0 rfl); clear hl12 hoff0
        have q1 : (restarted st 0 0).off = false := rfl
        have q2 : (restarted st 0 0).wait.length = 0 := rfl
        have Q1 := Lib.hid q1; have Q2 := Lib.hid q2; clear q1 q2
        have hne : lookE st 0 ≠ 0 := by rw [HL12.out]; decide
        go_wp2_with fail
        refine (read_look _ b st 0 _ hs.out.own.at_ hne).mono ?_
        rintro e w4 ⟨rfl, o4⟩
        rw [HL12.out]
        have H4 := Lib.hid (hs.out.own.only o4 (fun _ h => h.elim)); clear o4
        go_wp2_with fail
        refine (write_look _ b st 0 _ _ H4.out.at_ hne).mono ?_
        rintro e w5 ⟨rfl, rfl⟩
        rw [HL12.out]
        go_wp2_with fail
        refine (sync_look _ b st _ H4.out.at_ hne).mono ?_
        rintro e w5 ⟨rfl, rfl⟩
        rw [HL12.out]
        go_wp2_with fail
        refine (dops_any _ b st _ H4.out.at_).mono ?_
        rintro e w5 ⟨rfl, rfl⟩
        rw [hs.out.ops]
        go_wp2_with fail
        refine (dwait_any _ b st _ H4.out.at_).mono ?_
        rintro e w5 ⟨rfl, rfl⟩
        rw [hs.out.wait]
        go_wp2_with fail
        refine (restart_own w B b st i 0 0 _ H4.out hs.out.fine).mono ?_
        rintro e w5 ⟨rfl, h5, o5⟩
        have H5 := Lib.hid h5; clear h5 o5
        go_wp2_with fail
        refine (don_any _ b _ _ H5.out.at_).mono ?_
        rintro e w6 ⟨rfl, rfl⟩
        rw [Q1.out]
        go_wp2_with fail
        refine (dwait_any _ b _ _ H5.out.at_).mono ?_
        rintro e w6 ⟨rfl, rfl⟩
        rw [Q2.out]
        go_wp2
        go_ret
        exact ⟨rfl, H5.out.old.still⟩
  · have e64 : decide ((64 : Int) < (len : Int)) = true := by simp; omega
    go_enter Try.func7, Try.ntmps7
    go_wp2_with fail
    refine (awake_any _).mono ?_
    rintro e w1 ⟨rfl, o1⟩
    go_wp2_with fail
    refine (awake_any _).mono ?_
    rintro e w2 ⟨rfl, o2⟩
    go_wp2
    go_ret
    exact ⟨rfl, (o1.trans o2).still⟩
end Go.Proofs.Ytlkglhgndfhjeaa
