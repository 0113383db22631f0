/- LexCovers: the walk. -/
import Derived.Test.YtjcigaceacgjaaaDoorLJn
import Derived.Test.YtjcigaceacgjaaaDoorTpk
import Derived.IntWalk
namespace Go.Proofs.YtjcigaceacgjaaaDoor
open Go Go.RowKit
set_option linter.unusedVariables false
set_option linter.unusedSimpArgs false

set_option maxRecDepth 100000 in
set_option maxHeartbeats 8000000 in
theorem lcovers_walk (s : ByteArray) (w : World) (hs : s.size ≤ maxLen) : Calls Tryd.prog 5 #[.string s] w fun e w' => e = .returned (.bool true) ∧ Below w.heap.size w w' := by
  have A := Lib.hid (awake05 w)
  have HS := Lib.hid hs
  go_enter Tryd.func5, Tryd.ntmps5
  go_wp2_with fail
  refine A.out.mono ?_
  rintro e w1 ⟨rfl, O1⟩
  have HO1 := Lib.hid O1; clear O1 A
  have T := Lib.hid (tokens_any s w1 HS.out)
  cases hP : toks s.data.toList with
  | bad p f =>
    rw [hP] at T
    obtain ⟨p1, p2, p3, p4⟩ := toks_off hP
    have hps : p ≤ s.size := p1
    clear hP p1
    have t2 : ((f : Int) == 0) = false := by simp; omega
    have t3 : decide ((p : Int) ≤ (s.size : Int)) = true := decide_eq_true (by omega)
    unfold maxLen at hs
    go_wp2_with fail
    refine T.out.mono ?_
    rintro e w2 ⟨rfl, O2⟩
    have HO2 := Lib.hid (HO1.out.trans O2); clear O2 T
    go_wp2_with fail
    go_ret
    exact ⟨rfl, HO2.out.below (Nat.le_refl _) (fun _ _ h => h)⟩
  | ok ts =>
    rw [hP] at T
    have ST := toks_stand hP
    have hs2 : s.size ≤ 2000 := (toks_ok hP).1
    clear hs HS
    go_wp2_with fail
    refine T.out.mono ?_
    rintro e w2 ⟨v, rfl, how, O2⟩
    have TR := Lib.hid (TRow.of_own how ST.one)
    have HO2 := Lib.hid (HO1.out.trans O2); clear O2 how T hP
    obtain ⟨g, o, c, rfl, k1, k2, k3, _⟩ := TR.out.at_ (i := 0) ST.one
    have hone := ST.one
    have HST := Lib.hid ST; clear ST
    obtain ⟨N, hN⟩ : ∃ N, ts.length = N := ⟨_, rfl⟩
    have HTR := TR; clear TR
    rw [hN] at k1 hone ⊢
    have HN := Lib.hid hN; clear hN
    unfold maxLen at k2
    have k3' : (N : Int) - 1 ≤ 9223372036854775807 := by omega
    have k4' : 0 ≤ (N : Int) - 1 := by omega
    go_wp2_with fail
    go_loopw [6] (fun x wr => ∃ k : Nat, x = .int .i64 (k : Int) ∧ k ≤ N ∧ Hid (Only (fun _ => False) w2 wr)) (fun x _ => N - (intOf x).toNat)
    case atStart => exact ⟨0, rfl, by omega, Lib.hid (Only.refl _ _)⟩
    case round =>
      obtain ⟨k, rfl, hk, OR⟩ := hrel
      obtain ⟨g', o', c', hv', _, _, _, HC⟩ := (HTR.out.still OR.out).at_ (i := 0) (by rw [HN.out]; exact hone)
      injection hv' with hv' hx1 hx2
      injection hv' with hv'
      injection hv' with e1 e2 e3
      subst e1; subst e2; clear hx1 hx2
      have H1 := Lib.hid HC; clear HC
      by_cases hlt : k < N
      · have t1 : decide ((k : Int) < (N : Int)) = true := decide_eq_true (by omega)
        have hkt : k < ts.length := by rw [HN.out]; omega
        have hkN : (k : Int) < (N : Int) := by omega
        obtain ⟨a1, a2, a3, a4⟩ := H1.out k hkt
        obtain ⟨s1, s2⟩ := HST.out.kinds k hkt
        obtain ⟨s3, s4, s5⟩ := HST.out.there k hkt
        have s4' : ts[k].at_ ≤ s.size := by have e : s.data.toList.length = s.size := rfl; omega
        rw [HN.out] at s1
        have hrise : 0 < k → ∀ W, Only (fun _ => False) w2 W → ∃ z : Nat, W.cell? ⟨g, o + (k - 1) * 4 + 3, none⟩ = some (.int .i64 (z : Int)) ∧ z < ts[k].at_ := fun h W hW => by
          obtain ⟨g', o', c', hv', _, _, _, HC⟩ := (HTR.out.still hW).at_ (i := 0) (by rw [HN.out]; exact hone)
          injection hv' with hv' hx1 hx2
          injection hv' with hv'
          injection hv' with e1 e2 e3
          subst e1; subst e2
          obtain ⟨_, _, _, b4⟩ := HC (k - 1) (by omega)
          refine ⟨_, b4, ?_⟩
          have := HST.out.rise (k - 1) (by omega)
          simp only [show k - 1 + 1 = k from by omega] at this
          exact this
        have htxt : ts[k].kind ≠ 3 → ts[k].kind ≠ 0 → ts[k].at_ + ts[k].text.length ≤ s.size ∧ s.extract ts[k].at_ (ts[k].at_ + ts[k].text.length) = ⟨ts[k].text.toArray⟩ := fun n3 n0 => by
          have h := s5 n3 n0
          rw [Nat.sub_zero] at h
          have hl := congrArg List.length h
          rw [List.length_take, List.length_drop] at hl
          have e : s.data.toList.length = s.size := rfl
          exact ⟨by omega, ba_eq (by rw [extract_list, Nat.add_sub_cancel_left]; exact h)⟩
        have HRISE := Lib.hid hrise; have HTXT := Lib.hid htxt; clear hrise htxt s5 s3 s4
        generalize ts[k] = t at *
        obtain ⟨kd, tx, nn, at_⟩ := t
        simp only at a1 a2 a3 a4 s1 s2 s4'
        simp only at HTXT HRISE
        obtain ⟨tb, htb⟩ : ∃ tb : ByteArray, tb = ⟨tx.toArray⟩ := ⟨_, rfl⟩
        have htl : tx.length = tb.size := by rw [htb]; rfl
        rw [htl, ← htb] at HTXT
        rw [← htb] at a2
        clear htb htl hkt
        obtain ⟨W, hW⟩ : ∃ W, W = wr.alloc (.cells [.int .u8 (kd : Int), .string tb, .int .i64 nn, .int .i64 (at_ : Int)].toArray 33) := ⟨_, rfl⟩
        obtain ⟨b0, hb0⟩ : ∃ b0, wr.heap.size = b0 := ⟨_, rfl⟩
        have hbx : W.heap[b0]? = some (.cells [.int .u8 (kd : Int), .string tb, .int .i64 nn, .int .i64 (at_ : Int)].toArray 33 (0, 0)) := by rw [hW, ← hb0]; exact heap_new _ _
        have hOW : Only (fun _ => False) w2 W := by rw [hW]; exact OR.out.alloc _
        obtain ⟨z0, z1, z2, z3⟩ := box4 hbx
        have HOW := Lib.hid hOW; have HW := Lib.hid hW; have HB0 := Lib.hid hb0
        clear hbx hOW hW hb0
        go_upto_region 10 with (fail)
        rw [HB0.out, ← HW.out]
        clear HB0 HW a1 a2 a3 a4 H1
        have hkd : (k + 1 = N ∧ kd = 0) ∨ (k + 1 < N ∧ 0 < kd) := by omega
        have fin : (0 < kd ∧ kd ≠ 3 ∧ at_ + tb.size ≤ s.size ∧ s.extract at_ (at_ + tb.size) = tb) ∨ kd = 0 ∨ kd = 3 := by
          by_cases h0 : kd = 0
          · exact .inr (.inl h0)
          · by_cases h3 : kd = 3
            · exact .inr (.inr h3)
            · have := HTXT.out h3 h0
              exact .inl ⟨by omega, h3, this.1, this.2⟩
        have FIN := Lib.hid fin; have HR2 := Lib.hid (HRISE.out); have S2 := Lib.hid s2
        clear fin s1 s2 HTXT HRISE
        have kind : ∃ b1 b2 : Bool, ((kd : Int) == 0) = b1 ∧ ((k : Int) == (N : Int) - 1) = b1 := by
          rcases hkd with ⟨h1, h2⟩ | ⟨h1, h2⟩
          · exact ⟨true, true, by simp [h2], by simp; omega⟩
          · exact ⟨false, true, by simp; omega, by simp; omega⟩
        obtain ⟨b1, _, hb1, hb2⟩ := kind
        clear hkd
        go_cut [64] from 41 to 64 (fun v w' => v = .bool false ∧ Hid (∃ q, w' = W.drewN q))
        case first =>
          by_cases hk0 : 0 < k
          · obtain ⟨z, c4, hz⟩ := HR2.out hk0 W HOW.out
            have t2 : decide ((k : Int) > 0) = true := decide_eq_true (by omega)
            have t3 : decide ((at_ : Int) ≤ (z : Int)) = false := decide_eq_false (by omega)
            have i1 : (0 : Int) ≤ (k : Int) - 1 := by omega
            have i2 : (k : Int) - 1 < (N : Int) := by omega
            have i6 : 1 ≤ (k : Int) := by omega
            have i7 : 1 ≤ k := by omega
            have i8 : k - 1 < N := by omega
            have i9 : (k : Int) < (N : Int) + 1 := by omega
            have i10 : (k : Int) ≤ (N : Int) := by omega
            have i3 : IntKind.i64.wrap ((k : Int) - 1) = (k : Int) - 1 := IntWalk.i64_in _ (by omega)
            have i4 : ((k : Int) - 1).toNat = k - 1 := by omega
            have i5 : IntKind.i64.wrap ((N : Int) - 1) = (N : Int) - 1 := IntWalk.i64_in _ (by omega)
            cases b1 <;> (
              go_quiet (fail)
              go_wp2_with fail
              go_meet
              case rel => exact ⟨by first | rfl | (simp; done) | (simp; omega), Lib.hid ⟨nq, by first | rfl | simp [go_sem]⟩⟩)
          · have t2 : decide ((k : Int) > 0) = false := decide_eq_false (by omega)
            have i5 : IntKind.i64.wrap ((N : Int) - 1) = (N : Int) - 1 := IntWalk.i64_in _ (by omega)
            cases b1 <;> (
              go_quiet (fail)
              go_wp2_with fail
              go_meet
              case rel => exact ⟨by first | rfl | (simp; done) | (simp; omega), Lib.hid ⟨nq, by first | rfl | simp [go_sem]⟩⟩)
        case rest =>
          obtain ⟨rfl, hq⟩ := hcut
          obtain ⟨q, rfl⟩ := hq.out
          clear hq hb1 hb2
          have HOQ := Lib.hid (HOW.out.drewN q)
          have fin2 : ∀ w', (∃ q', w' = (W.drewN q).drewN q') → Only (fun _ => False) w2 w' := fun w' h => by obtain ⟨q', rfl⟩ := h; exact HOQ.out.drewN q'
          have F2 := Lib.hid fin2; clear fin2
          go_upto_region 12 with (fail)
          go_cut [98] from 65 to 98 (fun v w' => v = .bool false ∧ Hid (∃ q', w' = (W.drewN q).drewN q'))
          case first =>
            rcases FIN.out with ⟨h0, h3, hle, hex⟩ | rfl | rfl
            · have t2 : ((kd : Int) == 3) = false := by simp; omega
              have t3 : ((kd : Int) == 0) = false := by simp; omega
              have t6 : ((kd : Int) != 3) = true := by simp; omega
              have t7 : ((kd : Int) != 0) = true := by simp; omega
              have t5 : decide ((s.size : Int) - (at_ : Int) < (tb.size : Int)) = false := decide_eq_false (by omega)
              have i1 : IntKind.i64.wrap ((s.size : Int) - (at_ : Int)) = (s.size : Int) - (at_ : Int) := IntWalk.i64_in _ (by omega)
              have i2 : IntKind.i64.wrap ((at_ : Int) + (tb.size : Int)) = (at_ : Int) + (tb.size : Int) := IntWalk.i64_in _ (by omega)
              have i3 : ((at_ : Int) + (tb.size : Int)).toNat = at_ + tb.size := by omega
              have i4 : (at_ : Int) ≤ (at_ : Int) + (tb.size : Int) := by omega
              have i5 : (at_ : Int) + (tb.size : Int) ≤ (s.size : Int) := by omega
              have i6 : (0 : Int) ≤ (at_ : Int) + (tb.size : Int) := by omega
              have i7 : at_ ≤ at_ + tb.size := by omega
              have i8 : (0 : Int) ≤ (tb.size : Int) := by omega
              clear s4'
              go_quiet (fail)
              go_wp2_with fail
              go_meet
              case rel => exact ⟨by first | rfl | (simp; done) | (simp; omega), Lib.hid ⟨nq, by first | rfl | simp [go_sem]⟩⟩
            · go_quiet (fail)
              go_wp2_with fail
              go_meet
              case rel => exact ⟨by first | rfl | (simp; done) | (simp; omega), Lib.hid ⟨nq, by first | rfl | simp [go_sem]⟩⟩
            · go_quiet (fail)
              go_wp2_with fail
              go_meet
              case rel => exact ⟨by first | rfl | (simp; done) | (simp; omega), Lib.hid ⟨nq, by first | rfl | simp [go_sem]⟩⟩
          case rest =>
            obtain ⟨rfl, hq⟩ := hcut
            have HOF := Lib.hid (F2.out _ hq.out)
            clear hq z0 z1 z2 z3 F2
            go_wp2_with fail
            go_roundw
            case rel => exact ⟨k + 1, by simp, by omega, HOF⟩
            case measure => simp [intOf]; omega
      · have t1 : decide ((k : Int) < (N : Int)) = false := decide_eq_false (by omega)
        obtain ⟨_, _, _, a4⟩ := H1.out (N - 1) (by rw [HN.out]; omega)
        have hl := HST.out.last (by rw [HN.out]; omega)
        simp only [HN.out] at hl
        rw [hl, Nat.zero_add] at a4
        have a4 : wr.cell? ⟨g, o + (N - 1) * 4 + 3, none⟩ = some (.int .i64 (s.size : Int)) := a4
        have i1 : (0 : Int) ≤ (N : Int) - 1 := by omega
        have i2 : (N : Int) - 1 < (N : Int) := by omega
        have i4 : ((N : Int) - 1).toNat = N - 1 := by omega
        have i6 : 1 ≤ (N : Int) := by omega
        have i7 : 1 ≤ N := by omega
        have i8 : N - 1 < N := by omega
        have t2 : decide ((N : Int) > 0) = true := decide_eq_true (by omega)
        have HF := Lib.hid (HO2.out.trans OR.out)
        clear hl H1
        go_wp2_with fail
        go_ret
        exact ⟨rfl, HF.out.below (Nat.le_refl _) (fun _ _ h => h)⟩
end Go.Proofs.YtjcigaceacgjaaaDoor
