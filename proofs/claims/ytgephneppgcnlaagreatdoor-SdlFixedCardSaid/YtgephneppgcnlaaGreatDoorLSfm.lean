/- What something is else has no variables in it: the texts of the law, in plain Lean. SdlFixed: the walk. -/
import Derived.Test.YtgephneppgcnlaaGreatDoorTdk
import Derived.Lib.Hide
import Derived.Test.YtgephneppgcnlaaGreatDoorMSb
import Derived.Test.YtgephneppgcnlaaGreatDoorMSc
import Derived.Test.YtgephneppgcnlaaGreatDoorMRa
import Derived.Test.YtgephneppgcnlaaGreatDoorRwc
namespace Go.Proofs.YtgephneppgcnlaaGreatDoor
set_option linter.unusedVariables false
set_option linter.unusedSimpArgs false

def fixRep (c : UInt8) : Nat → List UInt8
  | 0 => []
  | n + 1 => fixRep c n ++ [c]
def fixPre : List UInt8 := [105, 110, 112, 117, 116, 32, 73, 32, 123, 32, 97, 58, 32, 73, 110, 116, 32, 61, 32]
def fixS (k : Nat) : List UInt8 := fixPre ++ fixRep 91 k
def fixA (k : Nat) : List UInt8 := fixS k ++ [36, 120]
def fixB (k : Nat) : List UInt8 := fixS k ++ [49] ++ fixRep 93 k ++ [32, 125]
theorem fixRep_len (c : UInt8) : ∀ k, (fixRep c k).length = k
  | 0 => rfl
  | k + 1 => by rw [fixRep, List.length_append, fixRep_len c k]; rfl
theorem fixS_len (k : Nat) : (fixS k).length = 19 + k := by
  unfold fixS; rw [List.length_append, fixRep_len]; rfl
def fixBad (k : Nat) : Bool := match tysP (fixA k) with | .bad x c => decide (x = 19 + k) && decide (c = 4) | .ok _ => false
def fixOk (k : Nat) : Bool := match toks (fixB k) with
  | .bad _ _ => false
  | .ok ts => !isT wType ts && !isT wInterface ts && !isT wUnion ts && !isT wEnum ts && isT wInput ts && (match tdP ts with | .ok _ r1 => isK 0 r1 | .bad _ _ => false)
set_option maxRecDepth 100000 in
theorem fix_all : ((List.range 10).all fun k => fixBad k && fixOk k) = true := by kernel_rfl
theorem fix_one {k : Nat} (h : k < 10) : fixBad k = true ∧ fixOk k = true := by
  have := List.all_eq_true.1 fix_all k (List.mem_range.2 h)
  simpa using this
theorem fix_bad {k : Nat} (h : k < 10) : tysP (fixA k) = .bad (19 + k) 4 := by
  have hb := (fix_one h).1
  unfold fixBad at hb
  cases ht : tysP (fixA k) with
  | ok d => rw [ht] at hb; cases hb
  | bad x c =>
    rw [ht] at hb
    simp only [Bool.and_eq_true, decide_eq_true_eq] at hb
    rw [hb.1, hb.2]
theorem fix_ok {k : Nat} (h : k < 10) : ∃ ts td r1, toks (fixB k) = .ok ts ∧ (∀ i, i < 4 → isT (wordK i) ts = false) ∧ isT (wordK 4) ts = true ∧ tdP ts = .ok td r1 ∧ isK 0 r1 = true ∧ tysP (fixB k) = .ok [td] := by
  have hb := (fix_one h).2
  unfold fixOk at hb
  cases ht : toks (fixB k) with
  | bad x c => rw [ht] at hb; cases hb
  | ok ts =>
    rw [ht] at hb
    simp only [Bool.and_eq_true, Bool.not_eq_true'] at hb
    obtain ⟨⟨⟨⟨⟨h1, h2⟩, h3⟩, h4⟩, h5⟩, h6⟩ := hb
    cases hq : tdP ts with
    | bad a e => rw [hq] at h6; cases h6
    | ok td r1 =>
      rw [hq] at h6
      have h6 : isK 0 r1 = true := h6
      refine ⟨ts, td, r1, rfl, fun i hi => ?_, h5, hq, h6, ?_⟩
      · obtain rfl | rfl | rfl | rfl : i = 0 ∨ i = 1 ∨ i = 2 ∨ i = 3 := by omega
        · exact h1
        · exact h2
        · exact h3
        · exact h4
      · unfold tysP
        rw [ht]
        show (match tysF (ts.length + 1) [] ts with | .ok d _ => TR1.ok d | .bad a e => .bad a e) = _
        have e : tysF (ts.length + 1) [] ts = .ok [td] r1 := by
          rw [tysF, hq]
          show (if isK 0 r1 = true then PR.ok ([] ++ [td]) r1 else tysF ts.length ([] ++ [td]) r1) = _
          rw [if_pos h6]; rfl
        rw [e]
end Go.Proofs.YtgephneppgcnlaaGreatDoor
namespace Go.Proofs.YtgephneppgcnlaaGreatDoor
open Go Go.RowKit
set_option linter.unusedVariables false
set_option linter.unusedSimpArgs false

theorem fixS_next (k : Nat) : (⟨(fixS k).toArray⟩ : ByteArray) ++ ⟨#[91]⟩ = ⟨(fixS (k + 1)).toArray⟩ := by
  rw [show (⟨#[91]⟩ : ByteArray) = ⟨([91] : List UInt8).toArray⟩ from rfl, cat_list]
  unfold fixS
  rw [fixRep, List.append_assoc]
theorem fixR_next (k : Nat) : (⟨(fixRep 93 k).toArray⟩ : ByteArray) ++ ⟨#[93]⟩ = ⟨(fixRep 93 (k + 1)).toArray⟩ := by
  rw [show (⟨#[93]⟩ : ByteArray) = ⟨([93] : List UInt8).toArray⟩ from rfl, cat_list]
  rw [fixRep]
theorem fixA_eq (k : Nat) : (⟨(fixS k).toArray⟩ : ByteArray) ++ ⟨#[36, 120]⟩ = ⟨(fixA k).toArray⟩ := by
  rw [show (⟨#[36, 120]⟩ : ByteArray) = ⟨([36, 120] : List UInt8).toArray⟩ from rfl, cat_list]; rfl
theorem fixB_eq (k : Nat) : (⟨(fixS k).toArray⟩ : ByteArray) ++ ⟨#[49]⟩ ++ ⟨(fixRep 93 k).toArray⟩ ++ ⟨#[32, 125]⟩ = ⟨(fixB k).toArray⟩ := by
  rw [show (⟨#[49]⟩ : ByteArray) = ⟨([49] : List UInt8).toArray⟩ from rfl, show (⟨#[32, 125]⟩ : ByteArray) = ⟨([32, 125] : List UInt8).toArray⟩ from rfl, cat_list, cat_list, cat_list]; rfl
theorem u8_bdF {n : Int} (h : (Lit.int .u8 n).wf = true) : 0 ≤ n ∧ n ≤ 255 := by
  simp [Lit.wf, IntKind.min, IntKind.max, IntKind.signed, IntKind.bits] at h; omega
set_option maxRecDepth 100000 in
set_option maxHeartbeats 8000000 in
theorem sfixed_walk (n : Int) (w : World) (hw : (Lit.int .u8 n).wf = true) : Calls Tryz.prog 3 #[.int .u8 n] w fun e w' => e = .returned (.bool true) ∧ Below w.heap.size w w' := by
  have A := Lib.hid (awake07 w)
  obtain ⟨h0, h1⟩ := u8_bdF hw
  obtain ⟨k, hk2, hke⟩ : ∃ k : Nat, k < 10 ∧ n % 10 = (k : Int) := by
    refine ⟨(n % 10).toNat, ?_, ?_⟩
    all_goals omega
  have HKE := Lib.hid hke
  obtain ⟨SB, hSB⟩ : ∃ f : Nat → ByteArray, (fun j => (⟨(fixS j).toArray⟩ : ByteArray)) = f := ⟨_, rfl⟩
  obtain ⟨RB, hRB⟩ : ∃ f : Nat → ByteArray, (fun j => (⟨(fixRep 93 j).toArray⟩ : ByteArray)) = f := ⟨_, rfl⟩
  have s0 : SB 0 = ⟨#[105, 110, 112, 117, 116, 32, 73, 32, 123, 32, 97, 58, 32, 73, 110, 116, 32, 61, 32]⟩ := by rw [← hSB]; rfl
  have sn : ∀ j, SB j ++ ⟨#[91]⟩ = SB (j + 1) := fun j => by rw [← hSB]; exact fixS_next j
  have sl : ∀ j, (SB j).size = 19 + j := fun j => by rw [← hSB]; exact fixS_len j
  have r0 : RB 0 = ⟨#[]⟩ := by rw [← hRB]; rfl
  have rn : ∀ j, RB j ++ ⟨#[93]⟩ = RB (j + 1) := fun j => by rw [← hRB]; exact fixR_next j
  have rl : ∀ j, (RB j).size = j := fun j => by rw [← hRB]; exact fixRep_len 93 j
  have ea : SB k ++ ⟨#[36, 120]⟩ = ⟨(fixA k).toArray⟩ := by rw [← hSB]; exact fixA_eq k
  have eb : SB k ++ ⟨#[49]⟩ ++ RB k ++ ⟨#[32, 125]⟩ = ⟨(fixB k).toArray⟩ := by rw [← hSB, ← hRB]; exact fixB_eq k
  have la : (fixA k).length ≤ maxLen := by unfold fixA maxLen; rw [List.length_append, fixS_len]; simp; omega
  have lb : (fixB k).length ≤ maxLen := by unfold fixB maxLen; simp only [List.length_append, fixS_len, fixRep_len]; simp; omega
  have hbad := fix_bad hk2
  obtain ⟨ts, td, r1, q1, q2, q3, q4, q5, q6⟩ := fix_ok hk2
  have HS0 := Lib.hid s0; have HSN := Lib.hid sn; have HSL := Lib.hid sl; have HR0 := Lib.hid r0; have HRN := Lib.hid rn; have HRL := Lib.hid rl; have HEA := Lib.hid ea; have HEB := Lib.hid eb; have HLA := Lib.hid la; have HLB := Lib.hid lb; have HBAD := Lib.hid hbad
  have HQ := Lib.hid (And.intro q1 (And.intro q2 (And.intro q3 (And.intro q4 (And.intro q5 q6)))))
  clear s0 sn sl r0 rn rl ea eb la lb hbad q1 q2 q3 q4 q5 q6 hSB hRB hw hke
  go_enter Tryz.func3, Tryz.ntmps3
  go_wp2_with fail
  refine A.out.mono ?_
  rintro e w1 ⟨rfl, O1⟩
  have HO1 := Lib.hid O1; clear O1 A
  go_wp2_with fail
  rw [HKE.out, ← HS0.out]
  go_loopw [3, 5] (fun s x wr => ∃ j : Nat, x = .int .i64 (j : Int) ∧ j ≤ k ∧ s = .string (SB j) ∧ wr = w1) (fun _ x _ => k - (intOf x).toNat)
  case atStart => exact ⟨0, rfl, by omega, rfl, rfl⟩
  case round =>
    obtain ⟨j, rfl, hj, rfl, rfl⟩ := hrel
    by_cases hlt : j < k
    · have t1 : decide ((j : Int) < (k : Int)) = true := decide_eq_true (by omega)
      have HS := Lib.hid (HSN.out j)
      have hl1 : (SB j).size ≤ 60 := by rw [HSL.out]; omega
      generalize SB j = aj at *
      go_wp2_with fail
      go_roundw
      case rel => exact ⟨j + 1, by simp, by omega, by rw [← HS.out], by first | rfl | trivial⟩
      case measure => simp [intOf]; omega
    · have t1 : decide ((j : Int) < (k : Int)) = false := decide_eq_false (by omega)
      have hje : j = k := by omega
      subst hje
      have D := Lib.hid (stypes_any (fixA j) wr HLA.out)
      rw [HBAD.out, ← HEA.out] at D
      have hl1 : (SB j).size ≤ 60 := by rw [HSL.out]; omega
      have HL1 := Lib.hid (HSL.out j)
      obtain ⟨aj, haj⟩ : ∃ x, SB j = x := ⟨_, rfl⟩
      have HAJ := Lib.hid haj
      rw [haj] at D hl1 HL1 ⊢
      clear haj hlt hj
      go_wp2_with fail
      refine D.out.mono ?_
      rintro e w2 ⟨rfl, O2⟩
      have HO2 := Lib.hid (HO1.out.trans O2); clear O2 D
      go_wp2_with fail
      rw [← HR0.out]
      clear t1
      go_loopw [10, 11] (fun s x wr => ∃ i : Nat, x = .int .i64 (i : Int) ∧ i ≤ j ∧ s = .string (RB i) ∧ wr = w2) (fun _ x _ => j - (intOf x).toNat)
      case atStart => exact ⟨0, rfl, by omega, rfl, rfl⟩
      case round =>
        obtain ⟨i, rfl, hi, rfl, rfl⟩ := hrel
        by_cases hlt : i < j
        · have t1 : decide ((i : Int) < (j : Int)) = true := decide_eq_true (by omega)
          have HS := Lib.hid (HRN.out i)
          have hl2 : (RB i).size ≤ 60 := by rw [HRL.out]; omega
          generalize RB i = bj at *
          go_wp2_with fail
          go_roundw
          case rel => exact ⟨i + 1, by simp, by omega, by rw [← HS.out], by first | rfl | trivial⟩
          case measure => simp [intOf]; omega
        · have t1 : decide ((i : Int) < (j : Int)) = false := decide_eq_false (by omega)
          have hie : i = j := by omega
          subst hie
          obtain ⟨q1, q2, q3, q4, q5, q6⟩ := HQ.out
          have D := Lib.hid (stypes_any (fixB i) wr HLB.out)
          have E := Lib.hid (fun w' => ftypes_one ⟨(fixB i).toArray⟩ w' HLB.out ts q1 q2 q3 td r1 q4 q5)
          rw [q6, ← HEB.out, HAJ.out] at D
          rw [← HEB.out, HAJ.out] at E
          have hl2 : (RB i).size ≤ 60 := by rw [HRL.out]; omega
          have hat : ((19 + i : Nat) : Int) = (aj.size : Int) := by rw [HL1.out]
          obtain ⟨bj, hbj⟩ : ∃ x, RB i = x := ⟨_, rfl⟩
          rw [hbj] at D E hl2 ⊢
          have HAT := Lib.hid hat
          obtain ⟨A0, hA0⟩ : ∃ A : Int, (aj.size : Int) = A := ⟨_, rfl⟩
          have t2 : (((19 + i : Nat) : Int) == (aj.size : Int)) = true := by rw [hat]; simp
          clear hbj hlt hi q1 q2 q3 q4 q5 q6 hat hA0
          go_wp2_with fail
          refine D.out.mono ?_
          rintro e w3 ⟨a3, c3, rfl, hc3, O3⟩
          have E2 := Lib.hid (E.out w3)
          have HO3 := Lib.hid (HO2.out.trans O3); have HC3 := Lib.hid hc3
          clear O3 D E hc3
          go_wp2_with fail
          refine E2.out.mono ?_
          rintro e w4 ⟨a4, c4, rfl, hc4, O4⟩
          have HO4 := Lib.hid (HO3.out.trans O4)
          have SM := Lib.hid (sameTDs [td] _ _ w4 _ _ (CellAt.only O4 (fun _ _ h => h) _ _ HC3.out) hc4)
          clear O4 hc4 E2
          go_wp2_with fail
          refine SM.out.mono ?_
          rintro e w5 ⟨rfl, O5⟩
          have HO5 := Lib.hid (HO4.out.trans O5); clear O5
          go_wp2_with fail
          go_ret
          exact ⟨rfl, HO5.out.below (Nat.le_refl _) (fun _ _ h => h)⟩
end Go.Proofs.YtgephneppgcnlaaGreatDoor
