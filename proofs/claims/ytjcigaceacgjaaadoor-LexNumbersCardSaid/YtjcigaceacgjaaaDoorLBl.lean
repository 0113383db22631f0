/- LexBlanks: the walk. -/
import Derived.Test.YtjcigaceacgjaaaDoorLJn
namespace Go.Proofs.YtjcigaceacgjaaaDoor
open Go Go.RowKit
set_option linter.unusedVariables false
set_option linter.unusedSimpArgs false

theorem cat_list (a b : List UInt8) : (⟨a.toArray⟩ : ByteArray) ++ ⟨b.toArray⟩ = ⟨(a ++ b).toArray⟩ := by
  apply ByteArray.ext; simp
theorem cat_str (a : List UInt8) (s : ByteArray) : ((⟨a.toArray⟩ : ByteArray) ++ s).data.toList = a ++ s.data.toList := by simp
/-- A row of bytes that the caller owns, in a later world. -/
theorem row_cell {w W : World} {a : Option Addr} {len cap : Nat} {z : List Int} (h : IsRow .u8 w a len cap z) (hW : Only (fun _ => False) w W) {k : Nat} (hk : k < len) :
    ∃ b off, a = some ⟨b, off, none⟩ ∧ W.cell? ⟨b, off + k, none⟩ = some (.int .u8 (z.getD k 0)) ∧ 0 ≤ z.getD k 0 ∧ z.getD k 0 ≤ 255 := by
  rcases h with ⟨_, rfl, _, _⟩ | ⟨⟨b, off, spot⟩, rfl, h1, h2, h3, h4, h5⟩
  · omega
  · have hs : spot = none := by simpa [Addr.add] using World.cell?_spot (h4 0 (by omega))
    subst hs
    have hc := h4 k (by omega)
    rw [addr_add] at hc
    have hm : z.getD k 0 ∈ z := by rw [List.getD_eq_getElem?_getD, List.getElem?_eq_getElem (by omega)]; exact List.getElem_mem _
    have hw := h5 _ hm
    have hb := cell_lt hc
    refine ⟨b, off, rfl, ?_, ?_⟩
    · simp only [World.cell?] at hc ⊢
      rw [hW.block b hb (fun h => h)]; exact hc
    · simp [Lit.wf, IntKind.min, IntKind.max, IntKind.signed, IntKind.bits] at hw
      simpa using hw
theorem row_len {w : World} {a : Option Addr} {len cap : Nat} {z : List Int} (h : IsRow .u8 w a len cap z) : len ≤ z.length ∧ cap ≤ maxLen ∧ len ≤ cap := by
  rcases h with ⟨_, rfl, rfl, rfl⟩ | ⟨x, _, h1, h2, h3, _⟩
  · simp
  · omega
def gapC (n : Nat) : Value := .string ⟨(gapL n).toArray⟩
theorem gap_cell {W : World} {g : Nat} {T : TypeId} (h : W.heap[g]? = some (.cells #[gapC 0, gapC 1, gapC 2, gapC 3, gapC 4, gapC 5] T (0, 0))) {m : Nat} (hm : m < 6) : W.cell? ⟨g, m, none⟩ = some (.string ⟨(gapL m).toArray⟩) := by
  match m, hm with
  | 0, _ => simp [World.cell?, h, gapC]
  | 1, _ => simp [World.cell?, h, gapC]
  | 2, _ => simp [World.cell?, h, gapC]
  | 3, _ => simp [World.cell?, h, gapC]
  | 4, _ => simp [World.cell?, h, gapC]
  | 5, _ => simp [World.cell?, h, gapC]
def aheadZ (z : List Int) (k : Nat) : List UInt8 := aheadL ((z.take k).map Int.toNat)
theorem aheadZ_zero (z : List Int) : aheadZ z 0 = [] := by simp [aheadZ, aheadL]
theorem aheadZ_succ {z : List Int} {k : Nat} (h : k < z.length) : aheadZ z (k + 1) = aheadZ z k ++ gapL ((z.getD k 0).toNat % 6) := by
  unfold aheadZ
  rw [List.take_succ_eq_append_getElem h, List.map_append, List.map_singleton, ahead_snoc, List.getD_eq_getElem?_getD, List.getElem?_eq_getElem h]; rfl
theorem aheadZ_len (z : List Int) (k : Nat) : (aheadZ z k).length ≤ 8 * k := by
  unfold aheadZ
  have := ahead_len ((z.take k).map Int.toNat)
  rw [List.length_map, List.length_take] at this
  omega
theorem toks_aheadZ {z : List Int} {k : Nat} {s : List UInt8} (h : (aheadZ z k).length + s.length ≤ 2000) : toks (aheadZ z k ++ s) = (toks s).up (aheadZ z k).length := toks_ahead h
set_option maxRecDepth 100000 in
set_option maxHeartbeats 8000000 in
theorem lblanks_walk (s : ByteArray) (a : Option Addr) (len cap : Nat) (z : List Int) (w : World) (hs : s.size ≤ maxLen) (hz : IsRow .u8 w a len cap z) : Calls Tryd.prog 8 #[.string s, .slice a len cap] w fun e w' => e = .returned (.bool true) ∧ Below w.heap.size w w' := by
  have A := Lib.hid (awake05 w)
  have HS := Lib.hid hs; have HZ := Lib.hid hz
  unfold maxLen at hs
  obtain ⟨hlz, hcm, hlc⟩ := row_len hz
  unfold maxLen at hcm
  clear hz
  go_enter Tryd.func8, Tryd.ntmps8
  go_wp2_with fail
  refine A.out.mono ?_
  rintro e w1 ⟨rfl, O1⟩
  have HO1 := Lib.hid O1; clear O1 A
  by_cases hbig : 900 < s.size ∨ 300 < len
  · have A := Lib.hid (awake05 w1)
    have hd : (decide ((s.size : Int) > 900) = true) ∨ (decide ((s.size : Int) > 900) = false ∧ decide ((len : Int) > 300) = true) := by
      by_cases h : 900 < s.size
      · exact .inl (decide_eq_true (by omega))
      · exact .inr ⟨decide_eq_false (by omega), decide_eq_true (by omega)⟩
    clear hbig
    rcases hd with t1 | ⟨t1, t2⟩ <;> (
      go_wp2_with fail
      refine A.out.mono ?_
      rintro e w2 ⟨rfl, O2⟩
      have HO2 := Lib.hid (HO1.out.trans O2); clear O2 A
      go_wp2_with fail
      go_ret
      exact ⟨rfl, HO2.out.below (Nat.le_refl _) (fun _ _ h => h)⟩)
  have t1 : decide ((s.size : Int) > 900) = false := decide_eq_false (by omega)
  have t2 : decide ((len : Int) > 300) = false := decide_eq_false (by omega)
  have hs9 : s.size ≤ 900 := by omega
  have hl3 : len ≤ 300 := by omega
  clear hbig hs
  obtain ⟨W, hW⟩ : ∃ W, W = w1.alloc (.cells #[.string ⟨#[32]⟩, .string ⟨#[9]⟩, .string ⟨#[10]⟩, .string ⟨#[13]⟩, .string ⟨#[44]⟩, .string ⟨#[35, 32, 120, 32, 123, 32, 34, 10]⟩] 9) := ⟨_, rfl⟩
  obtain ⟨gb, hgb⟩ : ∃ gb, w1.heap.size = gb := ⟨_, rfl⟩
  have hbx : W.heap[gb]? = some (.cells #[gapC 0, gapC 1, gapC 2, gapC 3, gapC 4, gapC 5] 9 (0, 0)) := by rw [hW, ← hgb]; exact heap_new _ _
  have hOW : Only (fun _ => False) w W := by rw [hW]; exact HO1.out.alloc _
  have HBX := Lib.hid hbx; have HOW := Lib.hid hOW; have HW := Lib.hid hW; have HGB := Lib.hid hgb
  clear hbx hOW hW hgb
  go_upto_region 5 with (fail)
  rw [HGB.out, ← HW.out]
  clear HGB HW
  go_wp2_with fail
  clear t1 t2
  go_loopw [5, 7] (fun y x wr => ∃ k : Nat, x = .int .i64 (k : Int) ∧ k ≤ len ∧ y = .string ⟨(aheadZ z k).toArray⟩ ∧ wr = W) (fun _ x _ => len - (intOf x).toNat)
  case atStart => exact ⟨0, rfl, by omega, by rw [aheadZ_zero], rfl⟩
  case round =>
    obtain ⟨k, rfl, hk, rfl, rfl⟩ := hrel
    by_cases hlt : k < len
    · have t1 : decide ((k : Int) < (len : Int)) = true := decide_eq_true (by omega)
      have hkl : (k : Int) < (len : Int) := by omega
      obtain ⟨b, off, rfl, hc, hz1, hz2⟩ := row_cell HZ.out HOW.out hlt
      have hsu := aheadZ_succ (z := z) (k := k) (by omega)
      have hal := aheadZ_len z k
      obtain ⟨ah, hah⟩ : ∃ ah, aheadZ z k = ah := ⟨_, rfl⟩
      rw [hah] at hsu hal ⊢
      clear hah
      obtain ⟨m, hm⟩ : ∃ m, (z.getD k 0).toNat % 6 = m := ⟨_, rfl⟩
      rw [hm] at hsu
      have hm6 : m < 6 := by omega
      have hgc := gap_cell HBX.out hm6
      have hmi : z.getD k 0 % 6 = (m : Int) := by omega
      have hgl := gap_len m
      obtain ⟨gl, hgl'⟩ : ∃ gl, gapL m = gl := ⟨_, rfl⟩
      rw [hgl'] at hsu hgc hgl
      have HSU := Lib.hid hsu
      clear hm hgl' hsu
      obtain ⟨zk, hzk⟩ : ∃ zk, z.getD k 0 = zk := ⟨_, rfl⟩
      rw [hzk] at hc hz1 hz2 hmi
      clear hzk
      have hm63 : (m : Int) < 6 := by omega
      go_wp2_with fail
      go_roundw
      case rel => exact ⟨k + 1, by simp, by omega, by rw [HSU.out, cat_list], by first | rfl | trivial⟩
      case measure => simp [intOf]; omega
    · have t1 : decide ((k : Int) < (len : Int)) = false := decide_eq_false (by omega)
      have hke : k = len := by omega
      subst hke
      obtain ⟨ah, hah⟩ : ∃ ah, aheadZ z k = ah := ⟨_, rfl⟩
      have hal := aheadZ_len z k
      rw [hah] at hal ⊢
      have hah8 : ah.length ≤ 2400 := by omega
      clear hal
      have HAH := Lib.hid hah; clear hah
      have T := Lib.hid (tokens_any s wr HS.out)
      obtain ⟨ab, hab⟩ : ∃ ab : ByteArray, ab = ⟨ah.toArray⟩ := ⟨_, rfl⟩
      have habs : ab.size = ah.length := by rw [hab]; rfl
      have hcat : (ab ++ s).data.toList = ah ++ s.data.toList := by rw [hab, cat_str]
      have hcs : (ab ++ s).size ≤ maxLen := by
        have e : (ab ++ s).size = (ab ++ s).data.toList.length := rfl
        rw [e, hcat, List.length_append]
        have e2 : s.data.toList.length = s.size := rfl
        unfold maxLen; omega
      rw [← hab]
      have HCAT := Lib.hid hcat; have HCS := Lib.hid hcs; have HABS := Lib.hid habs
      have hab8 : ab.size ≤ 2400 := by omega
      clear hab hcat hcs habs hah8
      by_cases hbig : 2000 < ab.size + s.size
      · have t2 : decide ((ab.size : Int) + (s.size : Int) > 2000) = true := decide_eq_true (by omega)
        have hbd : toks (ah ++ s.data.toList) = .bad 0 2 := by
          unfold toks; rw [if_pos]
          rw [List.length_append]
          have e2 : s.data.toList.length = s.size := rfl
          have := HABS.out
          omega
        have HBD := Lib.hid hbd; clear hbd
        go_wp2_with fail
        refine T.out.mono ?_
        rintro e w3 hT
        obtain ⟨ta, tn, tc, tx, ty, rfl, O3⟩ := hT.any
        have HO3 := Lib.hid (HOW.out.trans O3)
        have S := Lib.hid (tokens_any (ab ++ s) w3 HCS.out)
        rw [HCAT.out, HBD.out] at S
        clear O3 T hT
        go_wp2_with fail
        refine S.out.mono ?_
        rintro e w4 ⟨rfl, O4⟩
        have HO4 := Lib.hid (HO3.out.trans O4); clear O4 S
        go_wp2_with fail
        go_ret
        exact ⟨rfl, HO4.out.below (Nat.le_refl _) (fun _ _ h => h)⟩
      · have t2 : decide ((ab.size : Int) + (s.size : Int) > 2000) = false := decide_eq_false (by omega)
        have hup : toks (ah ++ s.data.toList) = (toks s.data.toList).up ab.size := by
          rw [HABS.out, ← HAH.out]
          refine toks_aheadZ ?_
          rw [HAH.out, ← HABS.out]
          show ab.size + s.size ≤ 2000; omega
        cases hP : toks s.data.toList with
        | bad p f =>
          rw [hP] at T hup
          obtain ⟨p1, p2, p3, p4⟩ := toks_off hP
          have HUP := Lib.hid hup
          clear hup hP p1
          have t3 : ((f : Int) == 0) = false := by simp; omega
          have t4 : ((f : Int) != 0) = true := by simp; omega
          go_wp2_with fail
          refine T.out.mono ?_
          rintro e w3 ⟨rfl, O3⟩
          have HO3 := Lib.hid (HOW.out.trans O3)
          have S := Lib.hid (tokens_any (ab ++ s) w3 HCS.out)
          rw [HCAT.out, HUP.out] at S
          clear O3 T
          go_wp2_with fail
          refine S.out.mono ?_
          rintro e w4 ⟨rfl, O4⟩
          have HO4 := Lib.hid (HO3.out.trans O4); clear O4 S
          rw [show ((p + ab.size : Nat) : Int) = (p : Int) + (ab.size : Int) from by omega]
          go_wp2_with fail
          clear t1 t2 t3 t4
          go_loopw [14] (fun x wr => x = .int .i64 0 ∧ wr = w4) (fun _ _ => 0)
          case atStart => exact ⟨rfl, rfl⟩
          case round =>
            obtain ⟨rfl, rfl⟩ := hrel
            go_wp2_with fail
            go_ret
            exact ⟨rfl, HO4.out.below (Nat.le_refl _) (fun _ _ h => h)⟩
        | ok ts =>
          rw [hP] at T hup
          obtain ⟨hone, hat⟩ := toks_at hP
          have HUP := Lib.hid hup; have HAT := Lib.hid hat
          clear hup hP hat
          go_wp2_with fail
          refine T.out.mono ?_
          rintro e w3 ⟨v, rfl, how, O3⟩
          have TR := Lib.hid (TRow.of_own how hone)
          have HO3 := Lib.hid (HOW.out.trans O3)
          have S := Lib.hid (tokens_any (ab ++ s) w3 HCS.out)
          rw [HCAT.out, HUP.out] at S
          clear O3 T how
          go_wp2_with fail
          refine S.out.mono ?_
          rintro e w4 ⟨x, rfl, how, O4⟩
          have XR := Lib.hid (TRow.of_own how (by rw [List.length_map]; exact hone))
          have TR4 := Lib.hid (TR.out.still O4)
          have HO4 := Lib.hid (HO3.out.trans O4); clear O4 S how
          obtain ⟨g1, o1, c1, rfl, k1, k2, k3, HC1⟩ := TR4.out.at_ (i := 0) hone
          obtain ⟨g2, o2, c2, rfl, k4, k5, k6, HC2⟩ := XR.out.at_ (i := 0) (by rw [List.length_map]; exact hone)
          have H1 := Lib.hid HC1; have H2 := Lib.hid HC2
          clear HC1 HC2
          rw [List.length_map] at k4 ⊢
          obtain ⟨N, hN⟩ : ∃ N, ts.length = N := ⟨_, rfl⟩
          rw [hN] at k1 k4 hone ⊢
          have HN := Lib.hid hN; clear hN
          unfold maxLen at k2 k5
          go_wp2_with fail
          clear t1 t2
          go_loopw [14] (fun x wr => ∃ j : Nat, x = .int .i64 (j : Int) ∧ j ≤ N ∧ ∃ q, wr = w4.drewN q) (fun x _ => N - (intOf x).toNat)
          case atStart => exact ⟨0, rfl, by omega, 0, rfl⟩
          case round =>
            obtain ⟨j, rfl, hj, q, rfl⟩ := hrel
            by_cases hlt2 : j < N
            · have t1 : decide ((j : Int) < (N : Int)) = true := decide_eq_true (by omega)
              have hj1 : j < ts.length := by rw [HN.out]; omega
              have hj2 : j < (ts.map (Tok.upp ab.size)).length := by rw [List.length_map]; exact hj1
              have hjk : (j : Int) < (N : Int) := by omega
              obtain ⟨a1, a2, a3, a4⟩ := H1.out j hj1
              obtain ⟨b1, b2, b3, b4⟩ := H2.out j hj2
              have hat := HAT.out ts[j] (List.getElem_mem hj1)
              have hat2 : ts[j].at_ ≤ 900 := by have e : s.data.toList.length = s.size := rfl; omega
              rw [List.getElem_map] at b1 b2 b3 b4
              simp only [Tok.upp] at b1 b2 b3 b4
              clear hat
              generalize ts[j] = t at *
              obtain ⟨kd, tx, nn, at_⟩ := t
              simp only at a1 a2 a3 a4 b1 b2 b3 b4 hat2
              rw [show ((at_ + ab.size : Nat) : Int) = (at_ : Int) + (ab.size : Int) from by omega] at b4
              clear hj1 hj2
              go_wp2_with fail
              go_quiet (fail)
              clear a1 a2 a3 a4 b1 b2 b3 b4
              go_wp2_with fail
              go_roundw
              case rel => exact ⟨j + 1, by simp, by omega, q + nq, by simp [go_sem]⟩
              case measure => simp [intOf]; omega
            · have t1 : decide ((j : Int) < (N : Int)) = false := decide_eq_false (by omega)
              have HF := Lib.hid (HO4.out.drewN q)
              go_wp2_with fail
              go_ret
              exact ⟨rfl, HF.out.below (Nat.le_refl _) (fun _ _ h => h)⟩
end Go.Proofs.YtjcigaceacgjaaaDoor
