/- Rows of texts: slices.Clone, cmp.Less, slices.IsSorted, slices.Compact. -/
import Derived.Test.YtoojnpafcdaflaaSaw
import Derived.Test.YtoojnpafcdaflaaOwn
import Derived.Test.YtoojnpafcdaflaaVrp
import Derived.Lib.SliceRun
namespace Go.Proofs.Ytoojnpafcdaflaa
open Go Go.RowKit
set_option linter.unusedVariables false
set_option linter.unusedSimpArgs false
set_option maxRecDepth 100000

theorem eql_slice_nilS (w : World) (a : Option Addr) (n c : Nat) : (binOp .eql 32 (.slice a n c) (.slice none 0 0)).run Try.prog w = .ok (.bool a.isNone) w := by
  simp only [binOp]
  simp [Op.equal, Op.maxDepth, Lib.run_equalIn_slice_nil (P := Try.prog) w 9999 32 9 a n c 0 0 Try.underlying32]
theorem TextsAt.cells {w : World} {a : Option Addr} {ks : List (List UInt8)} (h : TextsAt w a ks) {i : Nat} (hi : i < ks.length) : ∃ b off, a = some ⟨b, off, none⟩ ∧ b < w.heap.size ∧ w.cell? ⟨b, off + i, none⟩ = some (.string ⟨(ks[i]).toArray⟩) := by
  obtain ⟨b, off, e, hb, hr⟩ := h (by omega)
  exact ⟨b, off, e, hb, hr i (strV ks[i]) (by simp [hi])⟩
theorem cloneS (a : Option Addr) (c : Nat) (ks : List (List UInt8)) (w : World) (h : TextsAt w a ks) (hl : ks.length ≤ 1000000) : Calls Try.prog 70 #[.slice a ks.length c] w fun e w' => ∃ v, e = .returned v ∧ w'.ownsRow w.heap.size 9 1 v ks.length (ks.map strV) ∧ Only (fun _ => False) w w' := by
  cases a with
  | none =>
    have hn : ks = [] := by
      rcases Nat.eq_zero_or_pos ks.length with h0 | h0
      · exact List.eq_nil_of_length_eq_zero h0
      · obtain ⟨_, _, e, _⟩ := h h0; cases e
    have HN := Lib.hid hn
    have hq := eql_slice_nilS w none ks.length c
    clear h hn
    go_enter Try.func70, Try.ntmps70
    go_wp2
    go_ret
    rw [HN.out]
    exact ⟨_, rfl, own_nil _ _ _ _, Only.refl _ _⟩
  | some ad =>
    have hown : (w.alloc (.cells #[] 9)).ownsRow w.heap.size 9 1 (.slice (some ⟨w.heap.size, 0, none⟩) 0 0) 0 [] := ⟨by simp, .inr ⟨w.heap.size, 0, #[], rfl, Nat.le_refl _, heap_new w _, Nat.le_refl _, by unfold maxLen; omega, by simp, by simp⟩⟩
    have o1 := (Only.refl (fun _ => False) w).alloc (.cells #[] 9)
    have hcells : ∀ j u, (ks.map strV)[j]? = some u → (w.alloc (.cells #[] 9)).cell? (ad.add j) = some u := fun j u hu => by
      have hj : j < ks.length := by have := (List.getElem?_eq_some_iff.1 hu).1; simpa using this
      obtain ⟨b, off, e, hb, hr⟩ := h (by omega)
      injection e with e
      subst e
      rw [addr_add, cell_only o1 (a := ⟨b, off + j, none⟩) hb (fun h => h)]
      exact hr j u hu
    have HOWN := Lib.hid hown; have O1 := Lib.hid o1; have HC := Lib.hid hcells; have HL := Lib.hid hl; clear hown o1 hcells hl h
    have hq := eql_slice_nilS w (some ad) ks.length c
    go_enter Try.func70, Try.ntmps70
    go_wp2_with ((refine wpList_append_own2 (o := ⟨some 7, _, _, _, _, _⟩) rfl (.tmp 5) (.tmp 6) 32 9 (by rfl) Try.underlying32 infoStr rfl (by decide) w.heap.size _ 0 ks.length c [] (ks.map strV) ad (by rfl) (by rfl) HOWN.out (by simp) HC.out (by intro u hu; simp at hu; obtain ⟨q, _, rfl⟩ := hu; rfl) (by have := HL.out; unfold maxLen; omega) (by have := HL.out; omega) O1.out.size ?_; intro v' w9 q1 q2 q3; have hex := own_form q1; obtain ⟨a', c', e', g1, g2, g3⟩ := hex; simp only [Nat.zero_add, List.nil_append] at e' q1; rw [e'] at q1 ⊢))
    go_ret
    refine ⟨_, rfl, q1, O1.out.trans' q2 (fun k hk e => ?_)⟩
    simp [Value.ownBlock] at e
    omega
theorem lessS (x y : List UInt8) (w : World) : Calls Try.prog 76 #[.string ⟨x.toArray⟩, .string ⟨y.toArray⟩] w fun e w' => e = .returned (.bool (Op.bytesLess x y)) ∧ w = w' := by
  go_enter Try.func76, Try.ntmps76
  go_wp2
  go_ret
  exact ⟨rfl, rfl⟩

/-- No text is less than the one ahead of it. -/
def SortedS (ks : List (List UInt8)) : Prop := ∀ i, i + 1 < ks.length → Op.bytesLess (ks.getD (i + 1) []) (ks.getD i []) = false
theorem getD_get {ks : List (List UInt8)} {i : Nat} (h : i < ks.length) : ks.getD i [] = ks[i] := by rw [List.getD_eq_getElem?_getD, List.getElem?_eq_getElem h]; rfl
set_option maxHeartbeats 2000000 in
theorem isSortedS (a : Option Addr) (c : Nat) (ks : List (List UInt8)) (w : World) (h : TextsAt w a ks) (hl : ks.length ≤ 1000000) :
    Calls Try.prog 68 #[.slice a ks.length c] w fun e w' => (∃ b, e = .returned (.bool b) ∧ (b = true ↔ SortedS ks)) ∧ Only (fun _ => False) w w' := by
  obtain ⟨n, hn⟩ : ∃ n, n = ks.length := ⟨_, rfl⟩
  rw [← hn] at hl ⊢
  have HN := Lib.hid hn; have HK := Lib.hid h; clear hn h
  have hn0 : (0 : Int) ≤ (n : Int) := by omega
  have hn1 : (n : Int) ≤ 1000000 := by omega
  obtain ⟨Q, hQ⟩ : ∃ Q : Ending → World → Prop, Q = fun e w' => (∃ b, e = .returned (.bool b) ∧ (b = true ↔ SortedS ks)) ∧ Only (fun _ => False) w w' := ⟨_, rfl⟩
  have hQ2 : ∀ b w', (b = true ↔ SortedS ks) → Only (fun _ => False) w w' → Q (.returned (.bool b)) w' := fun b w' h1 h2 => by rw [hQ]; exact ⟨⟨b, rfl, h1⟩, h2⟩
  rw [← hQ]
  have HQ := Lib.hid hQ2; clear hQ2 hQ
  go_enter Try.func68, Try.ntmps68
  go_wp2_with fail
  go_loopw [3] (fun v wr => ∃ i : Int, v = .int .i64 i ∧ -1 ≤ i ∧ i < n ∧ Hid (∀ j : Nat, i ≤ (j : Int) → j + 1 < ks.length → Op.bytesLess (ks.getD (j + 1) []) (ks.getD j []) = false) ∧ Hid (Only (fun _ => False) w wr)) (fun v _ => (intOf v + 1).toNat)
  case atStart => exact ⟨(n : Int) - 1, rfl, by omega, by omega, Lib.hid (fun j hj hj2 => by have := HN.out; omega), Lib.hid (Only.refl _ _)⟩
  case round =>
    obtain ⟨i, rfl, hi1, hi2, HS, HO⟩ := hrel
    by_cases hlt : 0 < i
    · have t1 : decide ((0 : Int) < i) = true := by simpa using hlt
      obtain ⟨j, rfl⟩ : ∃ j : Nat, i = (j : Int) + 1 := ⟨(i - 1).toNat, by omega⟩
      have hj1 : j + 1 < ks.length := by rw [← HN.out]; omega
      have hj0 : j < ks.length := by omega
      obtain ⟨b, off, ha, hb, hc1⟩ := HK.out.cells hj1
      subst ha
      obtain ⟨b', off', ha', _, hc0⟩ := HK.out.cells hj0
      injection ha' with ha'
      injection ha' with e1 e2
      subst e1; subst e2
      have hd1 : wr.cell? ⟨b, off + (j + 1), none⟩ = some (.string ⟨(ks[j + 1]).toArray⟩) := by rw [cell_only HO.out (a := ⟨b, off + (j + 1), none⟩) hb (fun h => h)]; exact hc1
      have hd0 : wr.cell? ⟨b, off + j, none⟩ = some (.string ⟨(ks[j]).toArray⟩) := by rw [cell_only HO.out (a := ⟨b, off + j, none⟩) hb (fun h => h)]; exact hc0
      have hnx : Op.bytesLess ks[j + 1] ks[j] = false → ∀ q : Nat, (j : Int) ≤ (q : Int) → q + 1 < ks.length → Op.bytesLess (ks.getD (q + 1) []) (ks.getD q []) = false := fun hf q hq hq2 => by
        by_cases hqj : q = j
        · subst hqj; rw [getD_get hj1, getD_get hj0]; exact hf
        · exact HS.out q (by omega) hq2
      have hno : Op.bytesLess ks[j + 1] ks[j] = true → ¬ SortedS ks := fun ht hs => by
        have := hs j hj1
        rw [getD_get hj1, getD_get hj0, ht] at this; cases this
      have hbl := lessS ks[j + 1] ks[j] wr.drew
      generalize ks[j + 1] = k1 at *
      generalize ks[j] = k0 at *
      obtain ⟨bl, hbl2⟩ : ∃ bl, bl = Op.bytesLess k1 k0 := ⟨_, rfl⟩
      rw [← hbl2] at hbl hnx hno
      have hji : (j : Int) + 1 < (n : Int) := hi2
      have hj00 : (0 : Int) ≤ (j : Int) := by omega
      have hj01 : (0 : Int) ≤ (j : Int) + 1 := by omega
      have hw1 : IntKind.i64.wrap (j : Int) = (j : Int) := by rw [IntKind.wrap_i64]; omega
      have hw2 : IntKind.i64.wrap ((j : Int) + 1 - 1) = (j : Int) := by rw [IntKind.wrap_i64]; omega
      have hjn : (j : Int) < (n : Int) := by omega
      have HBL := Lib.hid hbl; have HNX := Lib.hid hnx; have HNO := Lib.hid hno; clear hbl hnx hno hbl2 hc0 hc1 hb
      cases bl with
      | true =>
        go_wp2_with fail
        go_still_tail 9, (by kernel_rfl)
        change wpList _ _ _ _ _ wr.drew
        go_wp2_with fail
        refine HBL.out.mono ?_
        rintro e w7 ⟨rfl, rfl⟩
        go_wp2_with fail
        exact HQ.out false _ ⟨(fun h => by cases h), fun h => absurd h (by first | exact HNO.out rfl | exact HNO.out trivial)⟩ HO.out.drew
      | false =>
        go_wp2_with fail
        go_still_tail 9, (by kernel_rfl)
        change wpList _ _ _ _ _ wr.drew
        go_wp2_with fail
        refine HBL.out.mono ?_
        rintro e w7 ⟨rfl, rfl⟩
        go_wp2_with fail
        go_roundw
        case rel => exact ⟨(j : Int), by simp [go_sem], by omega, by omega, Lib.hid (by first | exact HNX.out rfl | exact HNX.out trivial), Lib.hid HO.out.drew⟩
        case measure => simp [intOf]; omega
    · have t1 : decide ((0 : Int) < i) = false := by simpa using hlt
      have hs : SortedS ks := fun j hj => HS.out j (by omega) hj
      have HSO := Lib.hid hs; clear hs
      go_wp2_with fail
      exact HQ.out true _ ⟨fun _ => HSO.out, fun _ => rfl⟩ HO.out
theorem map_getD {xs : List (List UInt8)} {i : Nat} (h : i < xs.length) : (xs.map strV)[i]? = some (strV (xs.getD i [])) := by
  rw [List.getElem?_map, List.getElem?_eq_getElem h, getD_get h]; rfl
/-- No two texts that follow one another are one, up to k. -/
def ApartS (ks : List (List UInt8)) (k : Nat) : Prop := ∀ i, i + 1 < k → ks.getD i [] ≠ ks.getD (i + 1) []
theorem zero_S (w : World) : (zeroValue 9).run Try.prog w = .ok (.string ⟨#[]⟩) w := by kernel_rfl
theorem own_set {w : World} {B : Nat} {g n c : Nat} {xs : List (List UInt8)} (h : w.ownsRow B 9 1 (.slice (some ⟨g, 0, none⟩) n c) n (xs.map strV)) {j : Nat} (hj : j < n) (q : List UInt8) : (w.setCell ⟨g, j, none⟩ (strV q)).ownsRow B 9 1 (.slice (some ⟨g, 0, none⟩) n c) n ((xs.set j q).map strV) := by
  obtain ⟨h1, h2⟩ := h
  rcases h2 with ⟨e, _⟩ | ⟨g', cap, cur, e, hg, hh, h3, h4, h5, h6⟩
  · cases e
  · injection e with e _ e3
    injection e with e
    injection e with e1
    subst e1; subst e3
    refine ⟨by simpa using h1, .inr ⟨g, c, cur.setIfInBounds j (strV q), rfl, hg, heap_set hh _, h3, h4, by simpa using h5, ?_⟩⟩
    rw [Array.toList_setIfInBounds, List.take_set, h6, List.map_set]
theorem own_free {w : World} {B g n c : Nat} {e : TypeId} {size : Nat} {xs : List Value} (h : w.ownsRow B e size (.slice (some ⟨g, 0, none⟩) n c) n xs) : (∀ o, w.frozen? ⟨g, o, none⟩ = false) ∧ g < w.heap.size := by
  obtain ⟨h1, h2⟩ := h
  rcases h2 with ⟨e, _⟩ | ⟨g', cap, cur, e, hg, hh, h3, h4, h5, h6⟩
  · cases e
  · injection e with e _ _
    injection e with e
    injection e with e1
    subst e1
    exact ⟨fun o => by simp [World.frozen?, hh], (Array.getElem?_eq_some_iff.1 hh).1⟩
theorem own_rangeAt {w : World} {B g n c : Nat} {e : TypeId} {size : Nat} {xs : List Value} (h : w.ownsRow B e size (.slice (some ⟨g, 0, none⟩) n c) n xs) (hn : 0 < n) : w.rangeAt g 0 xs := by
  obtain ⟨g', c', e', _, _, hr⟩ := own_range h hn
  injection e' with e' _ _
  injection e' with e'
  injection e' with e'
  subst e'; exact hr
def RCp (ks : List (List UInt8)) (w : World) (v : Value) (e : Ending) (w' : World) : Prop :=
  (∃ (a : Option Addr) (n c : Nat), e = .returned (.slice a n c) ∧ n ≤ ks.length ∧ (n < ks.length ↔ ¬ ApartS ks ks.length)) ∧ Only (fun k => v.ownBlock = some k) w w'
set_option maxHeartbeats 8000000 in
theorem compactS (v : Value) (ks : List (List UInt8)) (w : World) (B : Nat) (h : w.ownsRow B 9 1 v ks.length (ks.map strV)) (hl : ks.length ≤ 1000000) :
    Calls Try.prog 69 #[v] w (RCp ks w v) := by
  obtain ⟨a, c, e, f1, f2, f3⟩ := own_form h
  subst e
  have f2' : c ≤ 9223372036854775807 := by unfold maxLen at f2; omega
  clear f2 f3
  by_cases h2 : ks.length < 2
  · have t1 : decide ((ks.length : Int) < 2) = true := by simp; omega
    have hap : ApartS ks ks.length := fun i hi => by omega
    have HAP := Lib.hid hap; have H2 := Lib.hid h2; clear hap h h2
    go_enter Try.func69, Try.ntmps69
    go_wp2_with fail
    go_ret
    exact ⟨⟨_, _, _, rfl, Nat.le_refl _, ⟨fun h => absurd h (Nat.lt_irrefl _), fun h => absurd HAP.out h⟩⟩, Only.refl _ _⟩
  · obtain ⟨g, c', e', hg, hgl, hr⟩ := own_range h (by omega)
    injection e' with e1 _ e3
    subst e1; subst e3
    obtain ⟨n, hn⟩ : ∃ n, n = ks.length := ⟨_, rfl⟩
    have t1 : decide ((n : Int) < 2) = false := by simp; omega
    have hn2 : 2 ≤ n := by omega
    have hn6 : n ≤ 1000000 := by omega
    rw [← hn] at h f1 ⊢
    obtain ⟨Q, hQ⟩ : ∃ Q : Ending → World → Prop, Q = RCp ks w (.slice (some ⟨g, 0, none⟩) n c) := ⟨_, rfl⟩
    have hQ2 : ∀ a m c' w', m ≤ ks.length → (m < ks.length ↔ ¬ ApartS ks ks.length) → Only (fun k => k = g) w w' → Q (.returned (.slice a m c')) w' := fun a m c' w' h1 h2 h3 => by
      rw [hQ]; exact ⟨⟨a, m, c', rfl, h1, h2⟩, h3.mono (fun k _ hk => by rw [hk]; rfl)⟩
    rw [← hQ]
    have HQ := Lib.hid hQ2; have HN := Lib.hid hn; have HR := Lib.hid hr; have HOWN := Lib.hid h; clear hQ2 hQ hn hr h h2 hl
    have hn0 : (0 : Int) ≤ (n : Int) := by omega
    have hnn : (n : Int) ≤ 1000000 := by omega
    have hnc : (n : Int) ≤ (c : Int) := by omega
    go_enter Try.func69, Try.ntmps69
    go_wp2_with fail
    go_loopw [3] (fun v wr => ∃ k : Nat, v = .int .i64 (k : Int) ∧ 1 ≤ k ∧ k ≤ n ∧ Hid (ApartS ks k) ∧ Hid (Only (fun _ => False) w wr)) (fun v _ => n - (intOf v).toNat)
    case atStart => exact ⟨1, by simp, by omega, by omega, Lib.hid (fun i hi => by omega), Lib.hid (Only.refl _ _)⟩
    case round =>
      obtain ⟨k, rfl, hk1, hk2, HA, HO⟩ := hrel
      by_cases hlt : k < n
      · have t2 : decide ((k : Int) < (n : Int)) = true := by simpa using hlt
        obtain ⟨j, rfl⟩ : ∃ j, k = j + 1 := ⟨k - 1, by omega⟩
        have hj1 : j + 1 < ks.length := by rw [← HN.out]; exact hlt
        have hj0 : j < ks.length := by omega
        have hd1 : wr.cell? ⟨g, j + 1, none⟩ = some (.string ⟨(ks[j + 1]).toArray⟩) := by
          have := range_only HR.out hgl HO.out (fun h => h) (j + 1) (strV ks[j + 1]) (by simp [hj1])
          rw [Nat.zero_add] at this; exact this
        have hd0 : wr.cell? ⟨g, j, none⟩ = some (.string ⟨(ks[j]).toArray⟩) := by
          have := range_only HR.out hgl HO.out (fun h => h) j (strV ks[j]) (by simp [hj0])
          rw [Nat.zero_add] at this; exact this
        have hstep : ks[j + 1] ≠ ks[j] → ApartS ks (j + 1 + 1) := fun hne i hi => by
          by_cases hij : i = j
          · subst hij; rw [getD_get hj1, getD_get hj0]; exact fun e => hne e.symm
          · exact HA.out i (by omega)
        have hdup : ks[j + 1] = ks[j] → ¬ ApartS ks ks.length := fun he ha => ha j hj1 (by rw [getD_get hj1, getD_get hj0]; exact he.symm)
        generalize ks[j + 1] = k1 at *
        generalize ks[j] = k0 at *
        have HST := Lib.hid hstep; have HDU := Lib.hid hdup; clear hstep hdup
        have hj00 : (0 : Int) ≤ (j : Int) := by omega
        have hjn : (j : Int) + 1 < (n : Int) := by omega
        have hjn0 : (j : Int) < (n : Int) := by omega
        have hj01 : (0 : Int) ≤ (j : Int) + 1 := by omega
        have hw1 : IntKind.i64.wrap (j : Int) = (j : Int) := by rw [IntKind.wrap_i64]; omega
        have hw2 : IntKind.i64.wrap ((j : Int) + 1 - 1) = (j : Int) := by rw [IntKind.wrap_i64]; omega
        by_cases hE : k1 = k0
        · subst hE
          have hnap := HDU.out (by first | rfl | trivial)
          have HNAP := Lib.hid hnap; clear hnap HDU HST
          go_wp2_with fail
          go_quiet (fail)
          clear hw1 hw2
          go_wp2_with fail
          have hown1 := fun q => own_only' (HOWN.out) (HO.out.trans ((Only.refl _ wr).drewN q)) (fun _ _ h => h)
          have ho1 := fun q => HO.out.trans ((Only.refl (fun _ => False) wr).drewN q)
          have HOWN1 := Lib.hid hown1; have HO1 := Lib.hid ho1; clear hown1 ho1 hd0 hd1 HA
          obtain ⟨wo, hwo⟩ : ∃ wo : World, wo = wr := ⟨_, rfl⟩
          subst hwo
          clear hjn hjn0 hj01 hj0 hj1
          generalize j + 1 = K at *
          go_loopw [3, 5] (fun v u wz => ∃ (kk m : Nat) (xs : List (List UInt8)), v = .int .i64 (kk : Int) ∧ u = .int .i64 ((m : Int) + 1) ∧ m + 1 ≤ n - (K) ∧ kk ≤ K + m ∧ xs.length = n ∧ Hid (wz.ownsRow B 9 1 (.slice (some ⟨g, 0, none⟩) n c) n (xs.map strV)) ∧ Hid (Only (fun k => k = g) w wz)) (fun _ u _ => n - (intOf u).toNat)
          case atStart => exact ⟨K, 0, ks, rfl, by simp, by omega, by omega, HN.out.symm, Lib.hid (HOWN1.out _), Lib.hid ((HO1.out _).mono (fun _ _ h => h.elim))⟩
          case round =>
            clear HOWN1 HO1 HO
            obtain ⟨kk, m, xs, rfl, rfl, hm, hkk, hxl, HW, HP⟩ := hrel
            obtain ⟨hfz, hglz⟩ := own_free HW.out
            have hm0 : (0 : Int) ≤ (m : Int) := by omega
            have hkk0 : (0 : Int) ≤ (kk : Int) := by omega
            by_cases hlt2 : m + 1 < n - (K)
            · have t4 : decide ((m : Int) + 1 < ((n - (K) : Nat) : Int)) = true := by simp; omega
              have t4' : m + 1 < n - (K) := hlt2
              have hrz := own_rangeAt HW.out (by omega)
              have hc1 : wr.cell? ⟨g, K + (m + 1), none⟩ = some (.string ⟨(xs.getD (K + (m + 1)) []).toArray⟩) := by
                have := hrz (K + (m + 1)) (strV (xs.getD (K + (m + 1)) [])) (map_getD (by omega))
                rw [Nat.zero_add] at this; exact this
              have hc0 : wr.cell? ⟨g, K + m, none⟩ = some (.string ⟨(xs.getD (K + m) []).toArray⟩) := by
                have := hrz (K + m) (strV (xs.getD (K + m) [])) (map_getD (by omega))
                rw [Nat.zero_add] at this; exact this
              have hckk : wr.cell? ⟨g, kk, none⟩ = some (.string ⟨(xs.getD kk []).toArray⟩) := by
                have := hrz kk (strV (xs.getD kk [])) (map_getD (by omega))
                rw [Nat.zero_add] at this; exact this
              have hset := fun q => own_set (own_only' HW.out ((Only.refl (fun _ => False) wr).drewN q) (fun _ _ h => h)) (j := kk) (by omega) (xs.getD (K + (m + 1)) [])
              have hon := fun q => own_only' HW.out ((Only.refl (fun _ => False) wr).drewN q) (fun _ _ h => h)
              have hoo := fun q v => (HP.out.trans ((Only.refl (fun k => k = g) wr).drewN q)).setCell (p := ⟨g, kk, none⟩) (.inl rfl) v
              generalize xs.getD (K + (m + 1)) [] = y1 at *
              generalize xs.getD (K + m) [] = y0 at *
              generalize xs.getD kk [] = yk at *
              have HSET := Lib.hid hset; have HON := Lib.hid hon; have HOO := Lib.hid hoo; have HXL := Lib.hid hxl; clear hset hon hoo hrz hxl
              have hw3 : IntKind.i64.wrap (m : Int) = (m : Int) := by rw [IntKind.wrap_i64]; omega
              have hw4 : IntKind.i64.wrap ((m : Int) + 1 - 1) = (m : Int) := by rw [IntKind.wrap_i64]; omega
              have b1 : (m : Int) + 1 < ((n - (K) : Nat) : Int) := by omega
              have b2 : (m : Int) < ((n - (K) : Nat) : Int) := by omega
              have b3 : (0 : Int) ≤ (m : Int) + 1 := by omega
              have b4 : (kk : Int) < (n : Int) := by omega
              by_cases hy : y1 = y0
              · subst hy
                have hne : (y1 != y1) = false := by simp
                go_wp2_with fail
                go_quiet (fail)
                clear hw3 hw4
                go_wp2_with fail
                go_roundw
                case rel => exact ⟨kk, m + 1, xs, rfl, by simp [go_sem], by omega, by omega, HXL.out, Lib.hid (HON.out _), Lib.hid (HP.out.trans ((Only.refl _ _).drewN _))⟩
                case measure => simp [intOf]; omega
              · have hne : (y1 != y0) = true := by simpa using hy
                have hne2 : (y1 == y0) = false := by simpa using hy
                clear hy
                go_wp2_with fail
                go_quiet (fail)
                clear hw3 hw4
                go_wp2_with fail
                go_roundw
                case rel => exact ⟨kk + 1, m + 1, xs.set kk y1, by simp [go_sem], by simp [go_sem], by omega, by omega, by rw [List.length_set]; exact HXL.out, Lib.hid (HSET.out _), Lib.hid (HOO.out _ _)⟩
                case measure => simp [intOf]; omega
            · have hmk : m + 1 = n - (K) := by omega
              have t4 : decide ((m : Int) + 1 < ((n - (K) : Nat) : Int)) = false := by simp; omega
              have t4' : ¬ (m + 1 < n - (K)) := hlt2
              have hcl : ∀ ty, (Builtin.clear_ #[32] ty #[.slice (some ⟨g, kk, none⟩) (n - kk) (c - kk)]).run Try.prog wr = .ok (.tuple #[]) (wr.setCells g kk (List.replicate (n - kk) (.string ⟨#[]⟩))) := fun ty => Lib.run_clear_slice wr _ _ ty _ Try.underlying32 zero_S rfl rfl g kk _ _ (by omega) (fun q hq => by
                have hrz := own_rangeAt HW.out (by omega)
                have := hrz (kk + q) (strV (xs.getD (kk + q) [])) (map_getD (by omega))
                rw [Nat.zero_add] at this; rw [this]; rfl) (fun q hq => hfz _)
              have hoc := HP.out.trans (setCells_only (List.replicate (n - kk) (.string ⟨#[]⟩)) wr g kk)
              have hkn : kk < n := by omega
              have b4 : (kk : Int) < (n : Int) := by omega
              have b5 : (kk : Int) ≤ (c : Int) := by omega
              have HOC := Lib.hid hoc; have HKN := Lib.hid hkn; clear hoc hkn hmk
              go_wp2_with fail
              exact HQ.out _ _ _ _ (by rw [← HN.out]; exact Nat.le_of_lt HKN.out) ⟨fun _ => HNAP.out, fun _ => by rw [← HN.out]; exact HKN.out⟩ HOC.out
        · have t3 : (k1 == k0) = false := by simpa using hE
          have hst := HST.out hE
          have HST2 := Lib.hid hst; clear hst HST HDU hE
          go_wp2_with fail
          go_quiet (fail)
          clear hw1 hw2
          go_wp2_with fail
          go_roundw
          case rel => exact ⟨j + 1 + 1, by simp [go_sem], by omega, by omega, HST2, Lib.hid (HO.out.trans ((Only.refl _ _).drewN _))⟩
          case measure => simp [intOf]; omega
      · have hke : k = n := by omega
        subst hke
        have t2 : decide ((k : Int) < (k : Int)) = false := by simp
        have hap : ApartS ks ks.length := by rw [← HN.out]; exact HA.out
        have HAP := Lib.hid hap; clear hap HA
        go_wp2_with fail
        exact HQ.out _ _ _ _ (by rw [HN.out]; exact Nat.le_refl _) ⟨fun h => by rw [HN.out] at h; exact absurd h (Nat.lt_irrefl _), fun h => absurd HAP.out h⟩ (HO.out.mono (fun _ _ h => h.elim))
end Go.Proofs.Ytoojnpafcdaflaa
