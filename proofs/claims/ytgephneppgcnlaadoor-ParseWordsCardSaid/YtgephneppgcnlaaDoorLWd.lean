/- ParseWords: the walk. -/
import Derived.Test.YtgephneppgcnlaaDoorLDp
namespace Go.Proofs.YtgephneppgcnlaaDoor
open Go Go.RowKit
set_option linter.unusedVariables false
set_option linter.unusedSimpArgs false

def wordsV : Array Value := #[.string ⟨#[113, 117, 101, 114, 121]⟩, .string ⟨#[109, 117, 116, 97, 116, 105, 111, 110]⟩, .string ⟨#[102, 114, 97, 103, 109, 101, 110, 116]⟩, .string ⟨#[111, 110]⟩, .string ⟨#[116, 114, 117, 101]⟩, .string ⟨#[110, 117, 108, 108]⟩, .string ⟨#[116, 121, 112, 101]⟩, .string ⟨#[120]⟩]
theorem word_get (i : Nat) (h : i < 8) : ∃ a, a ∈ wordsL ∧ a.length ≤ 8 ∧ wordsV[i]? = some (.string ⟨a.toArray⟩) := by
  match i, h with
  | 0, _ => exact ⟨_, by simp [wordsL], by decide, rfl⟩
  | 1, _ => exact ⟨_, by simp [wordsL], by decide, rfl⟩
  | 2, _ => exact ⟨_, by simp [wordsL], by decide, rfl⟩
  | 3, _ => exact ⟨_, by simp [wordsL], by decide, rfl⟩
  | 4, _ => exact ⟨_, by simp [wordsL], by decide, rfl⟩
  | 5, _ => exact ⟨_, by simp [wordsL], by decide, rfl⟩
  | 6, _ => exact ⟨_, by simp [wordsL], by decide, rfl⟩
  | 7, _ => exact ⟨_, by simp [wordsL], by decide, rfl⟩
def bs (l : List UInt8) : ByteArray := ⟨l.toArray⟩
theorem bs_append (l m : List UInt8) : bs l ++ bs m = bs (l ++ m) := bytes_append l m
theorem word_text (a b : List UInt8) : (⟨#[113, 117, 101, 114, 121, 32]⟩ : ByteArray) ++ ⟨a.toArray⟩ ++ ⟨#[40, 36]⟩ ++ ⟨b.toArray⟩ ++ ⟨#[58, 32]⟩ ++ ⟨a.toArray⟩ ++ ⟨#[41, 32, 123, 32]⟩ ++ ⟨a.toArray⟩ ++ ⟨#[58, 32]⟩ ++ ⟨b.toArray⟩ ++ ⟨#[40]⟩ ++ ⟨a.toArray⟩ ++ ⟨#[58, 32]⟩ ++ ⟨b.toArray⟩ ++ ⟨#[41, 32, 46, 46, 46, 32, 111, 110, 32]⟩ ++ ⟨b.toArray⟩ ++ ⟨#[32, 123, 32]⟩ ++ ⟨a.toArray⟩ ++ ⟨#[32, 125, 32, 46, 46, 46]⟩ ++ ⟨b.toArray⟩ ++ ⟨#[32, 64]⟩ ++ ⟨a.toArray⟩ ++ ⟨#[32, 125, 32, 102, 114, 97, 103, 109, 101, 110, 116, 32]⟩ ++ ⟨b.toArray⟩ ++ ⟨#[32, 111, 110, 32]⟩ ++ ⟨a.toArray⟩ ++ ⟨#[32, 123, 32]⟩ ++ ⟨b.toArray⟩ ++ ⟨#[32, 125]⟩ = ⟨(wordT a b).toArray⟩ := by
  show bs [113, 117, 101, 114, 121, 32] ++ bs a ++ bs [40, 36] ++ bs b ++ bs [58, 32] ++ bs a ++ bs [41, 32, 123, 32] ++ bs a ++ bs [58, 32] ++ bs b ++ bs [40] ++ bs a ++ bs [58, 32] ++ bs b ++ bs [41, 32, 46, 46, 46, 32, 111, 110, 32] ++ bs b ++ bs [32, 123, 32] ++ bs a ++ bs [32, 125, 32, 46, 46, 46] ++ bs b ++ bs [32, 64] ++ bs a ++ bs [32, 125, 32, 102, 114, 97, 103, 109, 101, 110, 116, 32] ++ bs b ++ bs [32, 111, 110, 32] ++ bs a ++ bs [32, 123, 32] ++ bs b ++ bs [32, 125] = bs (wordT a b)
  simp only [bs_append]; rfl
theorem wordT_len {a b : List UInt8} (ha : a.length ≤ 8) (hb : b.length ≤ 8) : (wordT a b).length ≤ maxLen := by
  unfold wordT maxLen; simp; omega
set_option maxRecDepth 100000 in
set_option maxHeartbeats 8000000 in
theorem words_walk (n m : Int) (w : World) (hn : (Lit.int .u8 n).wf = true) (hm : (Lit.int .u8 m).wf = true) : Calls Tryd.prog 6 #[.int .u8 n, .int .u8 m] w fun e w' => e = .returned (.bool true) ∧ Below w.heap.size w w' := by
  have A := Lib.hid (awake06 w)
  obtain ⟨n0, n1⟩ := u8_bd hn
  obtain ⟨m0, m1⟩ := u8_bd hm
  obtain ⟨i, hi, hie⟩ : ∃ i : Nat, i < 8 ∧ n % 8 = (i : Int) := ⟨(n % 8).toNat, by omega, by omega⟩
  obtain ⟨k, hk, hke⟩ : ∃ i : Nat, i < 8 ∧ m % 8 = (i : Int) := ⟨(m % 8).toNat, by omega, by omega⟩
  obtain ⟨a, ha, hla, hva⟩ := word_get i hi
  obtain ⟨b, hb, hlb, hvb⟩ := word_get k hk
  have HIE := Lib.hid hie; have HKE := Lib.hid hke; have HA := Lib.hid ha; have HB := Lib.hid hb; have HVA := Lib.hid hva; have HVB := Lib.hid hvb
  clear hn hm hie hke ha hb hva hvb
  go_enter Tryd.func6, Tryd.ntmps6
  go_wp2_with fail
  refine A.out.mono ?_
  rintro e w1 ⟨rfl, O1⟩
  have HO1 := Lib.hid (O1.alloc (.cells wordsV 9)); clear O1 A
  obtain ⟨wW, hwW⟩ : ∃ x, w1.alloc (.cells #[.string ⟨#[113, 117, 101, 114, 121]⟩, .string ⟨#[109, 117, 116, 97, 116, 105, 111, 110]⟩, .string ⟨#[102, 114, 97, 103, 109, 101, 110, 116]⟩, .string ⟨#[111, 110]⟩, .string ⟨#[116, 114, 117, 101]⟩, .string ⟨#[110, 117, 108, 108]⟩, .string ⟨#[116, 121, 112, 101]⟩, .string ⟨#[120]⟩] 9) = x := ⟨_, rfl⟩
  have hbx := heap_new w1 (.cells wordsV 9)
  have HO1 : Hid (Only (fun _ => False) w wW) := Lib.hid (by rw [← hwW]; exact HO1.out)
  have hbx : wW.heap[w1.heap.size]? = some (.cells wordsV 9 (0, 0)) := by rw [← hwW]; exact hbx
  obtain ⟨g, hg⟩ : ∃ g, w1.heap.size = g := ⟨_, rfl⟩
  rw [hg] at hbx
  have en : (n % 8).toNat = i := by have := HIE.out; omega
  have em : (m % 8).toNat = k := by have := HKE.out; omega
  have e1 : wW.cell? ⟨g, (n % 8).toNat, none⟩ = some (.string ⟨a.toArray⟩) := by rw [en]; simp [World.cell?, hbx, HVA.out]
  have e2 : wW.cell? ⟨g, (m % 8).toNat, none⟩ = some (.string ⟨b.toArray⟩) := by rw [em]; simp [World.cell?, hbx, HVB.out]
  have HWW := Lib.hid hwW; have HG := Lib.hid hg
  clear hwW hg hbx en em
  go_upto_region 4 with (fail)
  rw [HWW.out, HG.out]
  go_wp2_with fail
  have D := Lib.hid (document_any (wordT a b) wW (wordT_len hla hlb))
  rw [← word_text] at D
  by_cases hon : b = [111, 110]
  · obtain ⟨x, hx⟩ := word_on HA.out HB.out hon
    rw [hx] at D
    subst hon
    refine D.out.mono ?_
    rintro e w5 ⟨rfl, O5⟩
    have HO5 := Lib.hid ((HO1.out.trans O5).alloc (.cells #[.slice none 0 0, .slice none 0 0] 26)); clear O5
    go_wp2_with fail
    clear e1 e2
    go_ret
    exact ⟨rfl, HO5.out.below (Nat.le_refl _) (fun _ _ h => h)⟩
  · obtain ⟨mu, t, hs, v, k1, o1, g1, d1, s1, k2, a2, n2, g2, d2, s2, k3, a3, o3, g3, d3, s3, s4, hdoc⟩ := word_ok HA.out HB.out hon
    rw [hdoc] at D
    refine D.out.mono ?_
    rintro e w5 ⟨p1, c1, p2, c2, rfl, hd, O5⟩
    obtain ⟨wA, hwA⟩ : ∃ wA, w5.alloc (.cells #[.slice p1 1 c1, .slice p2 1 c2] 26) = wA := ⟨_, rfl⟩
    have oa : Only (fun _ => False) w5 wA := by rw [← hwA]; exact (Only.refl _ w5).alloc _
    have hbx := heap_new w5 (.cells #[.slice p1 1 c1, .slice p2 1 c2] 26)
    rw [hwA] at hbx
    obtain ⟨q0, q1, -⟩ := boxN2 hbx
    obtain ⟨B, hB⟩ : ∃ B, w5.heap.size = B := ⟨_, rfl⟩
    rw [hB] at q0 q1
    obtain ⟨hx, hy⟩ := doc_box hd
    have hx := CellAt.only oa (fun _ _ h => h) _ _ hx
    have hy := CellAt.only oa (fun _ _ h => h) _ _ hy
    obtain ⟨b1, f1, c1', vs, e, hm1, hm2, -, r1, hc⟩ := row_at hx 0 (by simp)
    injection e with e1' e2' e3'; subst e1'; subst e3'; clear e2'
    obtain ⟨vv, sv, rfl, hvv, hsv⟩ := op_cells hc
    obtain ⟨b2, f2, c3, us, rfl, hm3, hm4, -, r2, hc2⟩ := row_at hvv 0 (by simp)
    obtain ⟨ts, us', rfl, -, -⟩ := vd_cells hc2
    obtain ⟨b3, f3, c4, xs, rfl, hm5, hm6, -, r3, hc3⟩ := row_at hsv 0 (by simp)
    obtain ⟨b3', f3', c4', xs', e, -, -, -, r4, hc4⟩ := row_at hsv 1 (by simp)
    injection e with e1' e2' e3'; injection e1' with e1'; injection e1' with e1' e4' _; subst e1'; subst e3'; subst e4'; clear e2'
    obtain ⟨b3', f3', c4', xs'', e, -, -, -, r5, hc5⟩ := row_at hsv 2 (by simp)
    injection e with e1' e2' e3'; injection e1' with e1'; injection e1' with e1' e4' _; subst e1'; subst e3'; subst e4'; clear e2'
    obtain ⟨_, _, _, rfl, -, -, -⟩ := sel_cells hc3
    obtain ⟨_, _, _, rfl, -, -, -⟩ := sel_cells hc4
    obtain ⟨_, _, _, rfl, -, -, -⟩ := sel_cells hc5
    obtain ⟨b6, f6, c6, ys, e, hm7, hm8, -, r6, hc6⟩ := row_at hy 0 (by simp)
    injection e with e1' e2' e3'; subst e1'; subst e3'; clear e2'
    obtain ⟨_, rfl, -⟩ := fr_cells hc6
    have z1 : wA.cell? ⟨b1, f1 + 1, none⟩ = some (.string ⟨a.toArray⟩) := by have := r1 1 _ rfl; simpa using this
    have z2 : wA.cell? ⟨b1, f1 + 2, none⟩ = some (.slice (some ⟨b2, f2, none⟩) 1 c3) := by have := r1 2 _ rfl; simpa using this
    have z3 : wA.cell? ⟨b1, f1 + 3, none⟩ = some (.slice (some ⟨b3, f3, none⟩) 3 c4) := by have := r1 3 _ rfl; simpa using this
    have z4 : wA.cell? ⟨b2, f2, none⟩ = some (.string ⟨b.toArray⟩) := by have := r2 0 _ rfl; simpa using this
    have z5 : wA.cell? ⟨b3, f3 + 1, none⟩ = some (.string ⟨a.toArray⟩) := by have := r3 1 _ rfl; simpa using this
    have z6 : wA.cell? ⟨b3, f3 + 2, none⟩ = some (.string ⟨b.toArray⟩) := by have := r3 2 _ rfl; simpa using this
    have z7 : wA.cell? ⟨b3, f3 + 10, none⟩ = some (.string ⟨b.toArray⟩) := by have := r4 3 _ rfl; simpa using this
    have z8 : wA.cell? ⟨b3, f3 + 16, none⟩ = some (.string ⟨b.toArray⟩) := by have := r5 2 _ rfl; simpa using this
    have z9 : wA.cell? ⟨b6, f6, none⟩ = some (.string ⟨b.toArray⟩) := by have := r6 0 _ rfl; simpa using this
    have z10 : wA.cell? ⟨b6, f6 + 1, none⟩ = some (.string ⟨a.toArray⟩) := by have := r6 1 _ rfl; simpa using this
    have hm5 : 3 ≤ c4 := hm5
    have hm3 : 1 ≤ c3 := hm3
    have hm1 : 1 ≤ c1 := hm1
    have hm7 : 1 ≤ c2 := hm7
    have hbn : (b == [111, 110]) = false := by simpa using hon
    have hbn2 : (b != [111, 110]) = true := by simpa using hon
    have HOA := Lib.hid ((HO1.out.trans O5).trans oa); have HWA := Lib.hid hwA; have HB' := Lib.hid hB
    clear hd hx hy hc hc2 hc3 hc4 hc5 hc6 hvv hsv r1 r2 r3 r4 r5 r6 oa hwA hB hbx O5 D hdoc e1 e2 hon
    go_upto_region 8 with (fail)
    rw [HWA.out, HB'.out]
    go_wp2_with fail
    clear q0 q1 z1 z2 z3 z4 z5 z6 z7 z8 z9 z10
    go_ret
    exact ⟨rfl, HOA.out.below (Nat.le_refl _) (fun _ _ h => h)⟩
end Go.Proofs.YtgephneppgcnlaaDoor
