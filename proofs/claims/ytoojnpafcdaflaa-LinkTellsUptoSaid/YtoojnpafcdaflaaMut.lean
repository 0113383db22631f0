/- Package link: a mutation as bytes (Mutation), and back (Unmutation). -/
import Derived.Test.YtoojnpafcdaflaaWvb
import Derived.Deep.RegionHeld3
import Derived.Test.YtoojnpafcdaflaaRvl
namespace Go.Proofs.Ytoojnpafcdaflaa
open Go Go.RowKit
set_option linter.unusedVariables false
set_option linter.unusedSimpArgs false
set_option maxRecDepth 100000

def encM (q : Nat) (doc : List UInt8) (t : VT) : List UInt8 := encU q ++ (encT doc ++ encV t)
theorem box7 {w : World} {g : Nat} {c0 c1 c2 c3 c4 c5 c6 : Value} {T : TypeId} (h : w.heap[g]? = some (.cells #[c0, c1, c2, c3, c4, c5, c6] T (0, 0))) :
    w.cell? ⟨g, 0, none⟩ = some c0 ∧ w.cell? ⟨g, 1, none⟩ = some c1 ∧ w.cell? ⟨g, 2, none⟩ = some c2 ∧ w.cell? ⟨g, 2 + 1, none⟩ = some c3 ∧ w.cell? ⟨g, 2 + 2, none⟩ = some c4 ∧ w.cell? ⟨g, 2 + 3, none⟩ = some c5 ∧ w.cell? ⟨g, 2 + 4, none⟩ = some c6 := by
  refine ⟨?_, ?_, ?_, ?_, ?_, ?_, ?_⟩ <;> simp [World.cell?, h]
set_option maxHeartbeats 4000000 in
theorem mutation_any (q : Nat) (doc : List UInt8) (t : VT) (F G : Nat → Prop) (b : Nat) (w1 : World) (l : List UInt8) (w : World) (cs : List Value) (h : WS F b w1 l w) (hv : ValAt w G t cs) (hgood : GoodV t) (hG : ∀ q, G q → q < w1.heap.size ∧ ¬ F q)
    (hq : q < 18446744073709551616) (hd : doc.length ≤ 100000000) (ht : (encV t).length ≤ 1000000) (hl : l.length ≤ 1000000000) :
    Calls Try.prog 43 #[.pointer (some ⟨b, 0, none⟩), .agg (.int .u64 q :: .string ⟨doc.toArray⟩ :: cs).toArray] w fun e w' => e = .returned (.tuple #[]) ∧ WS F b w1 (l ++ encM q doc t) w' := by
  obtain ⟨k, n, s, ak, lk, ck, av, lv, cv, rfl⟩ := valAt_form hv
  have hwb : ∃ wb, wb = w.alloc (.cells #[.int .u64 q, .string ⟨doc.toArray⟩, .int .u8 k, .int .i64 n, .string ⟨s.toArray⟩, .slice ak lk ck, .slice av lv cv] 64) := ⟨_, rfl⟩
  obtain ⟨wb, hwb⟩ := hwb
  have ob : Only (fun _ => False) w wb := by rw [hwb]; exact (Only.refl _ w).alloc _
  have hbox : wb.heap[w.heap.size]? = some (.cells #[.int .u64 q, .string ⟨doc.toArray⟩, .int .u8 k, .int .i64 n, .string ⟨s.toArray⟩, .slice ak lk ck, .slice av lv cv] 64 (0, 0)) := by rw [hwb]; exact heap_new w _
  have odr : Only (fun _ => False) w wb.drew := ob.drew
  obtain ⟨F1, hs1, hF1, hback⟩ := h.rebase odr
  have hkeep : ∀ l' w', WS F1 b wb.drew l' w' → w'.heap[w.heap.size]? = some (.cells #[.int .u64 q, .string ⟨doc.toArray⟩, .int .u8 k, .int .i64 n, .string ⟨s.toArray⟩, .slice ak lk ck, .slice av lv cv] 64 (0, 0)) := fun l' w' hw => by
    rw [hw.only.block _ (show w.heap.size < wb.heap.size from (Array.getElem?_eq_some_iff.1 hbox).1) (fun hf => by have := (hF1 _ hf).1; omega)]; exact hbox
  have hGF : ∀ q, G q → q < wb.drew.heap.size ∧ ¬ F1 q := fun q hq => ⟨Nat.lt_of_lt_of_le (hG q hq).1 (Nat.le_trans h.only.size ob.size), fun hf => (hF1 q hf).2.elim (hG q hq).2 (by have := (hG q hq).1; omega)⟩
  have hval : ∀ l' w', WS F1 b wb.drew l' w' → ValAt w' G t [.int .u8 k, .int .i64 n, .string ⟨s.toArray⟩, .slice ak lk ck, .slice av lv cv] := fun l' w' hw => valAt_only hw.only (fun q hq hf => (hGF q hq).2 hf) _ _ (valAt_only odr (fun _ _ h => h) _ _ hv)
  have hel := encU_len10 (n := q) hq
  have het : (encT doc).length ≤ 100000010 := by unfold encT; rw [List.length_append]; have := encU_len10 (n := doc.length) (by omega); omega
  have g0 := box7 hbox
  have gd := box7 (show wb.drew.heap[w.heap.size]? = _ from hbox)
  rw [hwb] at g0
  have HKEEP := Lib.hid hkeep; have HGF := Lib.hid hGF; have HVAL := Lib.hid hval; have HS1 := Lib.hid hs1; have HBACK := Lib.hid hback; have HWB := Lib.hid hwb; have HGOOD := Lib.hid hgood; have GD := Lib.hid gd; have HQ := Lib.hid hq
  clear hkeep hGF hval hs1 hback hwb hgood gd hbox ob odr hF1 h hG hv hq
  go_enter Try.func43, Try.ntmps43
  go_wp2_with fail
  rw [← HWB.out] at g0 ⊢
  obtain ⟨c0, c1, c2, c3, c4, c5, c6⟩ := g0
  have hq0 : (0 : Int) ≤ (q : Int) := by omega
  go_region_held3 (fun w' => w'.cell? ⟨w.heap.size, 0, none⟩ = some (.int .u64 q) ∧ w'.cell? ⟨w.heap.size, 1, none⟩ = some (.string ⟨doc.toArray⟩) ∧ w'.cell? ⟨w.heap.size, 2, none⟩ = some (.int .u8 k) ∧ w'.cell? ⟨w.heap.size, 2 + 1, none⟩ = some (.int .i64 n) ∧ w'.cell? ⟨w.heap.size, 2 + 2, none⟩ = some (.string ⟨s.toArray⟩) ∧ w'.cell? ⟨w.heap.size, 2 + 3, none⟩ = some (.slice ak lk ck) ∧ w'.cell? ⟨w.heap.size, 2 + 4, none⟩ = some (.slice av lv cv)) (first | exact GD.out | exact ⟨c0, c1, c2, c3, c4, c5, c6⟩ | exact box7 (HKEEP.out _ _ hU) | exact box7 (HKEEP.out _ _ hT) | exact box7 (HKEEP.out _ _ hV)) (first | (go_at_call 27; refine (wUint_s q F1 b _ l _ HS1.out HQ.out (by omega)).mono ?_; rintro e w7 ⟨rfl, hU⟩) | (go_at_call 18; refine (wText_s doc F1 b _ (l ++ encU q) _ hU (by omega) (by rw [List.length_append]; omega)).mono ?_; rintro e w8 ⟨rfl, hT⟩) | (go_at_call 37; refine (wValue _ t (Nat.le_refl _) F1 G b _ (l ++ encU q ++ encT doc) _ _ hT (HVAL.out _ _ hT) HGOOD.out HGF.out (by omega) (by simp only [List.length_append]; omega)).mono ?_; rintro e w9 ⟨rfl, hV⟩))
  have hfin := HBACK.out _ _ hV
  simp only [List.append_assoc] at hfin
  have HFIN := Lib.hid hfin; clear hfin hV hU hT
  go_wp2
  go_end0
  exact ⟨rfl, HFIN.out⟩
/-- A mutation out of some bytes. -/
def decM (l : List UInt8) : Option ((Nat × List UInt8 × VT) × List UInt8) :=
  match decU 1152921504606846976 l with
  | none => none
  | some (q, r1) => match decT 2000 r1 with
    | none => none
    | some (doc, r2) => match decV 24 r2 with
      | none => none
      | some (t, r3) => some ((q, doc, t), r3)
theorem decM_enc {q : Nat} {doc : List UInt8} {t : VT} (r : List UInt8) (hq : q ≤ 1152921504606846976) (hd : doc.length ≤ 2000) (hs : SmallV t) (hf : formV t 0 = true) : decM (encM q doc t ++ r) = some ((q, doc, t), r) := by
  unfold decM encM
  rw [List.append_assoc, List.append_assoc, decU_encA _ (by omega) hq]
  simp only
  rw [decT_encA doc _ (by omega) hd]
  simp only
  rw [decV_enc 24 0 rfl t r hs hf]
theorem decU_overA {most m : Nat} (r : List UInt8) (h64 : m < 18446744073709551616) (hle : most < m) : decU most (encU m ++ r) = none := by
  cases h : decU most (encU m ++ r) with
  | none => rfl
  | some p =>
    obtain ⟨x, q⟩ := p
    have h1 := (decU_le h).1
    have h2 : decU 18446744073709551615 (encU m ++ r) = some (m, r) := decU_encA r h64 (by omega)
    have h3 := decU_canon h
    have h4 : decU 18446744073709551615 (encU x ++ q) = some (x, q) := decU_encA q (by omega) (by omega)
    rw [← h3, h2] at h4
    injection h4 with h4
    injection h4 with h4 _
    omega
theorem decT_overA {most : Nat} (s r : List UInt8) (h64 : s.length < 18446744073709551616) (hle : most < s.length) : decT most (encT s ++ r) = none := by
  unfold decT encT
  rw [List.append_assoc, decU_overA _ h64 hle]
theorem decM_over {q : Nat} {doc : List UInt8} {t : VT} (r : List UInt8) (hq : q < 18446744073709551616) (hd : doc.length < 18446744073709551616) (h : 1152921504606846976 < q ∨ 2000 < doc.length) : decM (encM q doc t ++ r) = none := by
  unfold decM encM
  rw [List.append_assoc, List.append_assoc]
  rcases Nat.lt_or_ge 1152921504606846976 q with h1 | h1
  · rw [decU_overA _ hq h1]
  · rw [decU_encA _ hq h1]
    simp only
    rw [decT_overA doc _ hd (by omega)]
def RMb (w : World) (b : Nat) (l : List UInt8) (β : Bool) (e : Ending) (w' : World) : Prop :=
  ∃ (q : Nat) (doc : List UInt8) (t : VT) (cs : List Value) (r : List UInt8) (β' : Bool), e = .returned (.agg (.int .u64 q :: .string ⟨doc.toArray⟩ :: cs).toArray) ∧ q ≤ 1152921504606846976 ∧ doc.length ≤ 2000 ∧ ValAt w' (fun q => w.heap.size ≤ q) t cs ∧ ReaderAt w' b r β' ∧ Only (fun k => k = b) w w' ∧
    (β' = false → β = false ∧ decM l = some ((q, doc, t), r)) ∧ (β' = true → β = true ∨ decM l = none)
theorem zero_M (w : World) : (zeroValue 64).run Try.prog w = .ok (.agg #[.int .u64 0, .string ByteArray.empty, .int .u8 0, .int .i64 0, .string ByteArray.empty, .slice none 0 0, .slice none 0 0]) w := by kernel_rfl
set_option maxHeartbeats 4000000 in
theorem unmutation_any (b : Nat) (l : List UInt8) (β : Bool) (w : World) (h : ReaderAt w b l β) : Calls Try.prog 44 #[.pointer (some ⟨b, 0, none⟩)] w (RMb w b l β) := by
  have hz := zero_M
  have hbl := h.lt
  have oa := (Only.refl (fun _ => False) w).alloc (.cells #[.int .u64 0, .string ByteArray.empty, .int .u8 0, .int .i64 0, .string ByteArray.empty, .slice none 0 0, .slice none 0 0] 64)
  have hR0 := heap_new w (.cells #[.int .u64 0, .string ByteArray.empty, .int .u8 0, .int .i64 0, .string ByteArray.empty, .slice none 0 0, .slice none 0 0] 64)
  have hu : Calls Try.prog 32 #[.pointer (some ⟨b, 0, none⟩), .int .u64 1152921504606846976] (w.alloc (.cells #[.int .u64 0, .string ByteArray.empty, .int .u8 0, .int .i64 0, .string ByteArray.empty, .slice none 0 0, .slice none 0 0] 64)) _ := ruint_b b 1152921504606846976 l β _ (h.still oa) (by decide)
  have HU := Lib.hid hu; have OA := Lib.hid oa; have HR0 := Lib.hid hR0; clear hu oa hR0 h
  go_enter Try.func44, Try.ntmps44
  go_wp2_with fail
  refine HU.out.mono ?_
  rintro e w2 ⟨q, r1, β1, rfl, hq, h2, o2, a1, a2⟩
  have ht : Calls Try.prog 34 #[.pointer (some ⟨b, 0, none⟩), .int .i64 2000] w2 _ := rtext_b b 2000 r1 β1 w2 h2 (by decide)
  have A1 := Lib.hid a1; have A2 := Lib.hid a2; have O2 := Lib.hid o2; have HT := Lib.hid ht; have HQ := Lib.hid hq; clear a1 a2 o2 ht h2 hq
  go_wp2_with fail
  refine HT.out.mono ?_
  rintro e w3 ⟨doc, r2, β2, rfl, hd, h3, o3, b1, b2⟩
  have B1 := Lib.hid b1; have B2 := Lib.hid b2; have O3 := Lib.hid o3; have H3 := Lib.hid h3; have HD := Lib.hid hd; clear b1 b2 o3 h3 hd
  go_wp2_with fail
  refine (rval_any b r2 β2 w3 H3.out).mono ?_
  rintro e w4 ⟨t, cs, r3, β3, rfl, hv4, h4, o4, c1, c2⟩
  obtain ⟨k', n', s', ak', lk', ck', av', lv', cv', rfl⟩ := valAt_form hv4
  have hsz : w.heap.size < w2.heap.size := by have := O2.out.size; simp at this; omega
  have hs23 := O3.out.size
  have hR4 := (o4.block _ (by omega) (by omega)).trans ((O3.out.block _ (by omega) (by omega)).trans ((O2.out.block _ (by simp) (by omega)).trans HR0.out))
  have hall : Only (fun k => k = b) w w4 := ((((OA.out.mono (T := fun k => k = b) (fun _ _ h => h.elim)).trans O2.out).trans O3.out).trans o4)
  have hdec1 : β3 = false → β = false ∧ decM l = some ((q, doc, t), r3) := fun hb => by
    obtain ⟨e2, d3⟩ := c1 hb
    obtain ⟨e1, d2⟩ := B1.out e2
    obtain ⟨e0, d1⟩ := A1.out e1
    refine ⟨e0, ?_⟩
    unfold decM
    rw [d1]; simp only
    rw [d2]; simp only
    rw [d3]
  have hdec2 : β3 = true → β = true ∨ decM l = none := fun hb => by
    rcases (c2 hb).1 with h | h
    · rcases (B2.out h).2 with h | h
      · rcases (A2.out h).2 with h | h
        · exact .inl h
        · right; unfold decM; rw [h]
      · cases hb1 : β1 with
        | true =>
          rcases (A2.out hb1).2 with h | h
          · exact .inl h
          · right; unfold decM; rw [h]
        | false => right; unfold decM; rw [(A1.out hb1).2]; simp only; rw [h]
    · cases hb2 : β2 with
      | true =>
        rcases (B2.out hb2).2 with h | h
        · rcases (A2.out h).2 with h | h
          · exact .inl h
          · right; unfold decM; rw [h]
        · cases hb1 : β1 with
          | true =>
            rcases (A2.out hb1).2 with h | h
            · exact .inl h
            · right; unfold decM; rw [h]
          | false => right; unfold decM; rw [(A1.out hb1).2]; simp only; rw [h]
      | false =>
        right; unfold decM; rw [(A1.out (B1.out hb2).1).2]; simp only; rw [(B1.out hb2).2]; simp only; rw [h]
  have h1c : ∀ v ∈ ([.int .u64 q, .string ⟨doc.toArray⟩, .int .u8 k', .int .i64 n', .string ⟨s'.toArray⟩, .slice ak' lk' ck', .slice av' lv' cv'] : List Value), v.oneCell' = true := by intro v hv; simp only [List.mem_cons, List.not_mem_nil, or_false] at hv; rcases hv with rfl | rfl | rfl | rfl | rfl | rfl | rfl <;> rfl
  have HR4 := Lib.hid hR4; have HALL := Lib.hid hall; have HV4 := Lib.hid hv4; have H4 := Lib.hid h4; have D1 := Lib.hid hdec1; have D2 := Lib.hid hdec2; have H1C := Lib.hid h1c; have HS := Lib.hid hsz; have HS23 := Lib.hid hs23
  clear hR4 hall hv4 h4 hdec1 hdec2 h1c hz c1 c2 o4 hsz hs23
  go_wp2_with ((refine wpList_store_box (o := ⟨none, _, _, _, _, _⟩) rfl 64 (.tmp 2) (.tmp 9) (by rfl) w.heap.size [.int .u64 0, .string ByteArray.empty, .int .u8 0, .int .i64 0, .string ByteArray.empty, .slice none 0 0, .slice none 0 0] [.int .u64 q, .string ⟨doc.toArray⟩, .int .u8 k', .int .i64 n', .string ⟨s'.toArray⟩, .slice ak' lk' ck', .slice av' lv' cv'] (by rfl) (by rfl) HR4.out rfl (by kernel_rfl) H1C.out ?_; intro w6 h6 o6))
  obtain ⟨z0, z1, z2, z3, z4, z5, z6⟩ := box7 h6
  have hv6 := valAt_only o6 (fun x hx hk => by have := HS.out; have := HS23.out; omega) _ _ HV4.out
  have hfin : RMb w b l β (.returned (.agg #[.int .u64 q, .string ⟨doc.toArray⟩, .int .u8 k', .int .i64 n', .string ⟨s'.toArray⟩, .slice ak' lk' ck', .slice av' lv' cv'])) w6 := ⟨q, doc, t, _, r3, β3, rfl, HQ.out, HD.out, valAt_weaken (fun x _ h => by have := HS.out; have := HS23.out; omega) _ _ hv6, H4.out.past o6 (fun k hk => by omega), HALL.out.trans' o6 (fun k hk e => by omega), D1.out, D2.out⟩
  exact bodyPost_ret (v := .agg #[.int .u64 q, .string ⟨doc.toArray⟩, .int .u8 k', .int .i64 n', .string ⟨s'.toArray⟩, .slice ak' lk' ck', .slice av' lv' cv']) (by simp [results, Try.results44, go_sem, z0, z1, z2, z3, z4, z5, z6]) rfl hfin
end Go.Proofs.Ytoojnpafcdaflaa
