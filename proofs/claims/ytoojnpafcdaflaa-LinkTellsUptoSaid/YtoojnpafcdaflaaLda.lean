/- Package link: DecodeAsk. -/
import Derived.Test.YtoojnpafcdaflaaLea
import Derived.Deep.CutBlock
namespace Go.Proofs.Ytoojnpafcdaflaa
open Go Go.RowKit
set_option linter.unusedVariables false
set_option linter.unusedSimpArgs false
set_option maxRecDepth 100000

/-- A thing read: its cells, and what is left. -/
def RElem {α : Type} (n : Nat) (P : World → (Nat → Prop) → α → List Value → Prop) (dec : List UInt8 → Option (α × List UInt8)) (w : World) (b : Nat) (l : List UInt8) (β : Bool) (e : Ending) (w' : World) : Prop :=
  ∃ (x : α) (cs : List Value) (r : List UInt8) (β' : Bool), e = .returned (.agg cs.toArray) ∧ cs.length = n ∧ (∀ u ∈ cs, u.oneCell' = true) ∧ P w' (fun q => w.heap.size ≤ q) x cs ∧ ReaderAt w' b r β' ∧ Only (fun k => k = b) w w' ∧ (β' = false → β = false ∧ dec l = some (x, r)) ∧ (β' = true → β = true ∨ dec l = none)
theorem seven_of {α : Type} {cs : List α} (h : cs.length = 7) : ∃ a b c d e f g, cs = [a, b, c, d, e, f, g] := by
  match cs, h with
  | [a, b, c, d, e, f, g], _ => exact ⟨a, b, c, d, e, f, g, rfl⟩
theorem mut_elem (b : Nat) (l : List UInt8) (β : Bool) (w : World) (h : ReaderAt w b l β) : Calls Try.prog 44 #[.pointer (some ⟨b, 0, none⟩)] w (RElem 7 MutP decM w b l β) := by
  refine (unmutation_any b l β w h).mono ?_
  rintro e w' ⟨q, doc, t, cs, r, β', rfl, h1, h2, h3, h4, h5, h6, h7⟩
  obtain ⟨k', n', s', ak', lk', ck', av', lv', cv', rfl⟩ := valAt_form h3
  exact ⟨(q, doc, t), _, r, β', rfl, rfl, (by intro v hv; simp only [List.mem_cons, List.not_mem_nil, or_false] at hv; rcases hv with rfl | rfl | rfl | rfl | rfl | rfl | rfl <;> rfl), ⟨_, rfl, Nat.lt_of_le_of_lt h1 (by decide), Nat.le_trans h2 (by decide), h3⟩, h4, h5, h6, h7⟩
theorem ent_elem (b : Nat) (l : List UInt8) (β : Bool) (w : World) (h : ReaderAt w b l β) : Calls Try.prog 45 #[.pointer (some ⟨b, 0, none⟩)] w (RElem 4 EntP decE1 w b l β) := by
  refine (rent_any b l β w h).mono ?_
  rintro e w' ⟨ty, id, ks, vs, ak, av, ck, cv, r, β', rfl, h1, h2, h3, h4, h5, h6, h7⟩
  exact ⟨(ty, id, ks, vs), _, r, β', rfl, rfl, (by intro v hv; simp only [List.mem_cons, List.not_mem_nil, or_false] at hv; rcases hv with rfl | rfl | rfl | rfl <;> rfl), ⟨ak, av, ck, cv, rfl, Nat.le_trans h1 (by decide), Nat.le_trans h2 (by decide), h3⟩, h4, h5, fun hb => ⟨(h6 hb).1, decE1_iff.2 (h6 hb).2⟩, fun hb => (h7 hb).imp _root_.id (fun h => decE1_none.2 h)⟩

theorem infoMut : (Try.prog.info? 64).map (fun i => (i.zero, i.size, i.bytes)) = some (some (.agg #[.int .u64 0, .string ByteArray.empty, .int .u8 0, .int .i64 0, .string ByteArray.empty, .slice none 0 0, .slice none 0 0]), 7, 104) := by kernel_rfl
theorem zero_Ask (w : World) : (zeroValue 89).run Try.prog w = .ok (.agg #[.int .i64 0, .slice none 0 0, .int .u64 0, .slice none 0 0]) w := by kernel_rfl
def RDa (w : World) (l : List UInt8) (e : Ending) (w' : World) : Prop :=
  Only (fun _ => False) w w' ∧
  ((∃ c : Int, OpenCode l c ∧ c ≠ 0 ∧ e = .returned (.tuple #[.agg #[.int .i64 0, .slice none 0 0, .int .u64 0, .slice none 0 0], .int .i64 c])) ∨
   (∃ m, l = sealed m ∧ (∀ a, ¬ AskOf m a) ∧ e = .returned (.tuple #[.agg #[.int .i64 0, .slice none 0 0, .int .u64 0, .slice none 0 0], .int .i64 3])) ∨
   (∃ m a cs, l = sealed m ∧ AskOf m a ∧ e = .returned (.tuple #[.agg cs.toArray, .int .i64 0]) ∧ AskAt w' (fun q => w.heap.size ≤ q) a cs))
/-- Ahead of a round of the loop: m things are still to come. -/
def DInva (w : World) (b X B : Nat) (c : Nat) (ks : List (List UInt8)) (ak : Option Addr) (ck since : Nat) (l5 : List UInt8) (β5 : Bool) (m : Nat) (wr : World) : Prop :=
  ∃ (ms : List (Nat × List UInt8 × VT)) (vL : Value) (xs : List Value) (G : Nat → Prop) (r : List UInt8) (β' : Bool), wr.heap[X]? = some (.cells #[.int .i64 c, .slice ak ks.length ck, .int .u64 since, vL] 89 (0, 0)) ∧ wr.heap[w.heap.size]? = some (.cells #[.int .i64 0, .slice none 0 0, .int .u64 0, .slice none 0 0] 89 (0, 0)) ∧
    wr.ownsRow B 64 7 vL ms.length xs ∧ Pieces 7 MutP wr G ms xs ∧ (∀ q, G q → B ≤ q ∧ q < wr.heap.size ∧ vL.ownBlock ≠ some q) ∧
    ListAt 1 TextP wr (fun q => w.heap.size + 1 ≤ q ∧ q < B ∧ q ≠ b ∧ q ≠ X) ak ks ∧ ReaderAt wr b r β' ∧ Only (fun _ => False) w wr ∧ B ≤ wr.heap.size ∧ LRead 4 decM l5 β5 ms r m β' ∧ ms.length + m ≤ 4
set_option maxHeartbeats 16000000 in
theorem dcda_any (v : Value) (l : List UInt8) (w : World) (h : Bytes w v l) (hl : l.length ≤ 1000000000) : Calls Try.prog 54 #[v] w (RDa w l) := by
  have hz := zero_Ask
  have oa := (Only.refl (fun _ => False) w).alloc (.cells #[.int .i64 0, .slice none 0 0, .int .u64 0, .slice none 0 0] 89)
  have hR0 := heap_new w (.cells #[.int .i64 0, .slice none 0 0, .int .u64 0, .slice none 0 0] 89)
  have hsa : (w.alloc (.cells #[.int .i64 0, .slice none 0 0, .int .u64 0, .slice none 0 0] 89)).heap.size = w.heap.size + 1 := by simp
  have hb := begin_any v l 1 _ (h.still oa) hl (by decide) (by decide)
  have HB0 := Lib.hid hb; have OA := Lib.hid oa; have HR0 := Lib.hid hR0; have HSA := Lib.hid hsa; clear hb oa hR0 hsa h
  go_enter Try.func54, Try.ntmps54
  go_wp2_with fail
  refine HB0.out.mono ?_
  rintro e w1 ⟨o1, hcase⟩
  have hR1 := (o1.block _ (by rw [HSA.out]; omega) (fun h => h)).trans HR0.out
  have ho1 := OA.out.trans o1
  have hsz1 : w.heap.size + 1 ≤ w1.heap.size := by rw [← HSA.out]; exact o1.size
  have H1C : Hid (∀ u ∈ ([.int .i64 0, .slice none 0 0, .int .u64 0, .slice none 0 0] : List Value), u.oneCell' = true) := Lib.hid (by intro v hv; simp only [List.mem_cons, List.not_mem_nil, or_false] at hv; rcases hv with rfl | rfl | rfl | rfl <;> rfl)
  rcases hcase with ⟨cc, h1, h2, rfl⟩ | ⟨m, h1, h2, rfl⟩ | ⟨m, r1, b, c, r2, β2, h1, h2, rfl, h4, h5, h6, h7, h8⟩
  · have t1 : (cc != 0) = true := by simpa using h2
    have HR1 := Lib.hid hR1; have HO1 := Lib.hid ho1; have HC1 := Lib.hid h1; have HC2 := Lib.hid h2; clear hR1 ho1 h1 h2 o1 hsz1
    go_wp2_with ((refine wpList_store_box (o := ⟨none, _, _, _, _, _⟩) rfl 89 (.tmp 2) (.tmp 17) (by rfl) w.heap.size [.int .i64 0, .slice none 0 0, .int .u64 0, .slice none 0 0] [.int .i64 0, .slice none 0 0, .int .u64 0, .slice none 0 0] (by rfl) (by rfl) HR1.out rfl (by kernel_rfl) H1C.out ?_; intro w6 h6 o6))
    have hfin : RDa w l (.returned (.tuple #[.agg #[.int .i64 0, .slice none 0 0, .int .u64 0, .slice none 0 0], .int .i64 cc])) w6 := ⟨HO1.out.trans' o6 (fun q hq e => by omega), .inl ⟨cc, HC1.out, HC2.out, rfl⟩⟩
    obtain ⟨z0, z1, z2, z3⟩ := box4 h6
    exact bodyPost_ret (v := .tuple #[.agg #[.int .i64 0, .slice none 0 0, .int .u64 0, .slice none 0 0], .int .i64 cc]) (by simp [results, Try.results54, go_sem, z0, z1, z2, z3]) rfl hfin
  · have HR1 := Lib.hid hR1; have HO1 := Lib.hid ho1; have HC1 := Lib.hid h1; have HC2 := Lib.hid (fun a (h : AskOf m a) => h2 _ h.choose_spec.1); clear hR1 ho1 h1 h2 o1 hsz1
    go_wp2_with ((refine wpList_store_box (o := ⟨none, _, _, _, _, _⟩) rfl 89 (.tmp 2) (.tmp 17) (by rfl) w.heap.size [.int .i64 0, .slice none 0 0, .int .u64 0, .slice none 0 0] [.int .i64 0, .slice none 0 0, .int .u64 0, .slice none 0 0] (by rfl) (by rfl) HR1.out rfl (by kernel_rfl) H1C.out ?_; intro w6 h6 o6))
    have hfin : RDa w l (.returned (.tuple #[.agg #[.int .i64 0, .slice none 0 0, .int .u64 0, .slice none 0 0], .int .i64 3])) w6 := ⟨HO1.out.trans' o6 (fun q hq e => by omega), .inr (.inl ⟨m, HC1.out, HC2.out, rfl⟩)⟩
    obtain ⟨z0, z1, z2, z3⟩ := box4 h6
    exact bodyPost_ret (v := .tuple #[.agg #[.int .i64 0, .slice none 0 0, .int .u64 0, .slice none 0 0], .int .i64 3]) (by simp [results, Try.results54, go_sem, z0, z1, z2, z3]) rfl hfin
  -- the good way
  have hc0 : (0 : Int) ≤ (c : Int) := by omega
  have hb1 : w.heap.size + 1 ≤ b := by rw [← HSA.out]; exact h4
  have hblt := h5.lt
  have hk := untexts_any b 20 32 r2 β2 w1 h5 (by decide) (by decide)
  have HR1 := Lib.hid hR1; have HO1 := Lib.hid ho1; have HM := Lib.hid h1; have HD0 := Lib.hid h2; have HB1 := Lib.hid hb1; have HBLT := Lib.hid hblt; have HC6 := Lib.hid h6; have HD1 := Lib.hid h7; have HD1B := Lib.hid h8; have HK := Lib.hid hk; have HSZ1 := Lib.hid hsz1
  clear hR1 ho1 h1 h2 hb1 hblt h4 h5 h6 h7 h8 hk o1 hsz1
  go_wp2_with fail
  refine HK.out.mono ?_
  rintro e w2 ⟨ks, r3, β3, ak, ck, rfl, f1, f2, hks, f3, f4, h5, o2, a1, a2⟩
  have hu := ruint_b b 1152921504606846976 r3 β3 w2 h5 (by decide)
  have hs2 := o2.size
  have HU := Lib.hid hu; have O2 := Lib.hid o2; have HKS := Lib.hid hks; have A1 := Lib.hid a1; have A2 := Lib.hid a2; have F := Lib.hid (show Fits ks.length ck from ⟨f1, f2⟩); have HS2 := Lib.hid hs2; clear hu o2 hks a1 a2 f1 f2 f3 f4 h5 hs2 HK
  go_wp2_with fail
  refine HU.out.mono ?_
  rintro e w3 ⟨since, r4, β4, rfl, hsi, h6, o3, b1, b2⟩
  have o13 : Only (fun k => k = b) w1 w3 := O2.out.trans o3
  have hR3 := (o13.block _ (by have := HSZ1.out; omega) (by have := HB1.out; omega)).trans HR1.out
  have hO3 : Only (fun _ => False) w w3 := HO1.out.trans' o13 (fun q hq e => by have := HB1.out; omega)
  have hK3 := HKS.out.only textP_keeps o3 (fun q hq e => by have := HBLT.out; omega)
  have hs3 := o3.size
  have hK3 := hK3.weaken (G' := fun q => w.heap.size + 1 ≤ q ∧ q < w3.heap.size ∧ q ≠ b) textP_weakens (fun q hq h => by have h' : w1.heap.size ≤ q := h; have := HSZ1.out; have := HBLT.out; exact ⟨by omega, hq, by omega⟩)
  have hX := heap_new w3 (.cells #[.int .i64 c, .slice ak ks.length ck, .int .u64 since, .slice none 0 0] 89)
  have oX := (Only.refl (fun _ => False) w3).alloc (.cells #[.int .i64 c, .slice ak ks.length ck, .int .u64 since, .slice none 0 0] 89)
  have hsX : (w3.alloc (.cells #[.int .i64 c, .slice ak ks.length ck, .int .u64 since, .slice none 0 0] 89)).heap.size = w3.heap.size + 1 := by simp
  have hR4 := heap_old hR3 (.cells #[.int .i64 c, .slice ak ks.length ck, .int .u64 since, .slice none 0 0] 89)
  have hu := ruint_b b 4 r4 β4 _ (h6.still oX) (by decide)
  have hK4 := hK3.only textP_keeps oX (fun _ _ h => h)
  have hb3 : b < w3.heap.size := h6.lt
  have hO4 := hO3.trans oX
  have hwb3 : w.heap.size < w3.heap.size := by have := HB1.out; omega
  have HU2 := Lib.hid hu; have HX := Lib.hid hX; have HSX := Lib.hid hsX; have HR4 := Lib.hid hR4; have HK4 := Lib.hid hK4; have HB3 := Lib.hid hb3; have HO4 := Lib.hid hO4; have HWB := Lib.hid hwb3; have B1 := Lib.hid b1; have B2 := Lib.hid b2; have HSI := Lib.hid hsi
  clear hu hX hsX hR4 hK4 hK3 hb3 hO4 hwb3 b1 b2 hsi hR3 hO3 hs3 h6 o3 o13 oX hz
  go_wp2_with fail
  refine HU2.out.mono ?_
  rintro e w5 ⟨n, r5, β5, rfl, hn, h7, o5, c1, c2⟩
  have hlr := LRead.start (dec := decM) c1 c2
  have hs5 : w3.heap.size + 1 ≤ w5.heap.size := by rw [← HSX.out]; exact o5.size
  have hX5 := (o5.block w3.heap.size (by rw [HSX.out]; omega) (by have := HB3.out; omega)).trans HX.out
  have hR5 := (o5.block w.heap.size (by rw [HSX.out]; have := HWB.out; omega) (by have := HB1.out; omega)).trans HR4.out
  have hO5 : Only (fun _ => False) w w5 := HO4.out.trans' o5 (fun q hq e => by have := HB1.out; omega)
  have hK5 := (HK4.out.only textP_keeps o5 (fun q hq e => hq.2.2 e)).weaken (G' := fun q => w.heap.size + 1 ≤ q ∧ q < w5.heap.size ∧ q ≠ b ∧ q ≠ w3.heap.size) textP_weakens (fun q hq h => ⟨h.1, hq, h.2.2, by have := h.2.1; omega⟩)
  have hinv : DInva w b w3.heap.size w5.heap.size c ks ak ck since r4 β4 n w5 := ⟨[], .slice none 0 0, [], fun _ => False, r5, β5, hX5, hR5, own_nil _ _ _ _, rfl, (fun _ h => h.elim), hK5, h7, hO5, Nat.le_refl _, hlr, by simpa using hn⟩
  have hgood : ∀ ms r, β4 = false → decQ 4 decM r4 = some (ms, r) → decAskB r1 = some (⟨c, ks, since, ms⟩, r) := fun ms r hb hd => by
    obtain ⟨e3, g3⟩ := B1.out hb
    obtain ⟨e2, g2⟩ := A1.out e3
    have g1 := HD1.out e2
    unfold decAskB
    rw [g1]; simp only
    rw [g2]; simp only
    rw [g3]; simp only
    rw [hd]
  have hbad : (β4 = true ∨ decQ 4 decM r4 = none) → decAskB r1 = none := fun hb => by
    unfold decAskB
    cases h1 : decU 4 r1 with
    | none => rfl
    | some p1 =>
      obtain ⟨x1, y1⟩ := p1
      simp only
      have e2 : β2 = false := by
        cases hb2 : β2 with
        | false => rfl
        | true => have := (HD1B.out hb2).2; rw [h1] at this; cases this
      have g1 := HD1.out e2
      rw [h1] at g1; injection g1 with g1; injection g1 with g1 g1'
      subst g1'
      cases h2 : decQ 20 (decT 32) y1 with
      | none => rfl
      | some p2 =>
        obtain ⟨x2, y2⟩ := p2
        simp only
        have e3 : β3 = false := by
          cases hb3 : β3 with
          | false => rfl
          | true => rcases A2.out hb3 with h | h; (rw [e2] at h; cases h); (rw [h2] at h; cases h)
        have g2 := (A1.out e3).2
        rw [h2] at g2; injection g2 with g2; injection g2 with g2 g2'
        subst g2'
        cases h3 : decU 1152921504606846976 y2 with
        | none => rfl
        | some p3 =>
          obtain ⟨x3, y3⟩ := p3
          simp only
          have e4 : β4 = false := by
            cases hb4 : β4 with
            | false => rfl
            | true => rcases (B2.out hb4).2 with h | h; (rw [e3] at h; cases h); (rw [h3] at h; cases h)
          have g3 := (B1.out e4).2
          rw [h3] at g3; injection g3 with g3; injection g3 with g3 g3'
          subst g3'
          rcases hb with h | h
          · rw [e4] at h; cases h
          · rw [h]
  have hend1 : ∀ ms r, β4 = false → decQ 4 decM r4 = some (ms, r) → (r = [] → AskOf m ⟨c, ks, since, ms⟩) ∧ (r ≠ [] → ∀ a, ¬ AskOf m a) := fun ms r hb hd => by
    have hg := hgood ms r hb hd
    refine ⟨fun e => ⟨r1, HD0.out, by rw [hg, e]⟩, fun hne a ha => ?_⟩
    obtain ⟨r', k1, k2⟩ := ha
    rw [HD0.out] at k1; injection k1 with k1; injection k1 with _ k1
    subst k1
    rw [hg] at k2; injection k2 with k2; injection k2 with _ k2
    exact hne k2
  have hend2 : (β4 = true ∨ decQ 4 decM r4 = none) → ∀ a, ¬ AskOf m a := fun hb a ha => by
    have hg := hbad hb
    obtain ⟨r', k1, k2⟩ := ha
    rw [HD0.out] at k1; injection k1 with k1; injection k1 with _ k1
    subst k1
    rw [hg] at k2; cases k2
  have hcb : c ≤ 9223372036854775807 := by have := HC6.out; omega
  have hsb : since < 18446744073709551616 := by have := HSI.out; omega
  have HE1 := Lib.hid hend1; have HE2 := Lib.hid hend2; have HINV := Lib.hid hinv; have HS5 := Lib.hid hs5; have HCB := Lib.hid hcb; have HSB := Lib.hid hsb
  clear hlr hs5 hX5 hR5 hO5 hK5 hinv hgood hbad hend1 hend2 c1 c2 h7 o5 hn A1 A2 B1 B2 HU HU2 HX HSX HR4 HK4 HO4 HKS O2 HD0 HD1 HD1B HR1 HO1 HB0 OA HR0 HC6 HSI hcb hsb
  go_wp2_with fail
  obtain ⟨Xb, hXb⟩ : ∃ x, x = w3.heap.size := ⟨_, rfl⟩
  obtain ⟨Bb, hBb⟩ : ∃ x, x = w5.heap.size := ⟨_, rfl⟩
  rw [← hXb] at HS5 HB3 HWB HINV ⊢
  rw [← hBb] at HS5 HINV
  clear hXb hBb
  go_loopw [8] (fun v wr => ∃ m' : Nat, v = .int .u64 (m' : Int) ∧ m' ≤ 4 ∧ Hid (DInva w b Xb Bb c ks ak ck since r4 β4 m' wr)) (fun v _ => (intOf v).toNat)
  case atStart => exact ⟨n, rfl, by obtain ⟨ms, _, _, _, _, _, _, _, _, _, _, _, _, _, _, _, h⟩ := HINV.out; omega, HINV⟩
  case round =>
    obtain ⟨m', rfl, hm', HIN⟩ := hrel
    obtain ⟨ms, vL, xs, G, r, β', hXc, hRc, how, hpc, hG, hkl, hrd, ho, hBs, hlr, hlen⟩ := HIN.out
    obtain ⟨aL, cL, eL, gL1, gL2, gL3⟩ := own_form how
    subst eL
    have hXlt : Xb < wr.heap.size := (Array.getElem?_eq_some_iff.1 hXc).1
    have hRlt : w.heap.size < wr.heap.size := (Array.getElem?_eq_some_iff.1 hRc).1
    have hm0 : (0 : Int) ≤ (m' : Int) := by omega
    have hm1 : (m' : Int) ≤ 4 := by omega
    have gL2n : cL ≤ 9223372036854775807 := by unfold maxLen at gL2; omega
    have hmsn : ms.length ≤ 4 := by omega
    have HXC := Lib.hid hXc; have HRC := Lib.hid hRc; have HOW := Lib.hid how; have HPC := Lib.hid hpc; have HG := Lib.hid hG; have HKL := Lib.hid hkl; have HRD := Lib.hid hrd; have HO := Lib.hid ho; have HBS := Lib.hid hBs; have HLR := Lib.hid hlr; have HLEN := Lib.hid hlen; have HFL := Lib.hid gL3; have HXL := Lib.hid hXlt; have HRL := Lib.hid hRlt; have GL1 := Lib.hid gL1; have GL2 := Lib.hid gL2; have HMSN := Lib.hid hmsn
    clear hXc hRc how hpc hG hkl hrd ho hBs hlr hlen gL3 hXlt hRlt gL1 gL2 hmsn HIN
    by_cases hp : 0 < m'
    rotate_left
    · have t1 : decide ((0 : Int) < (m' : Int)) = false := by simp; omega
      have t2 : decide (0 < m') = false := by simpa using hp
      obtain rfl : m' = 0 := by omega
      go_wp2_with fail
      have hdone := HLR.out.done
      have hE := end_any b r β' wr HRD.out
      have HDN := Lib.hid hdone; have HE := Lib.hid hE; clear hdone hE
      refine HE.out.mono ?_
      rintro e w9 ⟨rfl, rfl⟩
      by_cases hgo : β' = false ∧ r = []
      · obtain ⟨e1, e2⟩ := hgo
        subst e1; subst e2
        obtain ⟨q1, q2⟩ := HDN.out.1 rfl
        have hof := (HE1.out ms [] q1 q2).1 rfl
        obtain ⟨aM, cM, eM, k1, k2, k3⟩ := HPC.out.list mutP_weakens HOW.out (fun q hq => (HG.out q hq).1)
        injection eM with eM1 eM2 eM3
        subst eM1; subst eM3
        obtain ⟨z0, z1, z2, z3⟩ := box4 HXC.out
        have HOF := Lib.hid hof; have K3 := Lib.hid k3; have K12 := Lib.hid (show Fits ms.length cL from ⟨k1, k2⟩); clear hof k3 k1 k2 q1 q2
        have H1D : Hid (∀ u ∈ ([.int .i64 c, .slice ak ks.length ck, .int .u64 since, (.slice aL ms.length cL)] : List Value), u.oneCell' = true) := Lib.hid (by intro v hv; simp only [List.mem_cons, List.not_mem_nil, or_false] at hv; rcases hv with rfl | rfl | rfl | rfl <;> rfl)
        go_wp2_with ((refine wpList_store_box (o := ⟨none, _, _, _, _, _⟩) rfl 89 (.tmp 2) (.tmp 47) (by rfl) w.heap.size [.int .i64 0, .slice none 0 0, .int .u64 0, .slice none 0 0] [.int .i64 c, .slice ak ks.length ck, .int .u64 since, (.slice aL ms.length cL)] (by rfl) (by rfl) HRC.out rfl (by kernel_rfl) H1D.out ?_; intro w6 h6 o6; clear z0 z1 z2 z3))
        obtain ⟨z0, z1, z2, z3⟩ := box4 h6
        have hkl6 := (HKL.out.only textP_keeps o6 (fun q hq e => by have := hq.1; omega)).weaken (G' := fun q => w.heap.size ≤ q) textP_weakens (fun q _ h => by have := h.1; omega)
        have hml6 := (K3.out.only mutP_keeps o6 (fun q hq e => by have := HS5.out; have := HWB.out; omega)).weaken (G' := fun q => w.heap.size ≤ q) mutP_weakens (fun q _ h => by have := HS5.out; have := HWB.out; omega)
        have hfin : RDa w l (.returned (.tuple #[.agg #[.int .i64 c, .slice ak ks.length ck, .int .u64 since, (.slice aL ms.length cL)], .int .i64 0])) w6 := ⟨HO.out.trans' o6 (fun q hq e => by omega), .inr (.inr ⟨m, ⟨c, ks, since, ms⟩, [.int .i64 c, .slice ak ks.length ck, .int .u64 since, (.slice aL ms.length cL)], HM.out, HOF.out, rfl, ak, ck, aL, cL, rfl, HCB.out, HSB.out, F.out, K12.out, hkl6, hml6⟩)⟩
        exact bodyPost_ret (v := .tuple #[.agg #[.int .i64 c, .slice ak ks.length ck, .int .u64 since, (.slice aL ms.length cL)], .int .i64 0]) (by simp [results, Try.results54, go_sem, z0, z1, z2, z3]) rfl hfin
      · have hbt : (!β' && r.isEmpty) = false := by
          cases β' with
          | true => rfl
          | false => cases r with | nil => exact absurd ⟨rfl, rfl⟩ hgo | cons x y => rfl
        have hno : ∀ a, ¬ AskOf m a := by
          cases hb : β' with
          | true => exact HE2.out (HDN.out.2 hb)
          | false =>
            obtain ⟨q1, q2⟩ := HDN.out.1 hb
            exact (HE1.out ms r q1 q2).2 (fun e => hgo ⟨hb, e⟩)
        rw [hbt]
        have HNO := Lib.hid hno; clear hno hgo hbt
        go_wp2_with ((refine wpList_store_box (o := ⟨none, _, _, _, _, _⟩) rfl 89 (.tmp 2) (.tmp 46) (by rfl) w.heap.size [.int .i64 0, .slice none 0 0, .int .u64 0, .slice none 0 0] [.int .i64 0, .slice none 0 0, .int .u64 0, .slice none 0 0] (by rfl) (by rfl) HRC.out rfl (by kernel_rfl) H1C.out ?_; intro w6 h6 o6))
        have hfin : RDa w l (.returned (.tuple #[.agg #[.int .i64 0, .slice none 0 0, .int .u64 0, .slice none 0 0], .int .i64 3])) w6 := ⟨HO.out.trans' o6 (fun q hq e => by omega), .inr (.inl ⟨m, HM.out, HNO.out, rfl⟩)⟩
        obtain ⟨z0, z1, z2, z3⟩ := box4 h6
        exact bodyPost_ret (v := .tuple #[.agg #[.int .i64 0, .slice none 0 0, .int .u64 0, .slice none 0 0], .int .i64 3]) (by simp [results, Try.results54, go_sem, z0, z1, z2, z3]) rfl hfin
    have t1 : decide ((0 : Int) < (m' : Int)) = true := by simp; omega
    have t2 : decide (0 < m') = true := by simpa using hp
    obtain ⟨m2, rfl⟩ : ∃ k, m' = k + 1 := ⟨m' - 1, by omega⟩
    cases β' with
    | true =>
      go_wp2_with fail
      refine (bad_any b r true wr HRD.out).mono ?_
      rintro e w9 ⟨rfl, rfl⟩
      go_wp2_with fail
      have hE := end_any b r true wr HRD.out
      have hno : ∀ a, ¬ AskOf m a := HE2.out (HLR.out.stop.2 rfl)
      have HE := Lib.hid hE; have HNO := Lib.hid hno; clear hE hno
      refine HE.out.mono ?_
      rintro e w9 ⟨rfl, rfl⟩
      go_wp2_with ((refine wpList_store_box (o := ⟨none, _, _, _, _, _⟩) rfl 89 (.tmp 2) (.tmp 46) (by rfl) w.heap.size [.int .i64 0, .slice none 0 0, .int .u64 0, .slice none 0 0] [.int .i64 0, .slice none 0 0, .int .u64 0, .slice none 0 0] (by rfl) (by rfl) HRC.out rfl (by kernel_rfl) H1C.out ?_; intro w6 h6 o6))
      have hfin : RDa w l (.returned (.tuple #[.agg #[.int .i64 0, .slice none 0 0, .int .u64 0, .slice none 0 0], .int .i64 3])) w6 := ⟨HO.out.trans' o6 (fun q hq e => by omega), .inr (.inl ⟨m, HM.out, HNO.out, rfl⟩)⟩
      obtain ⟨z0, z1, z2, z3⟩ := box4 h6
      exact bodyPost_ret (v := .tuple #[.agg #[.int .i64 0, .slice none 0 0, .int .u64 0, .slice none 0 0], .int .i64 3]) (by simp [results, Try.results54, go_sem, z0, z1, z2, z3]) rfl hfin
    | false =>
      go_wp2_with fail
      refine (bad_any b r false wr HRD.out).mono ?_
      rintro e w9 ⟨rfl, rfl⟩
      go_upto_region 8 with (fail)
      have HSZL : Hid (wr.heap.size ≤ wr.heap.size) := Lib.hid (Nat.le_refl _)
      refine wp_region_stepsM 7 (by kernel_rfl) rfl (by kernel_rfl) [some 36, some 37, some 38, some 39, some 40, some 41, some 42] rfl rfl 3 5 (fun q => q = b) (fun q => (Value.slice aL ms.length cL).ownBlock = some q) [4, 5, 6, 7] (by kernel_rfl) [2] (by kernel_rfl) (by decide) (by decide) (.inr ⟨by decide, by decide⟩) [(fun v _ => v = (.pointer (some ⟨Xb, 3, none⟩))), (fun v _ => v = (.slice aL ms.length cL)), (fun v _ => v = (.pointer (some ⟨b, 0, none⟩))), (fun v w1 => ∃ (x : (Nat × List UInt8 × VT)) (d0 d1 d2 d3 d4 d5 d6 : Value) (rV : List UInt8) (βV : Bool), v = .agg #[d0, d1, d2, d3, d4, d5, d6] ∧ (∀ u ∈ [d0, d1, d2, d3, d4, d5, d6], u.oneCell' = true) ∧ MutP w1 (fun q => wr.heap.size ≤ q) x [d0, d1, d2, d3, d4, d5, d6] ∧ ReaderAt w1 b rV βV ∧ (βV = false → decM r = some (x, rV)) ∧ (βV = true → decM r = none)), (fun v w1 => ∃ (g : Nat) (x : (Nat × List UInt8 × VT)) (cs : List Value) (rV : List UInt8) (βV : Bool), v = .slice (some ⟨g, 0, none⟩) 1 1 ∧ wr.heap.size ≤ g ∧ g < w1.heap.size ∧ cs.length = 7 ∧ (∀ u ∈ cs, u.oneCell' = true) ∧ w1.rangeAt g 0 cs ∧ MutP w1 (fun q => wr.heap.size ≤ q) x cs ∧ ReaderAt w1 b rV βV ∧ (βV = false → decM r = some (x, rV)) ∧ (βV = true → decM r = none)), (fun v w1 => ∃ (x : (Nat × List UInt8 × VT)) (cs : List Value) (rV : List UInt8) (βV : Bool), w1.ownsRow Bb 64 7 v (ms.length + 1) (xs ++ cs) ∧ (∀ q, v.ownBlock = some q → (Value.slice aL ms.length cL).ownBlock = some q ∨ wr.heap.size ≤ q) ∧ cs.length = 7 ∧ MutP w1 (fun q => wr.heap.size ≤ q ∧ v.ownBlock ≠ some q) x cs ∧ ReaderAt w1 b rV βV ∧ (βV = false → decM r = some (x, rV)) ∧ (βV = true → decM r = none)), (fun v _ => v = (.pointer (some ⟨Xb, 3, none⟩)))] rfl ⟨?_, ?_, ?_, ?_, ?_, ?_, ?_, trivial⟩ _ rfl ⟨?_, ?_, ?_, ?_, ?_, ?_, ?_, trivial⟩ ?_
      · exact Stable.is _ _
      · exact Stable.is _ _
      · exact Stable.is _ _
      · intro v w1 w2 h ho
        have ho : Only (fun q => (Value.slice aL ms.length cL).ownBlock = some q) w1 w2 := ho
        exact (by obtain ⟨x, d0, d1, d2, d3, d4, d5, d6, rV, βV, e1, e2, e3, e4, e5⟩ := h; exact ⟨x, d0, d1, d2, d3, d4, d5, d6, rV, βV, e1, e2, mutP_keeps _ _ _ _ _ _ ho (fun q hq hk => by have := HFL.out q hk; have := HSZL.out; omega) e3, e4.past ho (fun k hk => by have := HFL.out k hk; have := HS5.out; have := HB3.out; omega), e5⟩)
      · intro v w1 w2 h ho
        have ho : Only (fun q => (Value.slice aL ms.length cL).ownBlock = some q) w1 w2 := ho
        exact (by obtain ⟨g, x, cs, rV, βV, e1, e2, e3, e4, e4b, e5, e6, e7, e8⟩ := h; have hng : ¬ (Value.slice aL ms.length cL).ownBlock = some g := fun hk => (by have := HFL.out g hk; have := HSZL.out; omega); exact ⟨g, x, cs, rV, βV, e1, e2, Nat.lt_of_lt_of_le e3 ho.size, e4, e4b, range_only e5 e3 ho hng, mutP_keeps _ _ _ _ _ _ ho (fun q hq hk => by have := HFL.out q hk; have := HSZL.out; omega) e6, e7.past ho (fun k hk => by have := HFL.out k hk; have := HS5.out; have := HB3.out; omega), e8⟩)
      · intro v w1 w2 h ho
        have ho : Only (fun _ => False) w1 w2 := ho
        exact (by obtain ⟨x, cs, rV, βV, e1, e2, e3, e4, e5, e6⟩ := h; exact ⟨x, cs, rV, βV, own_only' e1 ho (fun _ _ h => h), e2, e3, mutP_keeps _ _ _ _ _ _ ho (fun _ _ h => h) e4, e5.still ho, e6⟩)
      · exact Stable.is _ _
      · intro x wx ox hN TT HTT
        have ox : Only (fun q => (fun q => q = b) q ∨ (fun q => (Value.slice aL ms.length cL).ownBlock = some q) q) _ wx := ox
        clear hN
        unfold StepTo
        simp only [putAll, Act.put, List.setIfInBounds_toArray, List.set_cons_succ, List.set_cons_zero]
        go_wp2_with fail
        exact ⟨rfl, _, rfl, HTT.out _ _ (rfl) (Only.refl _ _)⟩
      · intro x wx ox hN TT HTT
        have ox : Only (fun q => (fun q => q = b) q ∨ (fun q => (Value.slice aL ms.length cL).ownBlock = some q) q) _ wx := ox
        have r36 : x 0 = (.pointer (some ⟨Xb, 3, none⟩)) := hN.1 rfl
        clear hN
        unfold StepTo
        simp only [putAll, Act.put, List.setIfInBounds_toArray, List.set_cons_succ, List.set_cons_zero, r36]
        clear r36
        have hbx := (ox.block _ HXL.out (fun h => by rcases h with h | h; (have := HB3.out; omega); (have := HFL.out _ h; have := HS5.out; omega))).trans HXC.out
        obtain ⟨z0, z1, z2, z3⟩ := box4 hbx
        clear hbx
        go_wp2_with fail
        exact ⟨rfl, _, rfl, HTT.out _ _ (rfl) (Only.refl _ _)⟩
      · intro x wx ox hN TT HTT
        have ox : Only (fun _ => False) _ wx := ox
        clear hN
        unfold StepTo
        simp only [putAll, Act.put, List.setIfInBounds_toArray, List.set_cons_succ, List.set_cons_zero]
        go_wp2_with fail
        exact ⟨rfl, _, rfl, HTT.out _ _ (rfl) (Only.refl _ _)⟩
      · intro x wx ox hN TT HTT
        have ox : Only (fun _ => False) _ wx := ox
        have r38 : x 2 = (.pointer (some ⟨b, 0, none⟩)) := hN.1 rfl
        clear hN
        unfold StepTo
        simp only [putAll, Act.put, List.setIfInBounds_toArray, List.set_cons_succ, List.set_cons_zero, r38]
        clear r38
        have hrx := HRD.out.still (((Only.refl _ wr).drew).trans ox)
        have hsl : wr.heap.size ≤ wx.heap.size := ox.size
        have ht := mut_elem b r false wx hrx
        have HT := Lib.hid ht; have HSL := Lib.hid hsl; clear ht hrx hsl
        go_wp2_with fail
        refine HT.out.mono ?_
        rintro e w6 ⟨x, cs, rV, βV, rfl, hcl, h1c, hp6, h6, o6, k1, k2⟩
        obtain ⟨d0, d1, d2, d3, d4, d5, d6, rfl⟩ := seven_of hcl
        have K1 := Lib.hid k1; have K2 := Lib.hid k2; have H6 := Lib.hid h6; have O6 := Lib.hid o6; have HP6 := Lib.hid hp6; have HC6' := Lib.hid h1c; clear k1 k2 h6 o6 hp6 h1c hcl
        go_wp2_with fail
        exact ⟨rfl, _, rfl, HTT.out _ _ (⟨x, d0, d1, d2, d3, d4, d5, d6, rV, βV, rfl, HC6'.out, mutP_weakens _ _ _ _ _ (fun q _ h => Nat.le_trans HSL.out h) HP6.out, H6.out, fun hb => (K1.out hb).2, fun hb => (K2.out hb).resolve_left (by simp)⟩) (O6.out)⟩
      · intro x wx ox hN TT HTT
        have ox : Only (fun q => (fun q => q = b) q ∨ (fun q => (Value.slice aL ms.length cL).ownBlock = some q) q) _ wx := ox
        have r39 : (fun (v : Value) (w1 : World) => ∃ (x : (Nat × List UInt8 × VT)) (d0 d1 d2 d3 d4 d5 d6 : Value) (rV : List UInt8) (βV : Bool), v = .agg #[d0, d1, d2, d3, d4, d5, d6] ∧ (∀ u ∈ [d0, d1, d2, d3, d4, d5, d6], u.oneCell' = true) ∧ MutP w1 (fun q => wr.heap.size ≤ q) x [d0, d1, d2, d3, d4, d5, d6] ∧ ReaderAt w1 b rV βV ∧ (βV = false → decM r = some (x, rV)) ∧ (βV = true → decM r = none)) (x 3) wx := hN.1 rfl
        clear hN
        unfold StepTo
        simp only [putAll, Act.put, List.setIfInBounds_toArray, List.set_cons_succ, List.set_cons_zero]
        obtain ⟨x, d0, d1, d2, d3, d4, d5, d6, rV, βV, e1, e2, e3, e4, e5, e6⟩ := r39
        simp only [e1]
        have hn := heap_new wx (.cells #[d0, d1, d2, d3, d4, d5, d6] 64)
        have on := (Only.refl (fun _ => False) wx).alloc (.cells #[d0, d1, d2, d3, d4, d5, d6] 64)
        have hgl : wr.heap.size ≤ wx.heap.size := ox.size
        have K1 := Lib.hid e5; have K2 := Lib.hid e6; have H3 := Lib.hid e4; have HN := Lib.hid hn; have ON := Lib.hid on; have HGL2 := Lib.hid hgl; have HV2 := Lib.hid e3; have HONE := Lib.hid e2; clear e1 e2 e3 e4 e5 e6 hn on hgl
        go_wp2_with fail
        exact ⟨rfl, _, rfl, HTT.out _ _ (⟨wx.heap.size, x, _, rV, βV, rfl, HGL2.out, by simp, rfl, HONE.out, range_of_block HN.out, mutP_keeps _ _ _ _ _ _ ON.out (fun _ _ h => h) HV2.out, H3.out.still ON.out, K1.out, K2.out⟩) (ON.out)⟩
      · intro x wx ox hN TT HTT
        have ox : Only (fun q => q = b) _ wx := ox
        have r37 : x 1 = (.slice aL ms.length cL) := hN.1 rfl
        have r40 : (fun (v : Value) (w1 : World) => ∃ (g : Nat) (x : (Nat × List UInt8 × VT)) (cs : List Value) (rV : List UInt8) (βV : Bool), v = .slice (some ⟨g, 0, none⟩) 1 1 ∧ wr.heap.size ≤ g ∧ g < w1.heap.size ∧ cs.length = 7 ∧ (∀ u ∈ cs, u.oneCell' = true) ∧ w1.rangeAt g 0 cs ∧ MutP w1 (fun q => wr.heap.size ≤ q) x cs ∧ ReaderAt w1 b rV βV ∧ (βV = false → decM r = some (x, rV)) ∧ (βV = true → decM r = none)) (x 4) wx := hN.2.1 rfl
        have r39 : (fun (v : Value) (w1 : World) => ∃ (x : (Nat × List UInt8 × VT)) (d0 d1 d2 d3 d4 d5 d6 : Value) (rV : List UInt8) (βV : Bool), v = .agg #[d0, d1, d2, d3, d4, d5, d6] ∧ (∀ u ∈ [d0, d1, d2, d3, d4, d5, d6], u.oneCell' = true) ∧ MutP w1 (fun q => wr.heap.size ≤ q) x [d0, d1, d2, d3, d4, d5, d6] ∧ ReaderAt w1 b rV βV ∧ (βV = false → decM r = some (x, rV)) ∧ (βV = true → decM r = none)) (x 3) wx := hN.2.2.1 rfl
        clear hN
        unfold StepTo
        simp only [putAll, Act.put, List.setIfInBounds_toArray, List.set_cons_succ, List.set_cons_zero, r37]
        clear r37
        obtain ⟨g, x, cs, rV, βV, e1, e2, e3, e4, e4b, e5, e6, e7, e8, e9⟩ := r40
        simp only [e1]
        have hox := own_only' HOW.out (((Only.refl _ wr).drew).trans ox) (fun k hk e => by have := HFL.out k hk; have := HS5.out; have := HB3.out; omega)
        have hys : ∀ j u, cs[j]? = some u → wx.cell? ((⟨g, 0, none⟩ : Addr).add j) = some u := fun j u hu => by rw [addr_add]; exact e5 j u hu
        have hsl : wr.heap.size ≤ wx.heap.size := ox.size
        have HOX := Lib.hid hox; have HYS := Lib.hid hys; have HSL := Lib.hid hsl; have K1 := Lib.hid e8; have K2 := Lib.hid e9; have H6 := Lib.hid e7; have HV6 := Lib.hid e6; have HONE := Lib.hid e4b; clear hox hys hsl e8 e9 e7 e6 e5 e1 e4b
        go_wp2_with ((refine wpList_append_own2 (o := ⟨some 41, _, _, _, _, _⟩) rfl (.tmp 37) (.tmp 40) 87 64 (by rfl) Try.underlying87 infoMut rfl (by decide) Bb (.slice aL ms.length cL) ms.length 1 1 xs cs ⟨g, 0, none⟩ (by rfl) (by rfl) HOX.out (by rw [e4]) HYS.out HONE.out (by have := HMSN.out; unfold maxLen; omega) (by have := HMSN.out; omega) (by have := HSL.out; have := HBS.out; omega) ?_; intro v' w9 q1 q2 q3))
        have hv8 : MutP wx (fun q => wr.heap.size ≤ q ∧ v'.ownBlock ≠ some q) x cs := mutP_weakens _ _ _ _ _ (fun q hq h => ⟨h, fun hv => by rcases q3 q hv with h2 | h2; (have := HFL.out q h2; have := HSZL.out; omega); omega⟩) HV6.out
        have hv9 := mutP_keeps _ _ _ _ _ _ q2 (fun q hq hk => by have := HFL.out q hk; have := HSZL.out; have := hq.1; omega) hv8
        exact ⟨rfl, _, rfl, HTT.out _ _ (⟨x, cs, rV, βV, q1, fun q hq => (q3 q hq).imp _root_.id (fun h => Nat.le_trans HSL.out h), e4, hv9, H6.out.past q2 (fun k hk => by have := HFL.out k hk; have := HS5.out; have := HB3.out; omega), K1.out, K2.out⟩) (q2)⟩
      · intro x wx ox hN TT HTT
        have ox : Only (fun q => (fun q => q = b) q ∨ (fun q => (Value.slice aL ms.length cL).ownBlock = some q) q) _ wx := ox
        have r36 : x 0 = (.pointer (some ⟨Xb, 3, none⟩)) := hN.1 rfl
        have r37 : x 1 = (.slice aL ms.length cL) := hN.2.1 rfl
        have r38 : x 2 = (.pointer (some ⟨b, 0, none⟩)) := hN.2.2.1 rfl
        have r39 : (fun (v : Value) (w1 : World) => ∃ (x : (Nat × List UInt8 × VT)) (d0 d1 d2 d3 d4 d5 d6 : Value) (rV : List UInt8) (βV : Bool), v = .agg #[d0, d1, d2, d3, d4, d5, d6] ∧ (∀ u ∈ [d0, d1, d2, d3, d4, d5, d6], u.oneCell' = true) ∧ MutP w1 (fun q => wr.heap.size ≤ q) x [d0, d1, d2, d3, d4, d5, d6] ∧ ReaderAt w1 b rV βV ∧ (βV = false → decM r = some (x, rV)) ∧ (βV = true → decM r = none)) (x 3) wx := hN.2.2.2.1 rfl
        have r40 : (fun (v : Value) (w1 : World) => ∃ (g : Nat) (x : (Nat × List UInt8 × VT)) (cs : List Value) (rV : List UInt8) (βV : Bool), v = .slice (some ⟨g, 0, none⟩) 1 1 ∧ wr.heap.size ≤ g ∧ g < w1.heap.size ∧ cs.length = 7 ∧ (∀ u ∈ cs, u.oneCell' = true) ∧ w1.rangeAt g 0 cs ∧ MutP w1 (fun q => wr.heap.size ≤ q) x cs ∧ ReaderAt w1 b rV βV ∧ (βV = false → decM r = some (x, rV)) ∧ (βV = true → decM r = none)) (x 4) wx := hN.2.2.2.2.1 rfl
        have r41 : (fun (v : Value) (w1 : World) => ∃ (x : (Nat × List UInt8 × VT)) (cs : List Value) (rV : List UInt8) (βV : Bool), w1.ownsRow Bb 64 7 v (ms.length + 1) (xs ++ cs) ∧ (∀ q, v.ownBlock = some q → (Value.slice aL ms.length cL).ownBlock = some q ∨ wr.heap.size ≤ q) ∧ cs.length = 7 ∧ MutP w1 (fun q => wr.heap.size ≤ q ∧ v.ownBlock ≠ some q) x cs ∧ ReaderAt w1 b rV βV ∧ (βV = false → decM r = some (x, rV)) ∧ (βV = true → decM r = none)) (x 5) wx := hN.2.2.2.2.2.1 rfl
        clear hN
        unfold StepTo
        simp only [putAll, Act.put, List.setIfInBounds_toArray, List.set_cons_succ, List.set_cons_zero, r36, r37, r38]
        clear r36 r37 r38
        go_wp2_with fail
        exact ⟨rfl, _, rfl, HTT.out _ _ (rfl) (Only.refl _ _)⟩
      intro xb wxb oxb hN
      have oxb : Only (fun q => (fun q => q = b) q ∨ (fun q => (Value.slice aL ms.length cL).ownBlock = some q) q) _ wxb := oxb
      have r36 : xb 0 = (.pointer (some ⟨Xb, 3, none⟩)) := hN.1
      have r37 : xb 1 = (.slice aL ms.length cL) := hN.2.1
      have r38 : xb 2 = (.pointer (some ⟨b, 0, none⟩)) := hN.2.2.1
      have r39 : (fun (v : Value) (w1 : World) => ∃ (x : (Nat × List UInt8 × VT)) (d0 d1 d2 d3 d4 d5 d6 : Value) (rV : List UInt8) (βV : Bool), v = .agg #[d0, d1, d2, d3, d4, d5, d6] ∧ (∀ u ∈ [d0, d1, d2, d3, d4, d5, d6], u.oneCell' = true) ∧ MutP w1 (fun q => wr.heap.size ≤ q) x [d0, d1, d2, d3, d4, d5, d6] ∧ ReaderAt w1 b rV βV ∧ (βV = false → decM r = some (x, rV)) ∧ (βV = true → decM r = none)) (xb 3) wxb := hN.2.2.2.1
      have r40 : (fun (v : Value) (w1 : World) => ∃ (g : Nat) (x : (Nat × List UInt8 × VT)) (cs : List Value) (rV : List UInt8) (βV : Bool), v = .slice (some ⟨g, 0, none⟩) 1 1 ∧ wr.heap.size ≤ g ∧ g < w1.heap.size ∧ cs.length = 7 ∧ (∀ u ∈ cs, u.oneCell' = true) ∧ w1.rangeAt g 0 cs ∧ MutP w1 (fun q => wr.heap.size ≤ q) x cs ∧ ReaderAt w1 b rV βV ∧ (βV = false → decM r = some (x, rV)) ∧ (βV = true → decM r = none)) (xb 4) wxb := hN.2.2.2.2.1
      have r41 : (fun (v : Value) (w1 : World) => ∃ (x : (Nat × List UInt8 × VT)) (cs : List Value) (rV : List UInt8) (βV : Bool), w1.ownsRow Bb 64 7 v (ms.length + 1) (xs ++ cs) ∧ (∀ q, v.ownBlock = some q → (Value.slice aL ms.length cL).ownBlock = some q ∨ wr.heap.size ≤ q) ∧ cs.length = 7 ∧ MutP w1 (fun q => wr.heap.size ≤ q ∧ v.ownBlock ≠ some q) x cs ∧ ReaderAt w1 b rV βV ∧ (βV = false → decM r = some (x, rV)) ∧ (βV = true → decM r = none)) (xb 5) wxb := hN.2.2.2.2.2.1
      have r42 : xb 6 = (.pointer (some ⟨Xb, 3, none⟩)) := hN.2.2.2.2.2.2.1
      clear hN
      simp only [putAll, Act.put, List.setIfInBounds_toArray, List.set_cons_succ, List.set_cons_zero, r36, r37, r38, r42]
      clear r36 r37 r38 r42
      obtain ⟨x, cs, rV, βV, q1, q2, q3, q4, q5, p9, p10⟩ := r41
      obtain ⟨aL', cL', eL', gL1', gL2', gL3'⟩ := own_form q1
      rw [eL'] at q1 q2 q4 gL3' ⊢
      have gL2n' : cL' ≤ 9223372036854775807 := by unfold maxLen at gL2'; omega
      have hXb := (oxb.block _ HXL.out (fun h => by rcases h with h | h; (have := HB3.out; omega); (have := HFL.out _ h; have := HS5.out; omega))).trans HXC.out
      have hRb := (oxb.block _ HRL.out (fun h => by rcases h with h | h; (have := HB1.out; omega); (have := HFL.out _ h; have := HS5.out; have := HWB.out; omega))).trans HRC.out
      have hfz : ∀ o, wxb.frozen? ⟨Xb, o, none⟩ = false := fun o => by simp [World.frozen?, hXb]
      have hltb : Xb < wxb.heap.size := (Array.getElem?_eq_some_iff.1 hXb).1
      obtain ⟨z0, z1, z2, z3⟩ := box4 hXb
      have hX6 := heap_set (o := 3) hXb (.slice aL' (ms.length + 1) cL')
      have hX6 : (wxb.setCell ⟨Xb, 3, none⟩ (.slice aL' (ms.length + 1) cL')).heap[Xb]? = some (.cells #[.int .i64 c, .slice ak ks.length ck, .int .u64 since, (.slice aL' (ms.length + 1) cL')] 89 (0, 0)) := by simpa using hX6
      have hR6 := heap_set_ne (a := ⟨Xb, 3, none⟩) hRb (by have := HWB.out; show w.heap.size ≠ Xb; omega) (.slice aL' (ms.length + 1) cL')
      have o6 := (Only.refl (fun k => k = Xb) wxb).setCell (p := ⟨Xb, 3, none⟩) (.inl rfl) (.slice aL' (ms.length + 1) cL')
      have hrd6 := q5.past o6 (fun k hk => by have := HB3.out; omega)
      have hob : Only (fun q => q = b ∨ q = Xb ∨ (Value.slice aL ms.length cL).ownBlock = some q) wr (wxb.setCell ⟨Xb, 3, none⟩ (.slice aL' (ms.length + 1) cL')) := ((((Only.refl _ wr).drew).trans' oxb (fun q _ h => h.imp _root_.id .inr)).trans' o6 (fun q _ h => .inr (.inl h)))
      have hsz6 : wr.heap.size ≤ (wxb.setCell ⟨Xb, 3, none⟩ (.slice aL' (ms.length + 1) cL')).heap.size := hob.size
      have hL6 := own_only' q1 o6 (fun k hk e => by rcases q2 k hk with h | h; (have := HFL.out k h; have := HS5.out; omega); (have := HXL.out; omega))
      have hC6 := HPC.out.only mutP_keeps hob (fun k hk h => by have hg := HG.out k hk; have := HS5.out; have := HB3.out; rcases h with h | h | h; omega; omega; exact hg.2.2 h)
      have hO6 : Only (fun _ => False) w (wxb.setCell ⟨Xb, 3, none⟩ (.slice aL' (ms.length + 1) cL')) := HO.out.trans' hob (fun q hq h => by have := HB1.out; have := HWB.out; rcases h with h | h | h; omega; omega; (have := HFL.out q h; have := HS5.out; omega))
      have hk6 := HKL.out.only textP_keeps hob (fun q hq h => by rcases h with h | h | h; exact hq.2.2.1 h; exact hq.2.2.2 h; (have := HFL.out q h; have := hq.2.1; omega))
      have hv6 := mutP_keeps _ _ _ _ _ _ o6 (fun q hq hk => by have := hq.1; have := HXL.out; omega) q4
      have hCC : Pieces 7 MutP (wxb.setCell ⟨Xb, 3, none⟩ (.slice aL' (ms.length + 1) cL')) (fun q => G q ∨ (wr.heap.size ≤ q ∧ q < (wxb.setCell ⟨Xb, 3, none⟩ (.slice aL' (ms.length + 1) cL')).heap.size ∧ (Value.slice aL' (ms.length + 1) cL').ownBlock ≠ some q)) (ms ++ [x]) (xs ++ cs) := Pieces.snoc q3 (mutP_weakens _ _ _ _ _ (fun q hq h => .inr ⟨h.1, hq, h.2⟩) hv6) (hC6.weaken mutP_weakens (fun q _ h => .inl h))
      have hG6 : ∀ q, (G q ∨ (wr.heap.size ≤ q ∧ q < (wxb.setCell ⟨Xb, 3, none⟩ (.slice aL' (ms.length + 1) cL')).heap.size ∧ (Value.slice aL' (ms.length + 1) cL').ownBlock ≠ some q)) → Bb ≤ q ∧ q < (wxb.setCell ⟨Xb, 3, none⟩ (.slice aL' (ms.length + 1) cL')).heap.size ∧ (Value.slice aL' (ms.length + 1) cL').ownBlock ≠ some q := fun q hq => by
        rcases hq with hq | ⟨hq1, hq2, hq3⟩
        · have hg := HG.out q hq
          refine ⟨hg.1, by omega, fun h => ?_⟩
          rcases q2 q h with h | h
          · exact hg.2.2 h
          · omega
        · exact ⟨by have := HBS.out; omega, hq2, hq3⟩
      have hLR6 := HLR.out.next p9 p10
      have hNEW : DInva w b Xb Bb c ks ak ck since r4 β4 m2 (wxb.setCell ⟨Xb, 3, none⟩ (.slice aL' (ms.length + 1) cL')) := ⟨ms ++ [x], .slice aL' (ms.length + 1) cL', xs ++ cs, _, rV, βV, hX6, hR6, by rw [List.length_append, List.length_singleton]; exact hL6, hCC, hG6, hk6, hrd6, hO6, by have := HBS.out; omega, hLR6, by have := HLEN.out; rw [List.length_append, List.length_singleton]; omega⟩
      have HNEW := Lib.hid hNEW
      clear hNEW hLR6 hG6 hCC hv6 hk6 hO6 hC6 hL6 hsz6 hob hrd6 o6 hR6 hX6 q1 q2 q3 q4 q5 p9 p10 gL1' gL2' gL3' eL' hXb hRb oxb r39 r40
      go_wp2_with fail
      go_roundw
      case rel => exact ⟨m2, by simp [go_sem], by omega, HNEW⟩
      case measure => simp [intOf]
end Go.Proofs.Ytoojnpafcdaflaa
