/- Package ledger: Open. -/
import Derived.Test.YtlkglhgndfhjeaaGap
namespace Go.Proofs.Ytlkglhgndfhjeaa
open Go Go.RowKit
set_option linter.unusedVariables false
set_option linter.unusedSimpArgs false
set_option maxRecDepth 100000

/-- A ledger in memory, and on its disk. -/
structure LedAt (W : World) (X : Nat → Prop) (w : World) (d l m : Nat) (V : List (List UInt8)) (f : Fl) (fs : List (List UInt8)) : Prop where
  dx : DX W X w d V m true
  good : Good V f fs
  box : ∃ a c, Box w l d f (.slice a (tailOf f fs).length c) ∧ Bytes w (.slice a (tailOf f fs).length c) (tailOf f fs) ∧ ∀ k, (Value.slice a (tailOf f fs).length c).ownBlock = some k → X k ∧ k ≠ l
  xl : X l
  hl : W.heap.size ≤ l
/-- The disk as Open finds it. -/
def Ready (V : List (List UInt8)) (f : Fl) (fs : List (List UInt8)) : Prop :=
  (f.turn = 0 ∧ f.side = 0 ∧ fs = [[]] ∧ Pre V f ∧ (V.getD (f.first 1 - 1) []).take 16 = hdr 0) ∨ Good V f fs
def OpenPost (W : World) (X : Nat → Prop) (d m : Nat) (V : List (List UInt8)) (f : Fl) (s : List UInt8) (rs : List (List UInt8)) (w : World) (e : Ending) (w' : World) : Prop :=
  ∃ (l : Nat) (sv av : Value) (X' : Nat → Prop), e = .returned (.tuple #[.pointer (some ⟨l, 0, none⟩), sv, av, .int .i64 0]) ∧
    LedAt W X' w' d l (m + f.half + 2) (layV V f (laid (f.turn + 1) 1 (s :: rs))) (f.laid (sizes (s :: rs)) (s :: rs).length) (s :: rs) ∧ Recs w' (fun k => X' k ∧ k ≠ l ∧ w.heap.size ≤ k) sv av s rs ∧
    (∀ k, X k → X' k) ∧ (∀ k, X' k → X k ∨ w.heap.size ≤ k) ∧ w.heap.size ≤ l ∧ Only (fun k => W.heap.size ≤ k ∧ ¬ X k) w w' ∧
    ∀ b c, Box w' l d (f.laid (sizes (s :: rs)) (s :: rs).length) (.slice b (tailOf (f.laid (sizes (s :: rs)) (s :: rs).length) (s :: rs)).length c) → ∀ k, (Value.slice b (tailOf (f.laid (sizes (s :: rs)) (s :: rs).length) (s :: rs)).length c).ownBlock = some k → w.heap.size ≤ k
theorem Box.one {w : World} {l d : Nat} {f : Fl} {u v : Value} (h : Box w l d f u) (h' : Box w l d f v) : u = v := by
  have h := h.cells.2.2.2.2.2.1
  have h' := h'.cells.2.2.2.2.2.1
  rw [h] at h'; injection h'
def nxt (g : Fl) (i T : Nat) : Fl := if g.turn < T then { g with turn := T, side := i } else g
theorem hdr_head {B : List UInt8} {T : Nat} (h : B.take 16 = hdr T) (hT : T ≤ 1000000000) : get32 B = 0 ∧ get32 (B.drop 4) = T := by
  have e : B = hdr T ++ B.drop 16 := by rw [← h, List.take_append_drop]
  have h0 : T / 4294967296 % 4294967296 = 0 := by omega
  have h1 : T % 4294967296 = T := by omega
  constructor
  · rw [e]; unfold hdr num8
    rw [h0, List.append_assoc, List.append_assoc, get_put _ (by decide)]
  · rw [e]; unfold hdr num8
    rw [h0, h1, List.append_assoc, List.append_assoc, show 4 = (put32 0).length from rfl, List.drop_left, List.append_assoc, get_put _ (by omega)]
theorem or0 (T : Nat) (h : T ≤ 1000000000) : bits .or .u64 0 (T : Int) = (T : Int) := by
  show IntKind.u64.wrap ((BitVec.ofInt 64 0 ||| BitVec.ofInt 64 (T : Int)).toNat : Int) = _
  rw [BitVec.toNat_or, BitVec.ofInt_natCast, BitVec.toNat_ofNat, show (BitVec.ofInt 64 0).toNat = 0 from by decide, Nat.zero_or, Nat.mod_eq_of_lt (by omega), IntKind.wrap_u64]
  omega
theorem open_nil (at_ count : Int) (w : World) : Calls Try.prog 35 #[.pointer none, .int .i64 at_, .int .i64 count] w fun e w' => e = .returned (.tuple #[.pointer none, .slice none 0 0, .slice none 0 0, .int .i64 6]) ∧ w = w' := by
  go_enter Try.func35, Try.ntmps35
  go_wp2
  exact bodyPost_ret (v := .tuple #[.pointer none, .slice none 0 0, .slice none 0 0, .int .i64 6]) (by simp [results, Try.results35, go_sem]) rfl ⟨rfl, rfl⟩
theorem open_done {W : World} {X : Nat → Prop} {d m : Nat} {V : List (List UInt8)} {f : Fl} {tv sv av : Value} {s : List UInt8} {rs : List (List UInt8)} {q : Bool} {l : Nat} {w w4 w' : World} {e : Ending} (hpre : Pre V f) (hfit : sizes (s :: rs) ≤ f.room) (ht : f.turn + 1 ≤ 1000000000) (hn : (s :: rs).length ≤ 1000000) (hX : ∀ k, X k → k < w.heap.size) (hWw : W.heap.size ≤ w.heap.size)
    (ho : Only (fun _ => False) w w4) (hl : l = w.heap.size) (hl4 : l < w4.heap.size) (hr : Recs w4 (fun k => w.heap.size ≤ k ∧ k < w4.heap.size ∧ k ≠ l) sv av s rs) (hp : LayPost W (fun k => X k ∨ (w.heap.size ≤ k ∧ k < w4.heap.size)) d m V l f tv (s :: rs) q w4 e w') :
    e = .returned (.int .i64 0) ∧ OpenPost W X d m V f s rs w (.returned (.tuple #[.pointer (some ⟨l, 0, none⟩), sv, av, .int .i64 0])) w' := by
  rcases hp with ⟨h1, _⟩ | ⟨_, he, a, c, h⟩
  · omega
  · refine ⟨he, ?_⟩
    have hlen : (laid (f.turn + 1) 1 (s :: rs)).length = sizes (s :: rs) := laid_len _ _ _
    have ht' : tailOf (f.laid (sizes (s :: rs)) (s :: rs).length) (s :: rs) = (laid (f.turn + 1) 1 (s :: rs)).drop ((laid (f.turn + 1) 1 (s :: rs)).length / 64 * 64) := by rw [hlen]; rfl
    simp only at h
    rw [← ht'] at h
    obtain ⟨g1, g2, g3, g4, g5⟩ := h
    refine ⟨l, sv, av, _, rfl, ⟨g4, hpre.lay (s :: rs) (by simp) hfit ht hn, ⟨a, c, g1, g2, fun k hk => ⟨.inr hk, by have := (g3 k hk).1; omega⟩⟩, .inl (.inr ⟨by omega, hl4⟩), by omega⟩, ?_, fun k hk => .inl (.inl hk), fun k hk => ?_, by omega, ?_, fun b2 c2 hb2 k hk => ?_⟩
    · refine (hr.only g5 (fun k hk hs => ?_)).weaken (fun k _ hk => ⟨.inl (.inr ⟨hk.1, hk.2.1⟩), hk.2.2, hk.1⟩)
      rcases hs.2 with h | h
      · exact h (.inr ⟨hk.1, hk.2.1⟩)
      · exact hk.2.2 h
    · rcases hk with (h | h) | h
      · exact .inl h
      · exact .inr h.1
      · have := (g3 k h).1; have := ho.size; exact .inr (by omega)
    · refine (ho.mono (fun _ _ h => h.elim)).trans (g5.mono (fun k _ hk => ⟨hk.1, fun hx => ?_⟩))
      rcases hk.2 with h | h
      · exact h (.inl hx)
      · have := hX k hx; omega
    · have := (g3 k (by rw [← hb2.one g1]; exact hk)).1; have := ho.size; omega
set_option maxHeartbeats 8000000 in
theorem open_any (W : World) (X : Nat → Prop) (d m : Nat) (V : List (List UInt8)) (q : Bool) (f : Fl) (s : List UInt8) (rs : List (List UInt8)) (w : World) (h : DX W X w d V m q) (hr : Ready V f (s :: rs)) (hfit : sizes (s :: rs) ≤ f.room) (hm : m + 20000 ≤ 1000000000) (ht : f.turn + 1 ≤ 1000000000) :
    Calls Try.prog 35 #[.pointer (some ⟨d, 0, none⟩), .int .i64 (f.at_ : Int), .int .i64 ((2 * f.half : Nat) : Int)] w (OpenPost W X d m V f s rs w) := by
  have hpre : Pre V f := by
    rcases hr with h | h
    · exact h.2.2.2.1
    · exact h.toPre
  obtain ⟨T, hT, hTf⟩ : ∃ T : Nat → Nat, (∀ i, i ≤ 1 → (V.getD (f.at_ + i * f.half) []).take 16 = hdr (T i) ∧ T i ≤ 1000000000) ∧ nxt (nxt ⟨f.at_, f.half, 0, 0, 0, 0⟩ 0 (T 0)) 1 (T 1) = ⟨f.at_, f.half, f.side, f.turn, 0, 0⟩ := by
    have e1 : ∀ i, f.first i - 1 = f.at_ + i * f.half := fun i => by unfold Fl.first; omega
    have hh := hpre.head
    rw [e1] at hh
    rcases hr with ⟨h1, h2, h3, h4, h5⟩ | hg
    · rw [e1] at h5
      rw [h1, h2] at hh
      refine ⟨fun _ => 0, fun i hi => ⟨?_, Nat.zero_le _⟩, ?_⟩
      · rcases (by omega : i = 0 ∨ i = 1) with rfl | rfl
        · exact hh
        · exact h5
      · unfold nxt; rw [h1, h2]; rfl
    · obtain ⟨t, ht1, ht2⟩ := hg.other
      rw [e1] at ht2
      have hs := hg.ok.side
      have htu := hg.ok.turn
      rcases (by omega : f.side = 0 ∨ f.side = 1) with e | e
      · rw [e] at hh ht2
        refine ⟨fun i => if i = 0 then f.turn else t, fun i hi => ?_, ?_⟩
        · rcases (by omega : i = 0 ∨ i = 1) with rfl | rfl
          · exact ⟨hh, htu⟩
          · exact ⟨ht2, by show t ≤ _; omega⟩
        · have h1 : 0 < f.turn := by have := hg.turn; omega
          have h2 : ¬ f.turn < t := by omega
          simp [nxt, h1, h2, e]
      · rw [e] at hh ht2
        refine ⟨fun i => if i = 0 then t else f.turn, fun i hi => ?_, ?_⟩
        · rcases (by omega : i = 0 ∨ i = 1) with rfl | rfl
          · exact ⟨ht2, by show t ≤ _; omega⟩
          · exact ⟨hh, htu⟩
        · have h1 : 0 < f.turn := by have := hg.turn; omega
          by_cases h0 : 0 < t
          · simp [nxt, h0, ht1, e]
          · simp [nxt, h0, h1, e]
  have hok := hpre.ok
  have ha0 : (0 : Int) ≤ (f.at_ : Int) := by omega
  have ha1 : (f.at_ : Int) ≤ 10000 := by have := hok.at_; omega
  have hh := hok.half
  have hh0 : (2 : Int) ≤ (f.half : Int) := by omega
  have hh1 : (f.half : Int) ≤ 10000 := by omega
  have hgeo := hpre.geo
  have hVl := hpre.len
  have e2 : ((2 * f.half : Nat) : Int) = 2 * (f.half : Int) := by omega
  rw [e2]
  have hlen := dlen_v W X d m V q w h
  have q1 : decide ((f.at_ : Int) < 0) = false := by simp
  have q2 : decide (2 * (f.half : Int) < 4) = false := by simp; omega
  have q3 : ((2 * (f.half : Int)) % 2 != 0) = false := by simp
  have q4 : decide ((V.length : Int) - (f.at_ : Int) < 2 * (f.half : Int)) = false := by simp; omega
  have q5 : 2 * (f.half : Int) / 2 = (f.half : Int) := by omega
  have hv0 : (V.length : Int) ≤ 100000 := by omega
  have H := Lib.hid h; have HLEN := Lib.hid hlen; have PRE := Lib.hid hpre; have HR := Lib.hid hr; have HT := Lib.hid hT; have HTF := Lib.hid hTf; have HF := Lib.hid hfit; have HM := Lib.hid hm; have HTU := Lib.hid ht
  clear h hlen hpre hr hT hTf hfit hm ht hok e2
  go_enter Try.func35, Try.ntmps35
  go_wp2_with fail
  refine HLEN.out.mono ?_
  rintro e w1 ⟨rfl, rfl⟩
  obtain ⟨l, hl⟩ : ∃ l, l = w.heap.size := ⟨_, rfl⟩
  have hbx : Box (w.alloc (.cells #[.pointer (some ⟨d, 0, none⟩), .int .i64 (f.at_ : Int), .int .i64 (f.half : Int), .int .i64 0, .int .u64 0, .slice none 0 0, .int .i64 0, .int .i64 0] 92)) l d ⟨f.at_, f.half, 0, 0, 0, 0⟩ (.slice none 0 0) := by rw [hl]; exact heap_new w _
  have ho0 := (Only.refl (fun _ => False) w).alloc (.cells #[.pointer (some ⟨d, 0, none⟩), .int .i64 (f.at_ : Int), .int .i64 (f.half : Int), .int .i64 0, .int .u64 0, .slice none 0 0, .int .i64 0, .int .i64 0] 92)
  have HBX := Lib.hid hbx; have HO0 := Lib.hid ho0; have HLL := Lib.hid hl
  clear hbx ho0 q1 q2 q3 q4
  go_wp2_with fail
  rw [← hl]
  clear hl q5
  go_loopw [46] (fun v wr => ∃ (i : Nat), v = .int .i64 (i : Int) ∧ i ≤ 2 ∧ Hid (Box wr l d (if i = 0 then ⟨f.at_, f.half, 0, 0, 0, 0⟩ else if i = 1 then nxt ⟨f.at_, f.half, 0, 0, 0, 0⟩ 0 (T 0) else nxt (nxt ⟨f.at_, f.half, 0, 0, 0, 0⟩ 0 (T 0)) 1 (T 1)) (.slice none 0 0)) ∧ Hid (Only (fun _ => False) w wr)) (fun v _ => 2 - (intOf v).toNat)
  case atStart => exact ⟨0, by simp, by omega, HBX, HO0⟩
  case round =>
    obtain ⟨i, rfl, hi2, HB, HO⟩ := hrel
    by_cases hi : i < 2
    · have t1 : decide ((i : Int) < 2) = true := by simp; omega
      obtain ⟨g, hg, hga, hgh, hnx⟩ : ∃ g : Fl, (if i = 0 then (⟨f.at_, f.half, 0, 0, 0, 0⟩ : Fl) else if i = 1 then nxt ⟨f.at_, f.half, 0, 0, 0, 0⟩ 0 (T 0) else nxt (nxt ⟨f.at_, f.half, 0, 0, 0, 0⟩ 0 (T 0)) 1 (T 1)) = g ∧ g.at_ = f.at_ ∧ g.half = f.half ∧ (if i + 1 = 0 then (⟨f.at_, f.half, 0, 0, 0, 0⟩ : Fl) else if i + 1 = 1 then nxt ⟨f.at_, f.half, 0, 0, 0, 0⟩ 0 (T 0) else nxt (nxt ⟨f.at_, f.half, 0, 0, 0, 0⟩ 0 (T 0)) 1 (T 1)) = nxt g i (T i) := by
        rcases (by omega : i = 0 ∨ i = 1) with rfl | rfl
        · exact ⟨_, rfl, rfl, rfl, rfl⟩
        · refine ⟨_, rfl, ?_, ?_, rfl⟩
          · simp only [show ¬ (1 : Nat) = 0 from by decide, if_false, if_true]; unfold nxt; split <;> rfl
          · simp only [show ¬ (1 : Nat) = 0 from by decide, if_false, if_true]; unfold nxt; split <;> rfl
      have hBg := HB.out
      rw [hg] at hBg
      obtain ⟨hTi, hTb⟩ := HT.out i (by omega)
      obtain ⟨t, htT⟩ : ∃ t, T i = t := ⟨_, rfl⟩
      rw [htT] at hTi hTb hnx
      obtain ⟨B, hB⟩ : ∃ B, V.getD (f.at_ + i * f.half) [] = B := ⟨_, rfl⟩
      rw [hB] at hTi
      have hmul : i * f.half ≤ f.half := by rcases (by omega : i = 0 ∨ i = 1) with e | e <;> rw [e] <;> omega
      have hrd := read_v W X d m V q (f.at_ + i * f.half) wr (H.out.still HO.out) (by omega)
      rw [hB] at hrd
      have hcb := hBg.cells
      rw [hgh] at hcb
      obtain ⟨x0, x1, x2, x3, x4, x5, x6, x7, xz, xl⟩ := hcb
      have e3 : ((f.at_ + i * f.half : Nat) : Int) = (f.at_ : Int) + ((i * f.half : Nat) : Int) := by omega
      have e4 : (i : Int) * (f.half : Int) = ((i * f.half : Nat) : Int) := by simp
      rw [e3] at hrd
      obtain ⟨mu, hmu⟩ : ∃ mu, i * f.half = mu := ⟨_, rfl⟩
      rw [hmu] at hrd e4 hmul
      have m0 : (mu : Int) ≤ 10000 := by omega
      have m1 : (0 : Int) ≤ (mu : Int) := by omega
      have z1 : IntKind.i64.wrap (mu : Int) = (mu : Int) := by rw [IntKind.wrap_i64]; omega
      have HRD := Lib.hid hrd; have HBG := Lib.hid hBg; have HNX := Lib.hid hnx; have HTI := Lib.hid hTi; have HGA := Lib.hid hga; have HGH := Lib.hid hgh; have HG := Lib.hid hg
      have gt0 : (0 : Int) ≤ (t : Int) := by omega
      have gt1 : (t : Int) ≤ 1000000000 := by omega
      clear hrd hBg hnx hTi hga hgh hg htT hB e3 hmu
      go_wp2_with fail
      refine HRD.out.mono ?_
      rintro e w5 ⟨g5, rfl, hg5, hg5l, hb5, hB64, o5⟩
      have hO5 := HO.out.trans o5
      obtain ⟨gh1, gh2⟩ := hdr_head HTI.out hTb
      obtain ⟨aF, cF, hF, hbF, hoF⟩ := cutFrom (l := B) (a := some ⟨g5, 0, none⟩) (c := 64) (by rw [hB64]; exact hb5) 4 (by rw [hB64]; decide) .i64
      obtain ⟨aT, cT, hTo, hbT, hoT⟩ := cutTo (l := B) (a := some ⟨g5, 0, none⟩) (c := 64) (by rw [hB64]; exact hb5) 16 (by rw [hB64]; decide) .i64
      rw [hB64] at hF hTo hbF
      have hbx5 := HBG.out.only o5 (fun h => h)
      have hfa : ∀ w', Only (fun _ => False) w5 w' → Bytes w' (.slice (some ⟨g5, 0, none⟩) 64 64) B ∧ Bytes w' (.slice aF (64 - 4) cF) (B.drop 4) ∧ Bytes w' (.slice aT 16 cT) (B.take 16) ∧ Box w' l d g (.slice none 0 0) := fun w' o => ⟨hb5.still o, hbF.still o, hbT.still o, hbx5.only o (fun h => h)⟩
      have hl5 : (B.drop 4).length = 60 := by rw [List.length_drop, hB64]
      have HFA := Lib.hid hfa; have HHF := Lib.hid hF; have HHT := Lib.hid hTo; have GH1 := Lib.hid gh1; have GH2 := Lib.hid gh2; have HO5 := Lib.hid hO5; have HB64 := Lib.hid hB64; have HL5 := Lib.hid hl5
      have hor := or0 t hTb
      have HOR := Lib.hid hor
      clear hfa hF hTo hbF hbT hoF hoT gh1 gh2 hO5 hb5 hB64 hbx5 hg5 hg5l o5 hl5 hor x0 x1 x2 x3 x4 x5 x6 x7 xz z1 e4
      go_wp2_with fail
      refine wp_region_steps 9 (by kernel_rfl) rfl (by kernel_rfl) [some 65, some 66, some 67, some 68, some 69, some 70, some 71, some 72, some 73] rfl rfl (fun _ => False) [(fun v _ => v = (.slice (some ⟨g5, 0, none⟩) 64 64)), (fun v _ => v = (.int .u32 0)), (fun v _ => v = (.int .u64 0)), (fun v _ => v = (.int .u64 0)), (fun v _ => v = (.slice (some ⟨g5, 0, none⟩) 64 64)), (fun v _ => v = (.slice aF (64 - 4) cF)), (fun v _ => v = (.int .u32 (t : Int))), (fun v _ => v = (.int .u64 (t : Int))), (fun v _ => v = (.int .u64 (t : Int)))] rfl ⟨?_, ?_, ?_, ?_, ?_, ?_, ?_, ?_, ?_, trivial⟩ _ rfl ⟨?_, ?_, ?_, ?_, ?_, ?_, ?_, ?_, ?_, trivial⟩ ?_
      · exact Stable.is _ _
      · exact Stable.is _ _
      · exact Stable.is _ _
      · exact Stable.is _ _
      · exact Stable.is _ _
      · exact Stable.is _ _
      · exact Stable.is _ _
      · exact Stable.is _ _
      · exact Stable.is _ _
      · intro x wx ox hN TT HTT
        clear hN
        unfold StepTo
        simp only [putAll, Act.put, List.setIfInBounds_toArray, List.set_cons_succ, List.set_cons_zero]
        go_wp2_with fail
        exact ⟨rfl, _, rfl, HTT.out _ _ (rfl) (Only.refl _ _)⟩
      · intro x wx ox hN TT HTT
        have r65 : x 0 = (.slice (some ⟨g5, 0, none⟩) 64 64) := hN.1 rfl
        clear hN
        unfold StepTo
        simp only [putAll, Act.put, List.setIfInBounds_toArray, List.set_cons_succ, List.set_cons_zero, r65]
        clear r65
        have hc := get_any _ _ wx (HFA.out wx (((Only.refl _ w5).drew).trans ox)).1 (by rw [HB64.out]; decide)
        rw [GH1.out] at hc
        have HC := Lib.hid hc; clear hc
        go_wp2_with fail
        refine HC.out.mono ?_
        rintro e w6 ⟨rfl, n6, rfl⟩
        go_wp2_with fail
        exact ⟨rfl, _, rfl, HTT.out _ _ (rfl) ((Only.refl _ _).drewN n6)⟩
      · intro x wx ox hN TT HTT
        have r66 : x 1 = (.int .u32 0) := hN.1 rfl
        clear hN
        unfold StepTo
        simp only [putAll, Act.put, List.setIfInBounds_toArray, List.set_cons_succ, List.set_cons_zero, r66]
        clear r66
        go_wp2_with fail
        exact ⟨rfl, _, rfl, HTT.out _ _ (rfl) (Only.refl _ _)⟩
      · intro x wx ox hN TT HTT
        have r67 : x 2 = (.int .u64 0) := hN.1 rfl
        clear hN
        unfold StepTo
        simp only [putAll, Act.put, List.setIfInBounds_toArray, List.set_cons_succ, List.set_cons_zero, r67]
        clear r67
        go_wp2_with fail
        exact ⟨rfl, _, rfl, HTT.out _ _ (rfl) (Only.refl _ _)⟩
      · intro x wx ox hN TT HTT
        clear hN
        unfold StepTo
        simp only [putAll, Act.put, List.setIfInBounds_toArray, List.set_cons_succ, List.set_cons_zero]
        go_wp2_with fail
        exact ⟨rfl, _, rfl, HTT.out _ _ (rfl) (Only.refl _ _)⟩
      · intro x wx ox hN TT HTT
        have r69 : x 4 = (.slice (some ⟨g5, 0, none⟩) 64 64) := hN.1 rfl
        clear hN
        unfold StepTo
        simp only [putAll, Act.put, List.setIfInBounds_toArray, List.set_cons_succ, List.set_cons_zero, r69]
        clear r69
        have hs := HHF.out wx
        rw [show ((4 : Nat) : Int) = 4 from rfl] at hs
        go_wp2_with fail
        exact ⟨rfl, _, rfl, HTT.out _ _ (rfl) (Only.refl _ _)⟩
      · intro x wx ox hN TT HTT
        have r70 : x 5 = (.slice aF (64 - 4) cF) := hN.1 rfl
        have r66 : x 1 = (.int .u32 0) := hN.2.1 rfl
        clear hN
        unfold StepTo
        simp only [putAll, Act.put, List.setIfInBounds_toArray, List.set_cons_succ, List.set_cons_zero, r70, r66]
        clear r70 r66
        have hc := get_any _ _ wx (HFA.out wx (((Only.refl _ w5).drew).trans ox)).2.1 (by rw [HL5.out]; decide)
        rw [GH2.out] at hc
        have HC := Lib.hid hc; clear hc
        go_wp2_with fail
        refine HC.out.mono ?_
        rintro e w6 ⟨rfl, n6, rfl⟩
        go_wp2_with fail
        exact ⟨rfl, _, rfl, HTT.out _ _ (rfl) ((Only.refl _ _).drewN n6)⟩
      · intro x wx ox hN TT HTT
        have r71 : x 6 = (.int .u32 (t : Int)) := hN.1 rfl
        clear hN
        unfold StepTo
        simp only [putAll, Act.put, List.setIfInBounds_toArray, List.set_cons_succ, List.set_cons_zero, r71]
        clear r71
        go_wp2_with fail
        exact ⟨rfl, _, rfl, HTT.out _ _ (rfl) (Only.refl _ _)⟩
      · intro x wx ox hN TT HTT
        have r68 : x 3 = (.int .u64 0) := hN.1 rfl
        have r72 : x 7 = (.int .u64 (t : Int)) := hN.2.1 rfl
        clear hN
        unfold StepTo
        simp only [putAll, Act.put, List.setIfInBounds_toArray, List.set_cons_succ, List.set_cons_zero, r68, r72]
        clear r68 r72
        have ho := HOR.out
        go_wp2_with fail
        exact ⟨rfl, _, rfl, HTT.out _ _ (rfl) (Only.refl _ _)⟩
      intro xa wxa oxa hN
      have r65 : xa 0 = (.slice (some ⟨g5, 0, none⟩) 64 64) := hN.1
      have r66 : xa 1 = (.int .u32 0) := hN.2.1
      have r67 : xa 2 = (.int .u64 0) := hN.2.2.1
      have r68 : xa 3 = (.int .u64 0) := hN.2.2.2.1
      have r69 : xa 4 = (.slice (some ⟨g5, 0, none⟩) 64 64) := hN.2.2.2.2.1
      have r70 : xa 5 = (.slice aF (64 - 4) cF) := hN.2.2.2.2.2.1
      have r71 : xa 6 = (.int .u32 (t : Int)) := hN.2.2.2.2.2.2.1
      have r72 : xa 7 = (.int .u64 (t : Int)) := hN.2.2.2.2.2.2.2.1
      have r73 : xa 8 = (.int .u64 (t : Int)) := hN.2.2.2.2.2.2.2.2.1
      clear hN
      simp only [putAll, Act.put, List.setIfInBounds_toArray, List.set_cons_succ, List.set_cons_zero, r65, r66, r67, r68, r69, r70, r71, r72, r73]
      clear r65 r66 r67 r68 r69 r70 r71 r72 r73
      have oa := ((Only.refl (fun _ => False) w5).drew).trans oxa
      have OA := Lib.hid oa; clear oa
      by_cases hgt : g.turn < t
      · have hnx2 : nxt g i t = { g with turn := t, side := i } := if_pos hgt
        have tg : decide ((g.turn : Int) < (t : Int)) = true := by simpa using hgt
        have HNX2 := Lib.hid hnx2; clear hnx2
        go_upto_region 13 with (fail)
        refine wp_region_steps 12 (by kernel_rfl) rfl (by kernel_rfl) [some 74, some 75, some 76, some 77, some 78, some 79, some 80, some 81, some 82, some 83, some 84, some 85] rfl rfl (fun _ => False) [(fun v _ => v = (.int .u64 (t : Int))), (fun v _ => v = (.pointer (some ⟨l, 0, none⟩))), (fun v _ => v = (.pointer (some ⟨l, 0, none⟩))), (fun v _ => v = (.pointer (some ⟨l, 4, none⟩))), (fun v _ => v = (.int .u64 (g.turn : Int))), (fun v _ => v = (.bool true)), (fun v _ => v = (.bool true)), (fun v _ => v = (.int .u64 (t : Int))), (fun v w1 => Own8 w1 w5.heap.size v (hdr t)), (fun v _ => v = (.slice (some ⟨g5, 0, none⟩) 64 64)), (fun v _ => v = (.slice aT 16 cT)), (fun v _ => v = (.bool true))] rfl ⟨?_, ?_, ?_, ?_, ?_, ?_, ?_, ?_, ?_, ?_, ?_, ?_, trivial⟩ _ rfl ⟨?_, ?_, ?_, ?_, ?_, ?_, ?_, ?_, ?_, ?_, ?_, ?_, trivial⟩ ?_
        · exact Stable.is _ _
        · exact Stable.is _ _
        · exact Stable.is _ _
        · exact Stable.is _ _
        · exact Stable.is _ _
        · exact Stable.is _ _
        · exact Stable.is _ _
        · exact Stable.is _ _
        · exact fun v w1 w2 h ho => h.still ho
        · exact Stable.is _ _
        · exact Stable.is _ _
        · exact Stable.is _ _
        · intro x wx ox hN TT HTT
          clear hN
          unfold StepTo
          simp only [putAll, Act.put, List.setIfInBounds_toArray, List.set_cons_succ, List.set_cons_zero]
          go_wp2_with fail
          exact ⟨rfl, _, rfl, HTT.out _ _ (rfl) (Only.refl _ _)⟩
        · intro x wx ox hN TT HTT
          clear hN
          unfold StepTo
          simp only [putAll, Act.put, List.setIfInBounds_toArray, List.set_cons_succ, List.set_cons_zero]
          go_wp2_with fail
          exact ⟨rfl, _, rfl, HTT.out _ _ (rfl) (Only.refl _ _)⟩
        · intro x wx ox hN TT HTT
          have r75 : x 1 = (.pointer (some ⟨l, 0, none⟩)) := hN.1 rfl
          clear hN
          unfold StepTo
          simp only [putAll, Act.put, List.setIfInBounds_toArray, List.set_cons_succ, List.set_cons_zero, r75]
          clear r75
          go_wp2_with fail
          exact ⟨rfl, _, rfl, HTT.out _ _ (rfl) (Only.refl _ _)⟩
        · intro x wx ox hN TT HTT
          have r76 : x 2 = (.pointer (some ⟨l, 0, none⟩)) := hN.1 rfl
          clear hN
          unfold StepTo
          simp only [putAll, Act.put, List.setIfInBounds_toArray, List.set_cons_succ, List.set_cons_zero, r76]
          clear r76
          go_wp2_with fail
          exact ⟨rfl, _, rfl, HTT.out _ _ (rfl) (Only.refl _ _)⟩
        · intro x wx ox hN TT HTT
          have r77 : x 3 = (.pointer (some ⟨l, 4, none⟩)) := hN.1 rfl
          clear hN
          unfold StepTo
          simp only [putAll, Act.put, List.setIfInBounds_toArray, List.set_cons_succ, List.set_cons_zero, r77]
          clear r77
          obtain ⟨_, _, _, _, x4, _, _, _, _, _⟩ := (HFA.out wx (OA.out.trans (((Only.refl _ wxa).drew).trans ox))).2.2.2.cells
          go_wp2_with fail
          exact ⟨rfl, _, rfl, HTT.out _ _ (rfl) (Only.refl _ _)⟩
        · intro x wx ox hN TT HTT
          have r74 : x 0 = (.int .u64 (t : Int)) := hN.1 rfl
          have r78 : x 4 = (.int .u64 (g.turn : Int)) := hN.2.1 rfl
          clear hN
          unfold StepTo
          simp only [putAll, Act.put, List.setIfInBounds_toArray, List.set_cons_succ, List.set_cons_zero, r74, r78]
          clear r74 r78
          go_wp2_with fail
          exact ⟨rfl, _, rfl, HTT.out _ _ (rfl) (Only.refl _ _)⟩
        · intro x wx ox hN TT HTT
          have r79 : x 5 = (.bool true) := hN.1 rfl
          clear hN
          unfold StepTo
          simp only [putAll, Act.put, List.setIfInBounds_toArray, List.set_cons_succ, List.set_cons_zero, r79]
          clear r79
          go_wp2_with fail
          exact ⟨rfl, _, rfl, HTT.out _ _ (rfl) (Only.refl _ _)⟩
        · intro x wx ox hN TT HTT
          have r80 : x 6 = (.bool true) := hN.1 rfl
          clear hN
          unfold StepTo
          simp only [putAll, Act.put, List.setIfInBounds_toArray, List.set_cons_succ, List.set_cons_zero, r80]
          clear r80
          go_wp2_with fail
          exact ⟨rfl, _, rfl, HTT.out _ _ (rfl) (Only.refl _ _)⟩
        · intro x wx ox hN TT HTT
          have r81 : x 7 = (.int .u64 (t : Int)) := hN.1 rfl
          have r80 : x 6 = (.bool true) := hN.2.1 rfl
          clear hN
          unfold StepTo
          simp only [putAll, Act.put, List.setIfInBounds_toArray, List.set_cons_succ, List.set_cons_zero, r81, r80]
          clear r81 r80
          have hc := header_any t (by omega) wx
          have hsz : w5.heap.size ≤ wx.heap.size := (OA.out.trans (((Only.refl _ wxa).drew).trans ox)).size
          have HC := Lib.hid hc; have HSZ := Lib.hid hsz; clear hc hsz
          go_wp2_with fail
          refine HC.out.mono ?_
          rintro e w6 ⟨v6, rfl, h6, o6⟩
          have H6 := Lib.hid h6; have O6 := Lib.hid o6; clear h6 o6
          go_wp2_with fail
          exact ⟨rfl, _, rfl, HTT.out _ _ (H6.out.mono HSZ.out) (O6.out)⟩
        · intro x wx ox hN TT HTT
          have r80 : x 6 = (.bool true) := hN.1 rfl
          clear hN
          unfold StepTo
          simp only [putAll, Act.put, List.setIfInBounds_toArray, List.set_cons_succ, List.set_cons_zero, r80]
          clear r80
          go_wp2_with fail
          exact ⟨rfl, _, rfl, HTT.out _ _ (rfl) (Only.refl _ _)⟩
        · intro x wx ox hN TT HTT
          have r83 : x 9 = (.slice (some ⟨g5, 0, none⟩) 64 64) := hN.1 rfl
          have r80 : x 6 = (.bool true) := hN.2.1 rfl
          clear hN
          unfold StepTo
          simp only [putAll, Act.put, List.setIfInBounds_toArray, List.set_cons_succ, List.set_cons_zero, r83, r80]
          clear r83 r80
          have hs := HHT.out wx
          rw [show ((16 : Nat) : Int) = 16 from rfl] at hs
          go_wp2_with fail
          exact ⟨rfl, _, rfl, HTT.out _ _ (rfl) (Only.refl _ _)⟩
        · intro x wx ox hN TT HTT
          have r82 : (fun (v : Value) (w1 : World) => Own8 w1 w5.heap.size v (hdr t)) (x 8) wx := hN.1 rfl
          have r84 : x 10 = (.slice aT 16 cT) := hN.2.1 rfl
          have r80 : x 6 = (.bool true) := hN.2.2.2.1 rfl
          clear hN
          unfold StepTo
          simp only [putAll, Act.put, List.setIfInBounds_toArray, List.set_cons_succ, List.set_cons_zero, r84, r80]
          clear r84 r80
          obtain ⟨aH, cH, eH⟩ := r82.form
          simp only [eH]
          rw [eH] at r82
          have hbt := (HFA.out wx (OA.out.trans (((Only.refl _ wxa).drew).trans ox))).2.2.1
          rw [HTI.out] at hbt
          have hc := equalB aH aT cH cT (hdr t) (hdr t) wx r82.bytes.at.1 hbt.at.1 (by rw [hdr_len]; decide) (by rw [hdr_len]; decide)
          rw [decide_eq_true rfl, hdr_len] at hc
          have HC := Lib.hid hc; clear hc hbt r82 eH
          go_wp2_with fail
          refine HC.out.mono ?_
          rintro e w6 ⟨rfl, o6⟩
          have O6 := Lib.hid o6; clear o6
          go_wp2_with fail
          exact ⟨rfl, _, rfl, HTT.out _ _ (rfl) (O6.out)⟩
        intro xb wxb oxb hN
        have r74 : xb 0 = (.int .u64 (t : Int)) := hN.1
        have r75 : xb 1 = (.pointer (some ⟨l, 0, none⟩)) := hN.2.1
        have r76 : xb 2 = (.pointer (some ⟨l, 0, none⟩)) := hN.2.2.1
        have r77 : xb 3 = (.pointer (some ⟨l, 4, none⟩)) := hN.2.2.2.1
        have r78 : xb 4 = (.int .u64 (g.turn : Int)) := hN.2.2.2.2.1
        have r79 : xb 5 = (.bool true) := hN.2.2.2.2.2.1
        have r80 : xb 6 = (.bool true) := hN.2.2.2.2.2.2.1
        have r81 : xb 7 = (.int .u64 (t : Int)) := hN.2.2.2.2.2.2.2.1
        have r82 : (fun (v : Value) (w1 : World) => Own8 w1 w5.heap.size v (hdr t)) (xb 8) wxb := hN.2.2.2.2.2.2.2.2.1
        have r83 : xb 9 = (.slice (some ⟨g5, 0, none⟩) 64 64) := hN.2.2.2.2.2.2.2.2.2.1
        have r84 : xb 10 = (.slice aT 16 cT) := hN.2.2.2.2.2.2.2.2.2.2.1
        have r85 : xb 11 = (.bool true) := hN.2.2.2.2.2.2.2.2.2.2.2.1
        clear hN
        simp only [putAll, Act.put, List.setIfInBounds_toArray, List.set_cons_succ, List.set_cons_zero, r74, r75, r76, r77, r78, r79, r80, r81, r83, r84, r85]
        clear r74 r75 r76 r77 r78 r79 r80 r81 r83 r84 r85
        have ob := OA.out.trans (((Only.refl (fun _ => False) wxa).drew).trans oxb)
        have hbb := (HFA.out wxb ob).2.2.2
        obtain ⟨x0, x1, x2, x3, x4, x5, x6, x7, xz, xl⟩ := hbb.cells
        have hset := (hbb.setTurn t).setSide i
        have hob : Only (fun _ => False) w ((wxb.setCell ⟨l, 4, none⟩ (.int .u64 (t : Int))).setCell ⟨l, 3, none⟩ (.int .i64 (i : Int))) := ((HO5.out.trans ob).setCell (p := ⟨l, 4, none⟩) (.inr (by rw [HLL.out]; exact Nat.le_refl _)) _).setCell (p := ⟨l, 3, none⟩) (.inr (by rw [HLL.out]; exact Nat.le_refl _)) _
        have hset' : Box ((wxb.setCell ⟨l, 4, none⟩ (.int .u64 (t : Int))).setCell ⟨l, 3, none⟩ (.int .i64 (i : Int))) l d (nxt g i t) (.slice none 0 0) := by rw [HNX2.out]; exact hset
        rw [← HNX.out] at hset'
        have HST := Lib.hid hset'; have HOB := Lib.hid hob
        clear hset hset' hob hbb ob r82
        go_wp2_with fail
        go_roundw
        case rel => exact ⟨i + 1, by simp [go_sem], by omega, HST, HOB⟩
        case measure => simp [intOf]; omega
      · have hnx2 : nxt g i t = g := if_neg hgt
        have tg : decide ((g.turn : Int) < (t : Int)) = false := by simpa using hgt
        have hbb := (HFA.out wxa OA.out).2.2.2
        obtain ⟨x0, x1, x2, x3, x4, x5, x6, x7, xz, xl⟩ := hbb.cells
        have HNX2 := Lib.hid hnx2
        clear hnx2 xz
        go_upto_region 13 with (fail)
        go_quiet (fail)
        have hset' : Box (wxa.drewN nq) l d (nxt g i t) (.slice none 0 0) := by rw [HNX2.out]; exact hbb.only ((Only.refl (fun _ => False) wxa).drewN nq) (fun h => h)
        rw [← HNX.out] at hset'
        have HST := Lib.hid hset'; have HOB := Lib.hid ((HO5.out.trans OA.out).drewN nq)
        clear hset' hbb x0 x1 x2 x3 x4 x5 x6 x7
        go_wp2_with fail
        go_roundw
        case rel => exact ⟨i + 1, by simp [go_sem], by omega, HST, HOB⟩
        case measure => simp [intOf]; omega
    · have t1 : decide ((i : Int) < 2) = false := by simp; omega
      obtain rfl : i = 2 := by omega
      have hB := HB.out
      rw [if_neg (by decide), if_neg (by decide), HTF.out] at hB
      obtain ⟨f0, hf0⟩ : ∃ f0, f0 = (⟨f.at_, f.half, f.side, f.turn, 0, 0⟩ : Fl) := ⟨_, rfl⟩
      rw [← hf0] at hB
      have hpre0 : Pre V f0 := by
        rw [hf0]
        exact ⟨⟨PRE.out.ok.at_, PRE.out.ok.half, PRE.out.ok.side, PRE.out.ok.turn, Nat.zero_le _, Nat.zero_le _⟩, PRE.out.geo, PRE.out.len, PRE.out.rows, PRE.out.head⟩
      have hroom0 : f0.room = f.room := by rw [hf0]; rfl
      have hroomb : f.room ≤ 1000000 := by unfold Fl.room; omega
      have hXb := H.out.bound
      have hWw := H.out.old.size
      have hend : ∀ sv av w4 e w', Only (fun _ => False) w w4 → l < w4.heap.size → Recs w4 (fun k => w.heap.size ≤ k ∧ k < w4.heap.size ∧ k ≠ l) sv av s rs → LayPost W (fun k => X k ∨ (w.heap.size ≤ k ∧ k < w4.heap.size)) d m V l f0 (.slice none 0 0) (s :: rs) q w4 e w' → e = .returned (.int .i64 0) ∧ OpenPost W X d m V f s rs w (.returned (.tuple #[.pointer (some ⟨l, 0, none⟩), sv, av, .int .i64 0])) w' := fun sv av w4 e w' h1 h2 h3 h4 => by
        have hnl : (s :: rs).length ≤ sizes (s :: rs) := by
          have : ∀ ys : List (List UInt8), ys.length ≤ sizes ys := by
            intro ys
            induction ys with
            | nil => exact Nat.zero_le _
            | cons y ys ih => simp only [sizes, List.length_cons]; omega
          exact this _
        have := open_done hpre0 (by rw [hroom0]; exact HF.out) (by rw [hf0]; exact HTU.out) (by have := HF.out; omega) hXb hWw h1 HLL.out h2 h3 h4
        rw [hf0] at this; exact this
      have hlay : ∀ sv av w4, Only (fun _ => False) w w4 → l < w4.heap.size → Box w4 l d f0 (.slice none 0 0) → Recs w4 (fun k => w.heap.size ≤ k ∧ k < w4.heap.size ∧ k ≠ l) sv av s rs → Calls Try.prog 56 #[.pointer (some ⟨l, 0, none⟩), sv, av] w4 (LayPost W (fun k => X k ∨ (w.heap.size ≤ k ∧ k < w4.heap.size)) d m V l f0 (.slice none 0 0) (s :: rs) q w4) := fun sv av w4 h1 h2 h3 h4 =>
        lay_any W _ d m V q l f0 _ sv av s rs _ w4 (H.out.more h1 (fun _ _ h => h.elim) (fun k h => h)) h3 hpre0.ok (.inr ⟨by rw [HLL.out]; exact Nat.le_refl _, h2⟩) (by have := HLL.out; omega) hpre0.geo hpre0.len h4 (by have := HF.out; omega) HM.out (by rw [hf0]; exact HTU.out)
      obtain ⟨x0, x1, x2, x3, x4, x5, x6, x7, xz, xl⟩ := hB.cells
      have hft : f0.turn = f.turn := by rw [hf0]
      have hfs : f0.side = f.side := by rw [hf0]
      have hfh : f0.half = f.half := by rw [hf0]
      have hff : f0.first f.side = f.first f.side := by rw [hf0]; rfl
      rw [hft] at x4
      have HBB := Lib.hid hB; have HEND := Lib.hid hend; have HLAY := Lib.hid hlay; have HPRE0 := Lib.hid hpre0; have HFF := Lib.hid (And.intro hft (And.intro hfs (And.intro hfh hff)))
      obtain ⟨wq, rfl⟩ : ∃ wq, wq = wr := ⟨wr, rfl⟩
      clear hB hend hlay hpre0 hf0 hroom0 hXb hft hfs hfh hff t1 hi hi2 x0 x1 x2 x3 x5 x6 x7 xz hgeo hVl
      by_cases h0 : f.turn = 0
      · have hbl : s = [] ∧ rs = [] := by
          rcases HR.out with h | h
          · have := h.2.2.1; injection this with h1 h2; exact ⟨h1, h2⟩
          · have := h.turn; omega
        obtain ⟨rfl, rfl⟩ := hbl
        have hrn : Recs wq (fun k => w.heap.size ≤ k ∧ k < wq.heap.size ∧ k ≠ l) (.slice none 0 0) (.slice none 0 0) [] [] := Recs.nil _ _
        have hly := HLAY.out _ _ wq HO.out xl HBB.out hrn
        have HLY := Lib.hid hly; have HRN := Lib.hid hrn; clear hly hrn
        rw [h0] at x4
        have H0 := Lib.hid h0; clear h0
        go_wp2_with fail
        refine HLY.out.mono ?_
        intro e w6 hp
        obtain ⟨rfl, hfin⟩ := HEND.out _ _ _ _ _ HO.out xl HRN.out hp
        have HFIN := Lib.hid hfin; clear hfin hp
        go_wp2_with fail
        exact bodyPost_ret (v := .tuple #[.pointer (some ⟨l, 0, none⟩), .slice none 0 0, .slice none 0 0, .int .i64 0]) (by simp [results, Try.results35, go_sem]) rfl HFIN.out
      · have hg : Good V f (s :: rs) := by
          rcases HR.out with h | h
          · exact absurd h.1 h0
          · exact h
        obtain ⟨ft1, ft2, ft3, ft4⟩ := HFF.out
        have hsc := scan_any W X d m V q l f0 (.slice none 0 0) (f.room - sizes (s :: rs)) s rs wq (H.out.still HO.out) HBB.out HPRE0.out.ok HPRE0.out.geo HPRE0.out.len (by rw [ft2, ft4, ft3, ft1]; exact hg.bytes)
        have HSC := Lib.hid hsc
        have h1 : (0 : Int) < (f.turn : Int) := by omega
        have h2 : 0 < f.turn := by omega
        clear hsc hg ft1 ft2 ft3 ft4 h0
        go_wp2_with fail
        refine HSC.out.mono ?_
        rintro e w5 ⟨sv, av, rfl, hrec, o5⟩
        have ho5 := HO.out.trans o5
        have hl5 : l < w5.heap.size := Nat.lt_of_lt_of_le xl o5.size
        have hrn : Recs w5 (fun k => w.heap.size ≤ k ∧ k < w5.heap.size ∧ k ≠ l) sv av s rs := hrec.weaken (fun k hk h => ⟨by have := HO.out.size; omega, hk, by omega⟩)
        have hly := HLAY.out _ _ w5 ho5 hl5 (HBB.out.only o5 (fun h => h)) hrn
        have HLY := Lib.hid hly; have HRN := Lib.hid hrn; have HO5 := Lib.hid ho5
        clear hly hrn hrec o5 ho5 x4 h1 h2
        go_wp2_with fail
        refine HLY.out.mono ?_
        intro e w6 hp
        obtain ⟨rfl, hfin⟩ := HEND.out _ _ _ _ _ HO5.out hl5 HRN.out hp
        have HFIN := Lib.hid hfin; clear hfin hp
        go_wp2_with fail
        exact bodyPost_ret (v := .tuple #[.pointer (some ⟨l, 0, none⟩), sv, av, .int .i64 0]) (by simp [results, Try.results35, go_sem]) rfl HFIN.out
end Go.Proofs.Ytlkglhgndfhjeaa
