/- Two ledgers on one disk: what one does leaves the other's blocks as they were. -/
import Derived.Test.YtlkglhgndfhjeaaGpa
import Derived.Deep.CutRange
import Derived.Deep.CutBlock
namespace Go.Proofs.Ytlkglhgndfhjeaa
open Go Go.RowKit
set_option linter.unusedVariables false
set_option linter.unusedSimpArgs false
set_option maxRecDepth 100000

theorem apn_far {V : List (List UInt8)} {f : Fl} {fs : List (List UInt8)} (h : Good V f fs) (p : List UInt8) (hfit : sizes fs + (p.length + 8) ≤ f.room) (j : Nat) (hj : j < f.at_ ∨ f.at_ + 2 * f.half ≤ j) : (apnV V f fs p).getD j [] = V.getD j [] := by
  have hs := h.ok.side
  have hh := h.ok.half
  have hB := apnB_len f fs p
  have hroom : f.room = (f.half - 1) * 64 := rfl
  obtain ⟨J, hJ⟩ : ∃ J, sizes fs / 64 = J := ⟨_, rfl⟩
  obtain ⟨C, hC⟩ : ∃ C, apnN f fs p = C := ⟨_, rfl⟩
  have hC' : ((apnB f fs p).length + 63) / 64 = C := hC
  rw [hJ] at hB
  have hJC : J + C ≤ f.half - 1 := by omega
  unfold apnV
  rw [hJ, hC]
  refine putc_get _ _ _ _ _ ?_
  unfold Fl.first
  rcases (by omega : f.side = 0 ∨ f.side = 1) with e | e <;> rw [e] <;> omega
theorem lay_far {V : List (List UInt8)} {f : Fl} (h : Pre V f) (p : List UInt8) (j : Nat) (hj : j < f.at_ ∨ f.at_ + 2 * f.half ≤ j) : (layV V f p).getD j [] = V.getD j [] := by
  have hs := h.ok.side
  have hh := h.ok.half
  refine lay_get h p j ?_
  unfold Fl.first
  rcases (by omega : f.side = 0 ∨ f.side = 1) with e | e <;> rw [e] <;> omega
theorem lay_rows {V : List (List UInt8)} {f : Fl} (h : Pre V f) (p : List UInt8) : ∀ r ∈ layV V f p, r.length = 64 := by
  unfold layV; exact pad64_rows (putc_rows h.rows _ _ _) _ (by rw [hdr_len]; decide)
theorem apn_rows {V : List (List UInt8)} {f : Fl} {fs : List (List UInt8)} (h : Pre V f) (p : List UInt8) : ∀ r ∈ apnV V f fs p, r.length = 64 := by
  unfold apnV; exact putc_rows h.rows _ _ _
theorem Good.far {V V' : List (List UInt8)} {f : Fl} {fs : List (List UInt8)} (h : Good V f fs) (hl : V'.length = V.length) (hr : ∀ r ∈ V', r.length = 64) (he : ∀ j, f.at_ ≤ j → j < f.at_ + 2 * f.half → V'.getD j [] = V.getD j []) : Good V' f fs := by
  have hs := h.ok.side
  have hh := h.ok.half
  have hg := h.geo
  have e1 : ∀ s, s ≤ 1 → f.at_ ≤ f.first s - 1 ∧ f.first s - 1 < f.at_ + 2 * f.half ∧ f.at_ ≤ f.first s ∧ f.first s + (f.half - 1) ≤ f.at_ + 2 * f.half := fun s hs => by
    unfold Fl.first
    rcases (by omega : s = 0 ∨ s = 1) with e | e <;> rw [e] <;> omega
  have a1 := e1 f.side hs
  have a2 := e1 (1 - f.side) (by omega)
  refine ⟨⟨h.ok, by rw [hl]; exact h.geo, by rw [hl]; exact h.len, hr, by rw [he _ a1.1 a1.2.1]; exact h.head⟩, h.turn, h.en, h.n, h.some_, h.fits, ?_, ?_⟩
  · rw [body_same hl (f.half - 1) (f.first f.side) (by rw [hl]; omega) (fun j h1 h2 => he j (by omega) (by omega))]; exact h.bytes
  · obtain ⟨t, h1, h2⟩ := h.other
    exact ⟨t, h1, by rw [he _ a2.1 a2.2.1]; exact h2⟩
/-- P does not hang on the blocks from a to a + 2 * h. -/
def Far (a h : Nat) (P : List (List UInt8) → Prop) : Prop := ∀ V V' : List (List UInt8), V'.length = V.length → (∀ r ∈ V', r.length = 64) → (∀ j, (j < a ∨ a + 2 * h ≤ j) → V'.getD j [] = V.getD j []) → P V → P V'
def Holds2 (a h m : Nat) (fs : List (List UInt8)) (V : List (List UInt8)) : Prop := ∃ f, Good V f fs ∧ f.at_ = a ∧ f.half = h ∧ f.turn ≤ m
theorem far_holds {a h a' h' m : Nat} {fs : List (List UInt8)} (hd : a + 2 * h ≤ a' ∨ a' + 2 * h' ≤ a) : Far a h (Holds2 a' h' m fs) := by
  rintro V V' hl hr he ⟨f, hg, rfl, rfl, ht⟩
  exact ⟨f, hg.far hl hr (fun j h1 h2 => he j (by omega)), rfl, rfl, ht⟩
theorem far_good {a h : Nat} {f : Fl} {fs : List (List UInt8)} (hd : a + 2 * h ≤ f.at_ ∨ f.at_ + 2 * f.half ≤ a) : Far a h (fun V => Good V f fs) := by
  intro V V' hl hr he hg
  exact hg.far hl hr (fun j h1 h2 => he j (by omega))
def LP (P : List (List UInt8) → Prop) (W : World) (U : Nat → Prop) (w : World) (d l m a h N : Nat) (fs : List (List UInt8)) : Prop := ∃ V f X b c, LU0 W U X w d l m a h N fs V f b c ∧ P V
theorem LP.lu {P : List (List UInt8) → Prop} {W w : World} {U : Nat → Prop} {d l m a h N : Nat} {fs : List (List UInt8)} (hs : LP P W U w d l m a h N fs) : LU W U w d l m a h N fs := by
  obtain ⟨V, f, X, b, c, h0, _⟩ := hs; exact ⟨V, f, X, b, c, h0⟩
theorem LP.more {P : List (List UInt8) → Prop} {W w : World} {U : Nat → Prop} {d l m n a h N : Nat} {fs : List (List UInt8)} (hs : LP P W U w d l m a h N fs) (hm : m ≤ n) (hn : n ≤ 1000000000) : LP P W U w d l n a h N fs := by
  obtain ⟨V, f, X, b, c, h0, hP⟩ := hs
  exact ⟨V, f, X, b, c, ⟨h0.dx.step hm hn (fun h => h), h0.good, h0.box, h0.tail, h0.own, h0.xl, h0.hl, h0.ha, h0.hh, h0.hN, Nat.le_trans h0.ht hm, h0.hU⟩, hP⟩
theorem LP.still {P : List (List UInt8) → Prop} {W w w' : World} {U : Nat → Prop} {d l m a h N : Nat} {fs : List (List UInt8)} (hs : LP P W U w d l m a h N fs) (ho : Only (fun _ => False) w w') : LP P W U w' d l m a h N fs := by
  obtain ⟨V, f, X, b, c, h0, hP⟩ := hs
  exact ⟨V, f, X, b, c, ⟨h0.dx.still ho, h0.good, h0.box.only ho (fun h => h), h0.tail.still ho, h0.own, h0.xl, h0.hl, h0.ha, h0.hh, h0.hN, h0.ht, h0.hU⟩, hP⟩
theorem lp_append (P : List (List UInt8) → Prop) (W : World) (U : Nat → Prop) (d l m a h N : Nat) (fs : List (List UInt8)) (pv : Value) (p : List UInt8) (w : World) (hP : Far a h P) (hs : LP P W U w d l m a h N fs) (hp : Bytes w pv p) (hp5 : p.length ≤ 100000) (hm : m + 20000 ≤ 1000000000) :
    Calls Try.prog 36 #[.pointer (some ⟨l, 0, none⟩), pv] w fun e w' => e = .returned (.int .i64 (acode ((h - 1) * 64) fs p)) ∧ LP P W U w' d l (m + 100) a h N (afs ((h - 1) * 64) fs p) ∧ Only (fun k => W.heap.size ≤ k ∧ ¬ U k) w w' := by
  have hs' := hs
  obtain ⟨V, f, X, b, c, h0, hPV⟩ := hs
  have hfit := h0.good.fits
  have hhalf := h0.good.ok.half
  have hr : f.room = (h - 1) * 64 := by unfold Fl.room; rw [h0.hh]
  have hlen := sizes_le_len fs
  have hrb : f.room ≤ 640000 := by unfold Fl.room; omega
  have htu := h0.ht
  refine (append_any W X d m V true l f fs b c pv p w h0.dx h0.box h0.tail h0.good h0.xl h0.hl hp hp5 hm (by omega)).mono ?_
  intro e w' hpost
  rw [← hr]
  rcases hpost with ⟨g1, rfl, rfl⟩ | ⟨g1, g2, rfl, ho⟩ | ⟨g1, g2, rfl, b', c', k⟩
  · have ea : acode f.room fs p = 2 := if_pos g1
    refine ⟨by rw [ea], ?_, Only.refl _ _⟩
    unfold afs; rw [ea, if_neg (by decide)]; exact hs'.more (by omega) (by omega)
  · have ea : acode f.room fs p = 13 := by unfold acode; rw [if_neg (by omega), if_pos g2]
    refine ⟨by rw [ea], ?_, ho.mono (fun _ _ h => h.elim)⟩
    unfold afs; rw [ea, if_neg (by decide)]; exact (hs'.still ho).more (by omega) (by omega)
  · have ea : acode f.room fs p = 0 := by unfold acode; rw [if_neg (by omega), if_neg (by omega)]
    obtain ⟨m1, m2, m3, m4, m5⟩ := k
    have hll : l < w.heap.size := (Array.getElem?_eq_some_iff.1 h0.box).1
    refine ⟨by rw [ea], ?_, m5.mono (fun k _ hk => ⟨hk.1, fun hu => hk.2.elim (fun h => h (h0.hU k hu).1) (h0.hU k hu).2⟩)⟩
    unfold afs; rw [ea, if_pos rfl]
    exact ⟨apnV V f fs p, f.apn p, (fun k => X k ∨ (Value.slice b' (tailOf (f.apn p) (fs ++ [p])).length c').ownBlock = some k), b', c', ⟨m4, h0.good.append p g2 (by omega), m1, m2, fun k hk => ⟨.inr hk, by have := (m3 k hk).1; omega, fun hu => by have := h0.dx.bound k (h0.hU k hu).1; have := (m3 k hk).1; omega⟩, .inl h0.xl, h0.hl, h0.ha, h0.hh, by unfold apnV; rw [putc_len]; exact h0.hN, by show f.turn ≤ _; omega, fun k hk => ⟨.inl (h0.hU k hk).1, (h0.hU k hk).2⟩⟩,
      hP V _ (by unfold apnV; rw [putc_len]) (apn_rows h0.good.toPre p) (fun j hj => apn_far h0.good p g2 j (by rw [h0.ha, h0.hh]; exact hj)) hPV⟩
theorem lp_snap (P : List (List UInt8) → Prop) (W : World) (U : Nat → Prop) (d l m a h N : Nat) (fs : List (List UInt8)) (pv : Value) (p : List UInt8) (w : World) (hP : Far a h P) (hs : LP P W U w d l m a h N fs) (hp : Bytes w pv p) (hp5 : p.length ≤ 100000) (hm : m + 20000 ≤ 1000000000) :
    Calls Try.prog 37 #[.pointer (some ⟨l, 0, none⟩), pv] w fun e w' => e = .returned (.int .i64 (if (h - 1) * 64 < p.length + 8 then 13 else 0)) ∧ LP P W U w' d l (m + h + 2) a h N (if (h - 1) * 64 < p.length + 8 then fs else [p]) ∧ Only (fun k => W.heap.size ≤ k ∧ ¬ U k) w w' := by
  have hs' := hs
  obtain ⟨V, f, X, b, c, h0, hPV⟩ := hs
  have hhalf := h0.good.ok.half
  have hr : f.room = (h - 1) * 64 := by unfold Fl.room; rw [h0.hh]
  have hp' := hp
  have htu := h0.ht
  have h2 := h0.hh
  obtain ⟨aP, cP, rfl, _, _, _⟩ := hp
  have hrec : Recs w (fun _ => True) (.slice aP p.length cP) (.slice none 0 0) p [] := ⟨⟨aP, cP, rfl, hp', fun _ _ _ => trivial⟩, none, 0, rfl, Nat.le_refl _, Nat.zero_le _, ListAt.nil⟩
  have hsz : sizes [p] = p.length + 8 := by simp [sizes]
  have hly := lay_any W X d m V true l f _ _ _ p [] _ w h0.dx h0.box h0.good.ok h0.xl h0.hl h0.good.geo h0.good.len hrec (by rw [hsz]; omega) hm (by omega)
  have HLY := Lib.hid hly
  have hfin : ∀ e w', LayPost W X d m V l f (.slice b (tailOf f fs).length c) [p] true w e w' → e = .returned (.int .i64 (if (h - 1) * 64 < p.length + 8 then 13 else 0)) ∧ LP P W U w' d l (m + h + 2) a h N (if (h - 1) * 64 < p.length + 8 then fs else [p]) ∧ Only (fun k => W.heap.size ≤ k ∧ ¬ U k) w w' := by
    intro e w' hpost
    rw [← hr]
    rcases hpost with ⟨g1, rfl, ho⟩ | ⟨g1, rfl, b', c', k⟩
    · rw [hsz] at g1
      rw [if_pos g1, if_pos g1]
      exact ⟨rfl, (hs'.still ho).more (by omega) (by omega), ho.mono (fun _ _ h => h.elim)⟩
    · have hlen : (laid (f.turn + 1) 1 [p]).length = sizes [p] := laid_len _ _ _
      have ht' : tailOf (f.laid (sizes [p]) [p].length) [p] = (laid (f.turn + 1) 1 [p]).drop ((laid (f.turn + 1) 1 [p]).length / 64 * 64) := by rw [hlen]; rfl
      simp only at k
      rw [← ht'] at k
      obtain ⟨m1, m2, m3, m4, m5⟩ := k
      have g1' := g1
      rw [hsz] at g1'
      rw [if_neg (by omega), if_neg (by omega)]
      have hll : l < w.heap.size := (Array.getElem?_eq_some_iff.1 h0.box).1
      refine ⟨rfl, ⟨layV V f (laid (f.turn + 1) 1 [p]), f.laid (sizes [p]) [p].length, (fun k => X k ∨ (Value.slice b' (tailOf (f.laid (sizes [p]) [p].length) [p]).length c').ownBlock = some k), b', c', ⟨by rw [← h2]; exact m4, h0.good.toPre.lay [p] (by simp) g1 (by omega) (by simp), m1, m2, fun k hk => ⟨.inr hk, by have := (m3 k hk).1; omega, fun hu => by have := h0.dx.bound k (h0.hU k hu).1; have := (m3 k hk).1; omega⟩, .inl h0.xl, h0.hl, h0.ha, h2, by rw [layV_len]; exact h0.hN, by show f.turn + 1 ≤ _; omega, fun k hk => ⟨.inl (h0.hU k hk).1, (h0.hU k hk).2⟩⟩,
        hP V _ (layV_len _ _ _) (lay_rows h0.good.toPre _) (fun j hj => lay_far h0.good.toPre _ j (by rw [h0.ha, h0.hh]; exact hj)) hPV⟩, m5.mono (fun k _ hk => ⟨hk.1, fun hu => hk.2.elim (fun h => h (h0.hU k hu).1) (h0.hU k hu).2⟩)⟩
  obtain ⟨E, hE⟩ : ∃ E, (if (h - 1) * 64 < p.length + 8 then (13 : Int) else 0) = E := ⟨_, rfl⟩
  obtain ⟨FS, hFS⟩ : ∃ FS, (if (h - 1) * 64 < p.length + 8 then fs else [p]) = FS := ⟨_, rfl⟩
  rw [hE, hFS] at hfin ⊢
  have HFIN := Lib.hid hfin
  clear hfin hly hrec h0 hs' hp' hE hFS hP hPV
  go_enter Try.func37, Try.ntmps37
  go_wp2_with fail
  refine HLY.out.mono ?_
  intro e w1 hpost
  obtain ⟨rfl, hx⟩ := HFIN.out e w1 hpost
  have HX := Lib.hid hx; clear hx hpost
  go_wp2_with fail
  go_ret
  exact ⟨rfl, HX.out⟩
/-- One string in a new block. -/
theorem strs_new (w : World) (p : List UInt8) : StrsAt (w.alloc (.cells #[.string ⟨p.toArray⟩] 9)) (fun _ => True) (some ⟨w.heap.size, 0, none⟩) [p] := fun _ =>
  ⟨w.heap.size, 0, rfl, trivial, by simp, fun i v hv => by
    match i, hv with
    | 0, hv =>
      simp at hv
      subst hv
      have := heap_new w (.cells #[.string ⟨p.toArray⟩] 9)
      unfold World.cell?
      simp only
      rw [this]
      rfl
    | i + 1, hv => simp at hv⟩
/-- A ledger in memory, apart from the disk. -/
def InMem (w : World) (d l : Nat) (f : Fl) (fs : List (List UInt8)) (U : Nat → Prop) : Prop :=
  ∃ b c, Box w l d f (.slice b (tailOf f fs).length c) ∧ Bytes w (.slice b (tailOf f fs).length c) (tailOf f fs) ∧ U l ∧ ∀ k, (Value.slice b (tailOf f fs).length c).ownBlock = some k → U k ∧ k ≠ l
theorem InMem.only {w w' : World} {d l : Nat} {f : Fl} {fs : List (List UInt8)} {U S : Nat → Prop} (h : InMem w d l f fs U) (ho : Only S w w') (hS : ∀ k, U k → ¬ S k) : InMem w' d l f fs U := by
  obtain ⟨b, c, h1, h2, h3, h4⟩ := h
  exact ⟨b, c, h1.only ho (hS l h3), h2.only ho (fun hp k hk hs => hS k (h4 k hk).1 hs), h3, h4⟩
/-- The other one. -/
theorem LP.swap {W w : World} {U : Nat → Prop} {d l l' m a h a' h' N : Nat} {fs fs' : List (List UInt8)} {f' : Fl} (hs : LP (fun V => Good V f' fs') W U w d l m a h N fs) (hi : InMem w d l' f' fs' U) (hl : W.heap.size ≤ l') (e1 : f'.at_ = a') (e2 : f'.half = h') (e3 : f'.turn ≤ m) :
    LP (Holds2 a h m fs) W (fun _ => False) w d l' m a' h' N fs' := by
  obtain ⟨V, f, X, b, c, h0, hP⟩ := hs
  obtain ⟨b', c', h1, h2, h3, h4⟩ := hi
  exact ⟨V, f', X, b', c', ⟨h0.dx, hP, h1, h2, fun k hk => ⟨(h0.hU k (h4 k hk).1).1, (h4 k hk).2, fun h => h⟩, (h0.hU l' h3).1, hl, e1, e2, h0.hN, e3, fun _ h => h.elim⟩, f, h0.good, h0.ha, h0.hh, h0.ht⟩
/-- The two, opened on a blank disk. -/
theorem two_open (W : World) (d : Nat) (w : World) (hd : DX W (fun _ => False) w d (blank 24) 0 true) :
    Calls Try.prog 35 #[.pointer (some ⟨d, 0, none⟩), .int .i64 0, .int .i64 12] w fun e w1 => ∃ la sv av, e = .returned (.tuple #[.pointer (some ⟨la, 0, none⟩), sv, av, .int .i64 0]) ∧
      Calls Try.prog 35 #[.pointer (some ⟨d, 0, none⟩), .int .i64 12, .int .i64 12] w1 fun e w2 => ∃ lb sv av U fb, e = .returned (.tuple #[.pointer (some ⟨lb, 0, none⟩), sv, av, .int .i64 0]) ∧
        LP (fun V => Good V fb [[]]) W U w2 d la 16 0 6 24 [[]] ∧ InMem w2 d lb fb [[]] U ∧ W.heap.size ≤ lb ∧ fb.at_ = 12 ∧ fb.half = 6 ∧ fb.turn ≤ 16 := by
  refine (open_any W (fun _ => False) d 0 (blank 24) true ⟨0, 6, 0, 0, 0, 0⟩ [] [] w hd (blank_ready (by decide) (by decide) (by decide) (by decide)) (by decide) (by decide) (by decide)).mono ?_
  rintro e w1 ⟨la, sv, av, X1, he, hla, _, hX1, hX1', hla1, ho1, htl1⟩
  refine ⟨la, sv, av, he, ?_⟩
  obtain ⟨V1, hV1⟩ : ∃ V1, layV (blank 24) ⟨0, 6, 0, 0, 0, 0⟩ (laid (0 + 1) 1 ([[]] : List (List UInt8))) = V1 := ⟨_, rfl⟩
  obtain ⟨fa, hfa⟩ : ∃ fa, (⟨0, 6, 0, 0, 0, 0⟩ : Fl).laid (sizes ([[]] : List (List UInt8))) ([[]] : List (List UInt8)).length = fa := ⟨_, rfl⟩
  have hla : LedAt W X1 w1 d la 8 V1 fa [[]] := by rw [← hV1, ← hfa]; exact hla
  have htl1 : ∀ b c, Box w1 la d fa (.slice b (tailOf fa [[]]).length c) → ∀ k, (Value.slice b (tailOf fa [[]]).length c).ownBlock = some k → w.heap.size ≤ k := by rw [← hfa]; exact htl1
  have ea1 : fa.at_ = 0 := by rw [← hfa]; rfl
  have ea2 : fa.half = 6 := by rw [← hfa]; rfl
  have ea3 : fa.turn ≤ 8 := by rw [← hfa]; decide
  have hb0 := blank_ready (a := 0) (h := 6) (N := 24) (by decide) (by decide) (by decide) (by decide)
  have hpre0 : Pre (blank 24) ⟨0, 6, 0, 0, 0, 0⟩ := by
    rcases hb0 with h | h
    · exact h.2.2.2.1
    · exact h.toPre
  have hlV : V1.length = 24 := by rw [← hV1, layV_len]; rfl
  have hz : ∀ j, 12 ≤ j → j < 24 → V1.getD j [] = zeros64 := fun j h1 h2 => by
    rw [← hV1, lay_far hpre0 _ j (.inr h1)]
    unfold blank
    rw [List.getD_eq_getElem?_getD, List.getElem?_replicate, if_pos h2]; rfl
  have hready : Ready V1 ⟨12, 6, 0, 0, 0, 0⟩ [[]] := by
    refine .inl ⟨rfl, rfl, rfl, ⟨⟨by decide, by decide, Nat.zero_le _, Nat.zero_le _, Nat.zero_le _, Nat.zero_le _⟩, by rw [hlV]; decide, by rw [hlV]; decide, hla.good.rows, ?_⟩, ?_⟩
    · rw [hz _ (by decide) (by decide)]; decide
    · rw [hz _ (by decide) (by decide)]; decide
  have hpre1 : Pre V1 ⟨12, 6, 0, 0, 0, 0⟩ := by
    rcases hready with h | h
    · exact h.2.2.2.1
    · exact h.toPre
  refine (open_any W X1 d 8 V1 true ⟨12, 6, 0, 0, 0, 0⟩ [] [] w1 hla.dx hready (by decide) (by decide) (by decide)).mono ?_
  rintro e w2 ⟨lb, sv2, av2, X2, he2, hlb, _, hX2, hX2', hlb1, ho2, htl2⟩
  obtain ⟨V2, hV2⟩ : ∃ V2, layV V1 ⟨12, 6, 0, 0, 0, 0⟩ (laid (0 + 1) 1 ([[]] : List (List UInt8))) = V2 := ⟨_, rfl⟩
  obtain ⟨fb, hfb⟩ : ∃ fb, (⟨12, 6, 0, 0, 0, 0⟩ : Fl).laid (sizes ([[]] : List (List UInt8))) ([[]] : List (List UInt8)).length = fb := ⟨_, rfl⟩
  have hlb : LedAt W X2 w2 d lb 16 V2 fb [[]] := by rw [← hV2, ← hfb]; exact hlb
  have htl2 : ∀ b c, Box w2 lb d fb (.slice b (tailOf fb [[]]).length c) → ∀ k, (Value.slice b (tailOf fb [[]]).length c).ownBlock = some k → w1.heap.size ≤ k := by rw [← hfb]; exact htl2
  have eb1 : fb.at_ = 12 := by rw [← hfb]; rfl
  have eb2 : fb.half = 6 := by rw [← hfb]; rfl
  have eb3 : fb.turn ≤ 16 := by rw [← hfb]; decide
  have hV2l : V2.length = V1.length := by rw [← hV2, layV_len]
  have hga : Good V2 fa [[]] := hla.good.far hV2l (by rw [← hV2]; exact lay_rows hpre1 _) (fun j h1 h2 => by rw [← hV2]; exact lay_far hpre1 _ j (.inl (by show j < 12; omega)))
  obtain ⟨ba, ca, k1, k2, k3⟩ := hla.box
  obtain ⟨bb, cb, q1, q2, q3⟩ := hlb.box
  have hlaw : la < w1.heap.size := (Array.getElem?_eq_some_iff.1 k1).1
  refine ⟨lb, sv2, av2, fun k => k = lb ∨ (Value.slice bb (tailOf fb [[]]).length cb).ownBlock = some k, fb, he2, ⟨V2, fa, X2, ba, ca, ⟨hlb.dx, hga, k1.only ho2 (fun h => h.2 hla.xl), k2.only ho2 (fun hp k hk hs => hs.2 (k3 k hk).1), fun k hk => ⟨hX2 k (k3 k hk).1, (k3 k hk).2, fun hu => ?_⟩, hX2 _ hla.xl, hla.hl, ea1, ea2, by rw [hV2l]; exact hlV, by omega, fun k hk => ?_⟩, hlb.good⟩, ⟨bb, cb, q1, q2, .inl rfl, fun k hk => ⟨.inr hk, (q3 k hk).2⟩⟩, hlb.hl, eb1, eb2, eb3⟩
  · have hb := hla.dx.bound k (k3 k hk).1
    rcases hu with hu | hu
    · omega
    · have := htl2 bb cb q1 k hu; omega
  · rcases hk with hk | hk
    · subst hk; exact ⟨hlb.xl, by omega⟩
    · have := htl2 bb cb q1 k hk
      exact ⟨(q3 k hk).1, by omega⟩
/-- The first one, opened anew behind what the second did. -/
theorem lp_open (W : World) (U : Nat → Prop) (d l m a h a' h' m' N : Nat) (s : List UInt8) (rs fs : List (List UInt8)) (w : World) (hs : LP (Holds2 a h m' (s :: rs)) W U w d l m a' h' N fs) (hm : m + 20000 ≤ 1000000000) (hm' : m' + 1 ≤ 1000000000) :
    Calls Try.prog 35 #[.pointer (some ⟨d, 0, none⟩), .int .i64 (a : Int), .int .i64 ((2 * h : Nat) : Int)] w fun e w' => ∃ l' sv av, e = .returned (.tuple #[.pointer (some ⟨l', 0, none⟩), sv, av, .int .i64 0]) ∧ Recs w' (fun _ => True) sv av s rs ∧ Only (fun k => W.heap.size ≤ k) w w' := by
  obtain ⟨V, f, X, b, c, h0, f', hg, rfl, rfl, ht⟩ := hs
  refine (open_any W X d m V true f' s rs w h0.dx (.inr hg) hg.fits hm (by omega)).mono ?_
  rintro e w' ⟨l', sv, av, X', he, hla, hrec, hX1, hX2, hl', ho, htl⟩
  exact ⟨l', sv, av, he, hrec.weaken (fun _ _ _ => trivial), ho.mono (fun k _ hk => hk.1)⟩
end Go.Proofs.Ytlkglhgndfhjeaa
