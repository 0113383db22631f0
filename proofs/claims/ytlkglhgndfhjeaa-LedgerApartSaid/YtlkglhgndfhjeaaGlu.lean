/- The ledger by what it holds, beside blocks U of the caller's own, which it leaves alone. -/
import Derived.Test.YtlkglhgndfhjeaaGaw
namespace Go.Proofs.Ytlkglhgndfhjeaa
open Go Go.RowKit
set_option linter.unusedVariables false
set_option linter.unusedSimpArgs false
set_option maxRecDepth 100000

structure LU0 (W : World) (U X : Nat → Prop) (w : World) (d l m a h N : Nat) (fs : List (List UInt8)) (V : List (List UInt8)) (f : Fl) (b : Option Addr) (c : Nat) : Prop where
  dx : DX W X w d V m true
  good : Good V f fs
  box : Box w l d f (.slice b (tailOf f fs).length c)
  tail : Bytes w (.slice b (tailOf f fs).length c) (tailOf f fs)
  own : ∀ k, (Value.slice b (tailOf f fs).length c).ownBlock = some k → X k ∧ k ≠ l ∧ ¬ U k
  xl : X l
  hl : W.heap.size ≤ l
  ha : f.at_ = a
  hh : f.half = h
  hN : V.length = N
  ht : f.turn ≤ m
  hU : ∀ k, U k → X k ∧ k ≠ l
def LU (W : World) (U : Nat → Prop) (w : World) (d l m a h N : Nat) (fs : List (List UInt8)) : Prop := ∃ V f X b c, LU0 W U X w d l m a h N fs V f b c
section
variable {W w w' : World} {U U' : Nat → Prop} {d l m n a h N : Nat} {fs : List (List UInt8)}
theorem LU.only {S : Nat → Prop} (hs : LU W U w d l m a h N fs) (ho : Only S w w') (hS : ∀ k, k < w.heap.size → S k → W.heap.size ≤ k ∧ U k) : LU W U w' d l m a h N fs := by
  obtain ⟨V, f, X, b, c, h0⟩ := hs
  refine ⟨V, f, X, b, c, ⟨h0.dx.only ho (fun k hk hs => ⟨(hS k hk hs).1, (h0.hU k (hS k hk hs).2).1⟩), h0.good, h0.box.only ho (fun hs => (h0.hU l (hS l (Array.getElem?_eq_some_iff.1 h0.box).1 hs).2).2 rfl), h0.tail.only ho (fun hp k hk hs => (h0.own k hk).2.2 (hS k (h0.tail.blk hp hk) hs).2), h0.own, h0.xl, h0.hl, h0.ha, h0.hh, h0.hN, h0.ht, h0.hU⟩⟩
theorem LU.still (hs : LU W U w d l m a h N fs) (ho : Only (fun _ => False) w w') : LU W U w' d l m a h N fs := hs.only ho (fun _ _ h => h.elim)
theorem LU.old (hs : LU W U w d l m a h N fs) : Only (fun _ => False) W w := by obtain ⟨V, f, X, b, c, h0⟩ := hs; exact h0.dx.old
theorem LU.bound (hs : LU W U w d l m a h N fs) : ∀ k, U k → k < w.heap.size := by obtain ⟨V, f, X, b, c, h0⟩ := hs; exact fun k hk => h0.dx.bound k (h0.hU k hk).1
theorem LU.more (hs : LU W U w d l m a h N fs) (hm : m ≤ n) (hn : n ≤ 1000000000) : LU W U w d l n a h N fs := by
  obtain ⟨V, f, X, b, c, h0⟩ := hs
  exact ⟨V, f, X, b, c, ⟨h0.dx.step hm hn (fun h => h), h0.good, h0.box, h0.tail, h0.own, h0.xl, h0.hl, h0.ha, h0.hh, h0.hN, Nat.le_trans h0.ht hm, h0.hU⟩⟩
theorem LU.less (hs : LU W U w d l m a h N fs) (hU : ∀ k, U' k → U k) : LU W U' w d l m a h N fs := by
  obtain ⟨V, f, X, b, c, h0⟩ := hs
  exact ⟨V, f, X, b, c, ⟨h0.dx, h0.good, h0.box, h0.tail, fun k hk => ⟨(h0.own k hk).1, (h0.own k hk).2.1, fun hu => (h0.own k hk).2.2 (hU k hu)⟩, h0.xl, h0.hl, h0.ha, h0.hh, h0.hN, h0.ht, fun k hk => h0.hU k (hU k hk)⟩⟩
/-- What is new may be the caller's. -/
theorem LU.grow (hs : LU W U w d l m a h N fs) (ho : Only (fun _ => False) w w') : LU W (fun k => U k ∨ (w.heap.size ≤ k ∧ k < w'.heap.size)) w' d l m a h N fs := by
  obtain ⟨V, f, X, b, c, h0⟩ := hs
  have hl := (Array.getElem?_eq_some_iff.1 h0.box).1
  refine ⟨V, f, fun k => X k ∨ (w.heap.size ≤ k ∧ k < w'.heap.size), b, c, ⟨h0.dx.more ho (fun _ _ h => h.elim) (fun k h => h), h0.good, h0.box.only ho (fun h => h), h0.tail.still ho, fun k hk => ⟨.inl (h0.own k hk).1, (h0.own k hk).2.1, fun hu => ?_⟩, .inl h0.xl, h0.hl, h0.ha, h0.hh, h0.hN, h0.ht, fun k hk => ?_⟩⟩
  · rcases hu with hu | hu
    · exact (h0.own k hk).2.2 hu
    · have := h0.dx.bound k (h0.own k hk).1; omega
  · rcases hk with hk | hk
    · exact ⟨.inl (h0.hU k hk).1, (h0.hU k hk).2⟩
    · exact ⟨.inr hk, by omega⟩
theorem LU.fits (hs : LU W U w d l m a h N fs) : sizes fs ≤ (h - 1) * 64 ∧ fs ≠ [] ∧ 2 ≤ h ∧ h ≤ 10000 := by
  obtain ⟨V, f, X, b, c, h0⟩ := hs
  have h1 := h0.good.fits
  unfold Fl.room at h1
  rw [h0.hh] at h1
  have h2 := h0.good.ok.half
  rw [h0.hh] at h2
  exact ⟨h1, h0.good.some_, h2⟩
end
theorem lu_append (W : World) (U : Nat → Prop) (d l m a h N : Nat) (fs : List (List UInt8)) (pv : Value) (p : List UInt8) (w : World) (hs : LU W U w d l m a h N fs) (hp : Bytes w pv p) (hp5 : p.length ≤ 100000) (hm : m + 20000 ≤ 1000000000) :
    Calls Try.prog 36 #[.pointer (some ⟨l, 0, none⟩), pv] w fun e w' => e = .returned (.int .i64 (acode ((h - 1) * 64) fs p)) ∧ LU W U w' d l (m + 100) a h N (afs ((h - 1) * 64) fs p) ∧ Only (fun k => W.heap.size ≤ k ∧ ¬ U k) w w' := by
  have hs' := hs
  obtain ⟨V, f, X, b, c, h0⟩ := hs
  have hfit := h0.good.fits
  have hhalf := h0.good.ok.half
  have hr : f.room = (h - 1) * 64 := by unfold Fl.room; rw [h0.hh]
  have hlen := sizes_le_len fs
  have hrb : f.room ≤ 640000 := by unfold Fl.room; omega
  have htu := h0.ht
  refine (append_any W X d m V true l f fs b c pv p w h0.dx h0.box h0.tail h0.good h0.xl h0.hl hp hp5 hm (by omega)).mono ?_
  intro e w' hpost
  rw [← hr]
  rcases hpost with ⟨g1, rfl, rfl⟩ | ⟨g1, g2, rfl, ho⟩ | ⟨g1, g2, rfl, b', c', k⟩
  · have ea : acode f.room fs p = 2 := if_pos g1
    refine ⟨by rw [ea], ?_, Only.refl _ _⟩
    unfold afs; rw [ea, if_neg (by decide)]; exact hs'.more (by omega) (by omega)
  · have ea : acode f.room fs p = 13 := by unfold acode; rw [if_neg (by omega), if_pos g2]
    refine ⟨by rw [ea], ?_, ho.mono (fun _ _ h => h.elim)⟩
    unfold afs; rw [ea, if_neg (by decide)]; exact (hs'.still ho).more (by omega) (by omega)
  · have ea : acode f.room fs p = 0 := by unfold acode; rw [if_neg (by omega), if_neg (by omega)]
    obtain ⟨m1, m2, m3, m4, m5⟩ := k
    have hll : l < w.heap.size := (Array.getElem?_eq_some_iff.1 h0.box).1
    refine ⟨by rw [ea], ?_, m5.mono (fun k _ hk => ⟨hk.1, fun hu => hk.2.elim (fun h => h (h0.hU k hu).1) (h0.hU k hu).2⟩)⟩
    unfold afs; rw [ea, if_pos rfl]
    exact ⟨apnV V f fs p, f.apn p, (fun k => X k ∨ (Value.slice b' (tailOf (f.apn p) (fs ++ [p])).length c').ownBlock = some k), b', c', ⟨m4, h0.good.append p g2 (by omega), m1, m2, fun k hk => ⟨.inr hk, by have := (m3 k hk).1; omega, fun hu => by have := h0.dx.bound k (h0.hU k hu).1; have := (m3 k hk).1; omega⟩, .inl h0.xl, h0.hl, h0.ha, h0.hh, by unfold apnV; rw [putc_len]; exact h0.hN, by show f.turn ≤ _; omega, fun k hk => ⟨.inl (h0.hU k hk).1, (h0.hU k hk).2⟩⟩⟩
theorem lu_snap (W : World) (U : Nat → Prop) (d l m a h N : Nat) (fs : List (List UInt8)) (pv : Value) (p : List UInt8) (w : World) (hs : LU W U w d l m a h N fs) (hp : Bytes w pv p) (hp5 : p.length ≤ 100000) (hm : m + 20000 ≤ 1000000000) :
    Calls Try.prog 37 #[.pointer (some ⟨l, 0, none⟩), pv] w fun e w' => e = .returned (.int .i64 (if (h - 1) * 64 < p.length + 8 then 13 else 0)) ∧ LU W U w' d l (m + h + 2) a h N (if (h - 1) * 64 < p.length + 8 then fs else [p]) ∧ Only (fun k => W.heap.size ≤ k ∧ ¬ U k) w w' := by
  have hs' := hs
  obtain ⟨V, f, X, b, c, h0⟩ := hs
  have hhalf := h0.good.ok.half
  have hr : f.room = (h - 1) * 64 := by unfold Fl.room; rw [h0.hh]
  have hp' := hp
  have htu := h0.ht
  have h2 := h0.hh
  obtain ⟨aP, cP, rfl, _, _, _⟩ := hp
  have hrec : Recs w (fun _ => True) (.slice aP p.length cP) (.slice none 0 0) p [] := ⟨⟨aP, cP, rfl, hp', fun _ _ _ => trivial⟩, none, 0, rfl, Nat.le_refl _, Nat.zero_le _, ListAt.nil⟩
  have hsz : sizes [p] = p.length + 8 := by simp [sizes]
  have hly := lay_any W X d m V true l f _ _ _ p [] _ w h0.dx h0.box h0.good.ok h0.xl h0.hl h0.good.geo h0.good.len hrec (by rw [hsz]; omega) hm (by omega)
  have HLY := Lib.hid hly
  have hfin : ∀ e w', LayPost W X d m V l f (.slice b (tailOf f fs).length c) [p] true w e w' → e = .returned (.int .i64 (if (h - 1) * 64 < p.length + 8 then 13 else 0)) ∧ LU W U w' d l (m + h + 2) a h N (if (h - 1) * 64 < p.length + 8 then fs else [p]) ∧ Only (fun k => W.heap.size ≤ k ∧ ¬ U k) w w' := by
    intro e w' hpost
    rw [← hr]
    rcases hpost with ⟨g1, rfl, ho⟩ | ⟨g1, rfl, b', c', k⟩
    · rw [hsz] at g1
      rw [if_pos g1, if_pos g1]
      exact ⟨rfl, (hs'.still ho).more (by omega) (by omega), ho.mono (fun _ _ h => h.elim)⟩
    · have hlen : (laid (f.turn + 1) 1 [p]).length = sizes [p] := laid_len _ _ _
      have ht' : tailOf (f.laid (sizes [p]) [p].length) [p] = (laid (f.turn + 1) 1 [p]).drop ((laid (f.turn + 1) 1 [p]).length / 64 * 64) := by rw [hlen]; rfl
      simp only at k
      rw [← ht'] at k
      obtain ⟨m1, m2, m3, m4, m5⟩ := k
      have g1' := g1
      rw [hsz] at g1'
      rw [if_neg (by omega), if_neg (by omega)]
      have hll : l < w.heap.size := (Array.getElem?_eq_some_iff.1 h0.box).1
      refine ⟨rfl, ⟨layV V f (laid (f.turn + 1) 1 [p]), f.laid (sizes [p]) [p].length, (fun k => X k ∨ (Value.slice b' (tailOf (f.laid (sizes [p]) [p].length) [p]).length c').ownBlock = some k), b', c', ⟨by rw [← h2]; exact m4, h0.good.toPre.lay [p] (by simp) g1 (by omega) (by simp), m1, m2, fun k hk => ⟨.inr hk, by have := (m3 k hk).1; omega, fun hu => by have := h0.dx.bound k (h0.hU k hu).1; have := (m3 k hk).1; omega⟩, .inl h0.xl, h0.hl, h0.ha, h2, by rw [layV_len]; exact h0.hN, by show f.turn + 1 ≤ _; omega, fun k hk => ⟨.inl (h0.hU k hk).1, (h0.hU k hk).2⟩⟩⟩, m5.mono (fun k _ hk => ⟨hk.1, fun hu => hk.2.elim (fun h => h (h0.hU k hu).1) (h0.hU k hu).2⟩)⟩
  obtain ⟨E, hE⟩ : ∃ E, (if (h - 1) * 64 < p.length + 8 then (13 : Int) else 0) = E := ⟨_, rfl⟩
  obtain ⟨FS, hFS⟩ : ∃ FS, (if (h - 1) * 64 < p.length + 8 then fs else [p]) = FS := ⟨_, rfl⟩
  rw [hE, hFS] at hfin ⊢
  have HFIN := Lib.hid hfin
  clear hfin hly hrec h0 hs' hp' hE hFS
  go_enter Try.func37, Try.ntmps37
  go_wp2_with fail
  refine HLY.out.mono ?_
  intro e w1 hpost
  obtain ⟨rfl, hx⟩ := HFIN.out e w1 hpost
  have HX := Lib.hid hx; clear hx hpost
  go_wp2_with fail
  go_ret
  exact ⟨rfl, HX.out⟩
/-- Open anew: what is told lies among the caller's own. -/
theorem lu_open (W : World) (U : Nat → Prop) (d l m a h N : Nat) (s : List UInt8) (rs : List (List UInt8)) (w : World) (hs : LU W U w d l m a h N (s :: rs)) (hm : m + 20000 ≤ 1000000000) :
    Calls Try.prog 35 #[.pointer (some ⟨d, 0, none⟩), .int .i64 (a : Int), .int .i64 ((2 * h : Nat) : Int)] w fun e w' => ∃ l' sv av, e = .returned (.tuple #[.pointer (some ⟨l', 0, none⟩), sv, av, .int .i64 0]) ∧ LU W U w' d l' (m + h + 2) a h N (s :: rs) ∧ Recs w' (fun k => w.heap.size ≤ k) sv av s rs ∧ w.heap.size ≤ l' ∧ Only (fun k => W.heap.size ≤ k ∧ ¬ U k) w w' := by
  obtain ⟨V, f, X, b, c, h0⟩ := hs
  obtain ⟨rfl, rfl⟩ := And.intro h0.ha h0.hh
  have htu := h0.ht
  refine (open_any W X d m V true f s rs w h0.dx (.inr h0.good) h0.good.fits hm (by omega)).mono ?_
  rintro e w' ⟨l', sv, av, X', he, hla, hrec, hX1, hX2, hl', ho, htl⟩
  obtain ⟨b', c', k1, k2, k3⟩ := hla.box
  refine ⟨l', sv, av, he, ⟨_, _, fun k => X' k ∧ (k = l' ∨ (Value.slice b' (tailOf (f.laid (sizes (s :: rs)) (s :: rs).length) (s :: rs)).length c').ownBlock = some k ∨ U k), b', c', ⟨hla.dx.less (fun k hk => hk.1), hla.good, k1, k2, fun k hk => ⟨⟨(k3 k hk).1, .inr (.inl hk)⟩, (k3 k hk).2, fun hu => ?_⟩, ⟨hla.xl, .inl rfl⟩, hla.hl, rfl, rfl, by rw [layV_len]; exact h0.hN, by show f.turn + 1 ≤ _; omega, fun k hk => ⟨⟨hX1 k (h0.hU k hk).1, .inr (.inr hk)⟩, by have := h0.dx.bound k (h0.hU k hk).1; omega⟩⟩⟩, hrec.weaken (fun _ _ h => h.2.2), hl', ho.mono (fun k _ hk => ⟨hk.1, fun hu => hk.2 (h0.hU k hu).1⟩)⟩
  have h1 := htl b' c' k1 k hk
  have h2 := h0.dx.bound k (h0.hU k hu).1
  omega
end Go.Proofs.Ytlkglhgndfhjeaa
