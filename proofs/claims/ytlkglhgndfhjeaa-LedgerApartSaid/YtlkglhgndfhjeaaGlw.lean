/- The ledger by what it holds: Append, Snapshot, Open, the law's open. -/
import Derived.Test.YtlkglhgndfhjeaaGrw
namespace Go.Proofs.Ytlkglhgndfhjeaa
open Go Go.RowKit
set_option linter.unusedVariables false
set_option linter.unusedSimpArgs false
set_option maxRecDepth 100000

/-- A ledger in memory that holds these frames: its first block, half its blocks, all blocks of the disk. -/
def LS (W : World) (X : Nat → Prop) (w : World) (d l m a h N : Nat) (fs : List (List UInt8)) : Prop :=
  ∃ V f, LedAt W X w d l m V f fs ∧ f.at_ = a ∧ f.half = h ∧ V.length = N ∧ f.turn ≤ m
/-- X has only grown by what is new. -/
def Wider (X X' : Nat → Prop) (w : World) : Prop := (∀ k, X k → X' k) ∧ ∀ k, X' k → X k ∨ w.heap.size ≤ k
theorem Wider.refl (X : Nat → Prop) (w : World) : Wider X X w := ⟨fun _ h => h, fun _ h => .inl h⟩
def acode (room : Nat) (fs : List (List UInt8)) (p : List UInt8) : Int := if 4000 < p.length then 2 else if room < sizes fs + (p.length + 8) then 13 else 0
def afs (room : Nat) (fs : List (List UInt8)) (p : List UInt8) : List (List UInt8) := if acode room fs p = 0 then fs ++ [p] else fs
theorem LS.only {W w w' : World} {X : Nat → Prop} {d l m a h N : Nat} {fs : List (List UInt8)} (hs : LS W X w d l m a h N fs) {S : Nat → Prop} (ho : Only S w w') (hS : ∀ k, k < w.heap.size → S k → W.heap.size ≤ k ∧ X k ∧ k ≠ l ∧ ∀ V f b c, LedAt W X w d l m V f fs → Box w l d f (.slice b (tailOf f fs).length c) → (Value.slice b (tailOf f fs).length c).ownBlock ≠ some k) : LS W X w' d l m a h N fs := by
  obtain ⟨V, f, hl, h1, h2, h3, h4⟩ := hs
  have hl' := hl
  obtain ⟨dx, good, ⟨b, c, k1, k2, k3⟩, xl, hw⟩ := hl
  refine ⟨V, f, ⟨dx.only ho (fun k hk hs => ⟨(hS k hk hs).1, (hS k hk hs).2.1⟩), good, ⟨b, c, ?_, k2.only ho (fun hp k hk hs => (hS k (k2.blk hp hk) hs).2.2.2 V f b c hl' k1 hk), k3⟩, xl, hw⟩, h1, h2, h3, h4⟩
  exact k1.only ho (fun hs => (hS l (Array.getElem?_eq_some_iff.1 k1).1 hs).2.2.1 rfl)
theorem LS.still {W w w' : World} {X : Nat → Prop} {d l m a h N : Nat} {fs : List (List UInt8)} (hs : LS W X w d l m a h N fs) (ho : Only (fun _ => False) w w') : LS W X w' d l m a h N fs := hs.only ho (fun _ _ h => h.elim)
theorem LS.old {W w : World} {X : Nat → Prop} {d l m a h N : Nat} {fs : List (List UInt8)} (hs : LS W X w d l m a h N fs) : Only (fun _ => False) W w := by
  obtain ⟨V, f, hl, _⟩ := hs; exact hl.dx.old
theorem LS.fits {W w : World} {X : Nat → Prop} {d l m a h N : Nat} {fs : List (List UInt8)} (hs : LS W X w d l m a h N fs) : sizes fs ≤ (h - 1) * 64 ∧ fs ≠ [] ∧ 2 ≤ h ∧ h ≤ 10000 := by
  obtain ⟨V, f, hl, h1, h2, h3, h4⟩ := hs
  have := hl.good.fits
  unfold Fl.room at this
  rw [h2] at this
  have := hl.good.ok.half
  exact ⟨by omega, hl.good.some_, by omega, by omega⟩
theorem LS.more {W w : World} {X : Nat → Prop} {d l m a h N n : Nat} {fs : List (List UInt8)} (hs : LS W X w d l m a h N fs) (hm : m ≤ n) (hn : n ≤ 1000000000) : LS W X w d l n a h N fs := by
  obtain ⟨V, f, hl, h1, h2, h3, h4⟩ := hs
  exact ⟨V, f, ⟨hl.dx.step hm hn (fun h => h), hl.good, hl.box, hl.xl, hl.hl⟩, h1, h2, h3, by omega⟩
theorem led_append (W : World) (X : Nat → Prop) (d l m a h N : Nat) (fs : List (List UInt8)) (pv : Value) (p : List UInt8) (w : World) (hs : LS W X w d l m a h N fs) (hp : Bytes w pv p) (hp5 : p.length ≤ 100000) (hm : m + 20000 ≤ 1000000000) :
    Calls Try.prog 36 #[.pointer (some ⟨l, 0, none⟩), pv] w fun e w' => e = .returned (.int .i64 (acode ((h - 1) * 64) fs p)) ∧ ∃ X', LS W X' w' d l (m + 100) a h N (afs ((h - 1) * 64) fs p) ∧ Wider X X' w ∧ Only (fun k => W.heap.size ≤ k ∧ (¬ X k ∨ k = l)) w w' := by
  have hs' := hs
  obtain ⟨V, f, hl, h1, h2, h3, h4⟩ := hs
  obtain ⟨dx, good, ⟨b, c, k1, k2, k3⟩, xl, hw⟩ := hl
  have hfit := good.fits
  have hhalf := good.ok.half
  have hr : f.room = (h - 1) * 64 := by unfold Fl.room; rw [h2]
  have hlen := sizes_le_len fs
  have hrb : f.room ≤ 640000 := by unfold Fl.room; omega
  refine (append_any W X d m V true l f fs b c pv p w dx k1 k2 good xl hw hp hp5 hm (by omega)).mono ?_
  intro e w' hpost
  rw [← hr]
  rcases hpost with ⟨g1, rfl, rfl⟩ | ⟨g1, g2, rfl, ho⟩ | ⟨g1, g2, rfl, b', c', k⟩
  · have ea : acode f.room fs p = 2 := if_pos g1
    refine ⟨by rw [ea], X, ?_, Wider.refl _ _, Only.refl _ _⟩
    unfold afs; rw [ea, if_neg (by decide)]; exact hs'.more (by omega) (by omega)
  · have ea : acode f.room fs p = 13 := by unfold acode; rw [if_neg (by omega), if_pos g2]
    refine ⟨by rw [ea], X, ?_, Wider.refl _ _, ho.mono (fun _ _ h => h.elim)⟩
    unfold afs; rw [ea, if_neg (by decide)]; exact (hs'.still ho).more (by omega) (by omega)
  · have ea : acode f.room fs p = 0 := by unfold acode; rw [if_neg (by omega), if_neg (by omega)]
    obtain ⟨m1, m2, m3, m4, m5⟩ := k
    refine ⟨by rw [ea], (fun k => X k ∨ (Value.slice b' (tailOf (f.apn p) (fs ++ [p])).length c').ownBlock = some k), ?_, ⟨fun k hk => .inl hk, fun k hk => Or.imp _root_.id (fun h => (m3 k h).1) hk⟩, m5⟩
    unfold afs; rw [ea, if_pos rfl]
    have hll : l < w.heap.size := (Array.getElem?_eq_some_iff.1 k1).1
    exact ⟨apnV V f fs p, f.apn p, ⟨m4, good.append p g2 (by omega), ⟨b', c', m1, m2, fun k hk => ⟨.inr hk, by have := (m3 k hk).1; omega⟩⟩, .inl xl, hw⟩, h1, h2, by unfold apnV; rw [putc_len]; exact h3, by show f.turn ≤ _; omega⟩
theorem led_snap (W : World) (X : Nat → Prop) (d l m a h N : Nat) (fs : List (List UInt8)) (pv : Value) (p : List UInt8) (w : World) (hs : LS W X w d l m a h N fs) (hp : Bytes w pv p) (hp5 : p.length ≤ 100000) (hm : m + 20000 ≤ 1000000000) :
    Calls Try.prog 37 #[.pointer (some ⟨l, 0, none⟩), pv] w fun e w' => e = .returned (.int .i64 (if (h - 1) * 64 < p.length + 8 then 13 else 0)) ∧ ∃ X', LS W X' w' d l (m + h + 2) a h N (if (h - 1) * 64 < p.length + 8 then fs else [p]) ∧ Wider X X' w ∧ Only (fun k => W.heap.size ≤ k ∧ (¬ X k ∨ k = l)) w w' := by
  have hs' := hs
  obtain ⟨V, f, hl, h1, h2, h3, h4⟩ := hs
  obtain ⟨dx, good, ⟨b, c, k1, k2, k3⟩, xl, hw⟩ := hl
  have hhalf := good.ok.half
  have hr : f.room = (h - 1) * 64 := by unfold Fl.room; rw [h2]
  have hp' := hp
  obtain ⟨aP, cP, rfl, _, _, _⟩ := hp
  have hrec : Recs w (fun _ => True) (.slice aP p.length cP) (.slice none 0 0) p [] := ⟨⟨aP, cP, rfl, hp', fun _ _ _ => trivial⟩, none, 0, rfl, Nat.le_refl _, Nat.zero_le _, ListAt.nil⟩
  have hsz : sizes [p] = p.length + 8 := by simp [sizes]
  have hly := lay_any W X d m V true l f _ _ _ p [] _ w dx k1 good.ok xl hw good.geo good.len hrec (by rw [hsz]; omega) hm (by omega)
  have HLY := Lib.hid hly
  have hfin : ∀ e w', LayPost W X d m V l f (.slice b (tailOf f fs).length c) [p] true w e w' → e = .returned (.int .i64 (if (h - 1) * 64 < p.length + 8 then 13 else 0)) ∧ ∃ X', LS W X' w' d l (m + h + 2) a h N (if (h - 1) * 64 < p.length + 8 then fs else [p]) ∧ Wider X X' w ∧ Only (fun k => W.heap.size ≤ k ∧ (¬ X k ∨ k = l)) w w' := by
    intro e w' hpost
    rw [← hr]
    rcases hpost with ⟨g1, rfl, ho⟩ | ⟨g1, rfl, b', c', k⟩
    · rw [hsz] at g1
      rw [if_pos g1, if_pos g1]
      exact ⟨rfl, X, (hs'.still ho).more (by omega) (by omega), Wider.refl _ _, ho.mono (fun _ _ h => h.elim)⟩
    · have hlen : (laid (f.turn + 1) 1 [p]).length = sizes [p] := laid_len _ _ _
      have ht' : tailOf (f.laid (sizes [p]) [p].length) [p] = (laid (f.turn + 1) 1 [p]).drop ((laid (f.turn + 1) 1 [p]).length / 64 * 64) := by rw [hlen]; rfl
      simp only at k
      rw [← ht'] at k
      obtain ⟨m1, m2, m3, m4, m5⟩ := k
      have g1' := g1
      rw [hsz] at g1'
      rw [if_neg (by omega), if_neg (by omega)]
      have hll : l < w.heap.size := (Array.getElem?_eq_some_iff.1 k1).1
      refine ⟨rfl, (fun k => X k ∨ (Value.slice b' (tailOf (f.laid (sizes [p]) [p].length) [p]).length c').ownBlock = some k), ⟨layV V f (laid (f.turn + 1) 1 [p]), f.laid (sizes [p]) [p].length, ⟨by rw [← h2]; exact m4, good.toPre.lay [p] (by simp) g1 (by omega) (by simp), ⟨b', c', m1, m2, fun k hk => ⟨.inr hk, by have := (m3 k hk).1; omega⟩⟩, .inl xl, hw⟩, h1, h2, by rw [layV_len]; exact h3, by show f.turn + 1 ≤ _; omega⟩, ⟨fun k hk => .inl hk, fun k hk => Or.imp _root_.id (fun h => (m3 k h).1) hk⟩, m5⟩
  obtain ⟨E, hE⟩ : ∃ E, (if (h - 1) * 64 < p.length + 8 then (13 : Int) else 0) = E := ⟨_, rfl⟩
  obtain ⟨FS, hFS⟩ : ∃ FS, (if (h - 1) * 64 < p.length + 8 then fs else [p]) = FS := ⟨_, rfl⟩
  rw [hE, hFS] at hfin ⊢
  have HFIN := Lib.hid hfin
  clear hfin hly hrec dx k1 k2 k3 good hs' hp' hE hFS
  go_enter Try.func37, Try.ntmps37
  go_wp2_with fail
  refine HLY.out.mono ?_
  intro e w1 hpost
  obtain ⟨rfl, hx⟩ := HFIN.out e w1 hpost
  have HX := Lib.hid hx; clear hx hpost
  go_wp2_with fail
  go_ret
  exact ⟨rfl, HX.out⟩
theorem snap_nil (v : Value) (w : World) : Calls Try.prog 37 #[.pointer none, v] w fun e w' => e = .returned (.int .i64 6) ∧ w = w' := by
  go_enter Try.func37, Try.ntmps37
  go_wp2
  go_ret
  exact ⟨rfl, rfl⟩
theorem led_open (W : World) (X : Nat → Prop) (d l m a h N : Nat) (s : List UInt8) (rs : List (List UInt8)) (w : World) (hs : LS W X w d l m a h N (s :: rs)) (hm : m + 20000 ≤ 1000000000) :
    Calls Try.prog 35 #[.pointer (some ⟨d, 0, none⟩), .int .i64 (a : Int), .int .i64 ((2 * h : Nat) : Int)] w fun e w' => ∃ l' sv av X', e = .returned (.tuple #[.pointer (some ⟨l', 0, none⟩), sv, av, .int .i64 0]) ∧ LS W X' w' d l' (m + h + 2) a h N (s :: rs) ∧ Recs w' (fun k => X' k ∧ k ≠ l' ∧ w.heap.size ≤ k) sv av s rs ∧ Wider X X' w ∧ w.heap.size ≤ l' ∧ Only (fun k => W.heap.size ≤ k ∧ ¬ X k) w w' := by
  obtain ⟨V, f, hl, rfl, rfl, h3, h4⟩ := hs
  refine (open_any W X d m V true f s rs w hl.dx (.inr hl.good) hl.good.fits hm (by omega)).mono ?_
  rintro e w' ⟨l', sv, av, X', he, hla, hrec, hX1, hX2, hl', ho, _⟩
  exact ⟨l', sv, av, X', he, ⟨_, _, hla, rfl, rfl, by rw [layV_len]; exact h3, by show f.turn + 1 ≤ _; omega⟩, hrec, ⟨hX1, hX2⟩, hl', ho⟩
theorem led_len (W : World) (X : Nat → Prop) (d l m a h N : Nat) (fs : List (List UInt8)) (w : World) (hs : LS W X w d l m a h N fs) :
    Calls Try.prog 44 #[.pointer (some ⟨l, 0, none⟩)] w fun e w' => e = .returned (.int .i64 ((fs.length : Int) - 1)) ∧ w = w' := by
  obtain ⟨V, f, hl, h1, h2, h3, h4⟩ := hs
  obtain ⟨b, c, k1, _⟩ := hl.box
  have := llen_any w l d f _ k1 hl.good.ok (by rw [hl.good.n]; exact List.length_pos_iff.2 hl.good.some_)
  rw [hl.good.n] at this; exact this
theorem led_left (W : World) (X : Nat → Prop) (d l m a h N : Nat) (fs : List (List UInt8)) (w : World) (hs : LS W X w d l m a h N fs) :
    Calls Try.prog 41 #[.pointer (some ⟨l, 0, none⟩)] w fun e w' => e = .returned (.int .i64 ((((h - 1) * 64 : Nat) : Int) - (sizes fs : Int))) ∧ ∃ n, w' = w.drewN n := by
  obtain ⟨V, f, hl, h1, h2, h3, h4⟩ := hs
  obtain ⟨b, c, k1, _⟩ := hl.box
  have := lleft_any w l d f _ k1 hl.good.ok
  rw [hl.good.en] at this
  unfold Fl.room at this
  rw [h2] at this; exact this
theorem led_restart (W : World) (X : Nat → Prop) (d l m a h N : Nat) (fs : List (List UInt8)) (keep torn : Int) (w : World) (hs : LS W X w d l m a h N fs) :
    Calls Try.prog 20 #[.pointer (some ⟨d, 0, none⟩), .int .i64 keep, .int .i64 torn] w fun e w' => e = .returned (.int .i64 0) ∧ LS W X w' d l m a h N fs ∧ Only (fun k => W.heap.size ≤ k ∧ ¬ X k) w w' := by
  obtain ⟨V, f, hl, h1, h2, h3, h4⟩ := hs
  obtain ⟨dx, good, ⟨b, c, k1, k2, k3⟩, xl, hw⟩ := hl
  refine (restart_v W X d m V keep torn w dx).mono ?_
  rintro e w' ⟨he, hd, ho⟩
  exact ⟨he, ⟨V, f, ⟨hd, good, ⟨b, c, k1.only ho (fun hs => hs.2 xl), k2.only ho (fun hp k hk hs => hs.2 (k3 k hk).1), k3⟩, xl, hw⟩, h1, h2, h3, h4⟩, ho⟩
theorem blank_ready {a h N : Nat} (ha : a ≤ 10000) (hh : 2 ≤ h ∧ h ≤ 10000) (hN : a + 2 * h ≤ N) (hN2 : N ≤ 4096) : Ready (blank N) ⟨a, h, 0, 0, 0, 0⟩ [[]] := by
  have hz : ∀ i, i < N → (blank N).getD i [] = zeros64 := fun i hi => by
    unfold blank
    rw [List.getD_eq_getElem?_getD, List.getElem?_replicate, if_pos hi]; rfl
  refine .inl ⟨rfl, rfl, rfl, ⟨⟨ha, hh, Nat.zero_le _, Nat.zero_le _, Nat.zero_le _, Nat.zero_le _⟩, by unfold blank; rw [List.length_replicate]; exact hN, by unfold blank; rw [List.length_replicate]; omega, fun r hr => ?_, ?_⟩, ?_⟩
  · unfold blank at hr
    rw [(List.mem_replicate.1 hr).2]; rfl
  · rw [hz _ (by unfold Fl.first; simp only; omega)]; show zeros64.take 16 = hdr 0; decide
  · rw [hz _ (by unfold Fl.first; simp only; omega)]; decide
theorem led_first (W : World) (X : Nat → Prop) (d m a h N : Nat) (w : World) (hd : DX W X w d (blank N) m true) (ha : a ≤ 10000) (hh : 2 ≤ h ∧ h ≤ 10000) (hN : a + 2 * h ≤ N) (hN2 : N ≤ 4096) (hm : m + 20000 ≤ 1000000000) :
    Calls Try.prog 35 #[.pointer (some ⟨d, 0, none⟩), .int .i64 (a : Int), .int .i64 ((2 * h : Nat) : Int)] w fun e w' => ∃ l' sv av X', e = .returned (.tuple #[.pointer (some ⟨l', 0, none⟩), sv, av, .int .i64 0]) ∧ LS W X' w' d l' (m + h + 2) a h N [[]] ∧ Wider X X' w ∧ w.heap.size ≤ l' ∧ Only (fun k => W.heap.size ≤ k ∧ ¬ X k) w w' := by
  refine (open_any W X d m (blank N) true ⟨a, h, 0, 0, 0, 0⟩ [] [] w hd (blank_ready ha hh hN hN2) (by simp [sizes, Fl.room]; omega) hm (by show 0 + 1 ≤ 1000000000; decide)).mono ?_
  rintro e w' ⟨l', sv, av, X', he, hla, hrec, hX1, hX2, hl', ho, _⟩
  exact ⟨l', sv, av, X', he, ⟨_, _, hla, rfl, rfl, by rw [layV_len]; unfold blank; rw [List.length_replicate], by show 0 + 1 ≤ _; omega⟩, ⟨hX1, hX2⟩, hl', ho⟩
theorem DX.lower {W w w' : World} {X : Nat → Prop} {d m : Nat} {V : List (List UInt8)} {q : Bool} (h : DX w X w' d V m q) (hW : Only (fun _ => False) W w) : DX W X w' d V m q := by
  obtain ⟨st, ⟨F, g1, g2, g3⟩, h2⟩ := h
  exact ⟨st, ⟨F, g1, fun k hk => ⟨Nat.le_trans hW.size (g2 k hk).1, (g2 k hk).2⟩, hW.trans g3⟩, h2⟩
theorem LS.lower {W w w' : World} {X : Nat → Prop} {d l m a h N : Nat} {fs : List (List UInt8)} (hs : LS w X w' d l m a h N fs) (hW : Only (fun _ => False) W w) : LS W X w' d l m a h N fs := by
  obtain ⟨V, f, hl, h1⟩ := hs
  exact ⟨V, f, ⟨hl.dx.lower hW, hl.good, hl.box, hl.xl, Nat.le_trans hW.size hl.hl⟩, h1⟩
theorem law_open (W : World) (h : Nat) (w : World) (hW : Only (fun _ => False) W w) (hh : 2 ≤ h ∧ h ≤ 2000) :
    Calls Try.prog 40 #[.int .i64 ((2 * h : Nat) : Int)] w fun e w' => ∃ d l X, e = .returned (.tuple #[.pointer (some ⟨d, 0, none⟩), .pointer (some ⟨l, 0, none⟩)]) ∧ LS W X w' d l (h + 2) 1 h (2 * h + 1) [[]] ∧ (∀ k, X k → w.heap.size ≤ k) ∧ Only (fun _ => False) w w' := by
  have hn := new_v w (2 * h + 1) w (Only.refl _ _) (by omega) (by omega)
  have e1 : ((2 * h + 1 : Nat) : Int) = ((2 * h : Nat) : Int) + 1 := by omega
  rw [e1] at hn
  have HN := Lib.hid hn; have HW := Lib.hid hW
  obtain ⟨n, hnn⟩ : ∃ n, 2 * h = n := ⟨_, rfl⟩
  have hb0 : (0 : Int) ≤ (n : Int) := by omega
  have hb1 : (n : Int) ≤ 4000 := by omega
  have HNN := Lib.hid hnn
  rw [hnn] at HN ⊢
  clear hn e1 hnn hW
  go_enter Try.func40, Try.ntmps40
  go_wp2_with fail
  refine HN.out.mono ?_
  rintro e w1 ⟨d, rfl, hd, ho⟩
  have hop := led_first w (fun _ => False) d 0 1 h (n + 1) w1 hd (by decide) ⟨hh.1, by omega⟩ (by have := HNN.out; omega) (by omega) (by decide)
  rw [HNN.out, show ((1 : Nat) : Int) = 1 from rfl] at hop
  have HOP := Lib.hid hop; have HO := Lib.hid ho
  clear hop hd ho
  go_wp2_with fail
  refine HOP.out.mono ?_
  rintro e w2 ⟨l, sv, av, X, rfl, hls, hwd, hl, ho2⟩
  have hO2 : Only (fun _ => False) w w2 := HO.out.trans' ho2 (fun k hk hs => by omega)
  have hX : ∀ k, X k → w.heap.size ≤ k := fun k hk => by
    rcases hwd.2 k hk with h | h
    · exact h.elim
    · exact Nat.le_trans HO.out.size h
  rw [show 0 + h + 2 = h + 2 from by omega] at hls
  have HLS := Lib.hid (hls.lower HW.out); have HO2 := Lib.hid hO2; have HX := Lib.hid hX
  clear hls hwd hl ho2 hO2 hX
  go_wp2_with fail
  go_ret2
  exact ⟨d, l, X, rfl, HLS.out, HX.out, HO2.out⟩
end Go.Proofs.Ytlkglhgndfhjeaa
