/- sdl.reader: a type, and a value, that stand there. -/
import Derived.Test.YtgephneppgcnlaaGreatDoorSdR
import Derived.Test.YtgephneppgcnlaaGreatDoorRgJ
import Derived.Test.YtgephneppgcnlaaGreatDoorPrv
namespace Go.Proofs.YtgephneppgcnlaaGreatDoor
open Go Go.RowKit
set_option linter.unusedVariables false
set_option linter.unusedSimpArgs false

def trJ (v : Value) : Prop := ∃ (s : List UInt8) (a : Option Addr) (l c : Nat) (bb : Bool), v = .agg #[.string ⟨s.toArray⟩, .slice a l c, .bool bb]
def valJ (v : Value) : Prop := ∃ (k : Nat) (n : Int) (s : List UInt8) (a1 : Option Addr) (l1 e1 : Nat) (a2 : Option Addr) (l2 e2 : Nat), v = .agg #[.int .u8 (k : Int), .int .i64 n, .string ⟨s.toArray⟩, .slice a1 l1 e1, .slice a2 l2 e2]
def RdG {α : Type} (G : Nat → Prop) (w' : World) (enc : α → List Cell) (Z : List Value) (p : PR α) (cs : List Value) (c : Nat) (q : List Tok) : Prop := match p with
  | .ok x r => c = 0 ∧ q = r ∧ CellsAt w' G (enc x) cs
  | .bad a d => c = d ∧ a = atT q ∧ cs = Z
theorem RdIs.g {α : Type} {B : Nat} {w : World} {enc : α → List Cell} {Z : List Value} {p : PR α} {cs : List Value} {c : Nat} {q : List Tok} (h : RdIs B w enc Z p cs c q) {G : Nat → Prop} (hG : ∀ k, B ≤ k → G k) : RdG G w enc Z p cs c q := by
  cases p with
  | ok x r => exact ⟨h.1, h.2.1, CellsAt.weaken (fun k _ hk => hG k hk) _ _ h.2.2⟩
  | bad a d => exact h
theorem RdG.only {α : Type} {G : Nat → Prop} {w w' : World} {enc : α → List Cell} {Z : List Value} {p : PR α} {cs : List Value} {c : Nat} {q : List Tok} (h : RdG G w enc Z p cs c q) {S : Nat → Prop} (ho : Only S w w') (hS : ∀ k, G k → ¬ S k) : RdG G w' enc Z p cs c q := by
  cases p with
  | ok x r => exact ⟨h.1, h.2.1, CellsAt.only ho hS _ _ h.2.2⟩
  | bad a d => exact h
theorem RdG.weaken {α : Type} {G G' : Nat → Prop} {w : World} {enc : α → List Cell} {Z : List Value} {p : PR α} {cs : List Value} {c : Nat} {q : List Tok} (h : RdG G w enc Z p cs c q) (hG : ∀ k, k < w.heap.size → G k → G' k) : RdG G' w enc Z p cs c q := by
  cases p with
  | ok x r => exact ⟨h.1, h.2.1, CellsAt.weaken hG _ _ h.2.2⟩
  | bad a d => exact h
theorem trJ_of {G : Nat → Prop} {w' : World} {p : PR TR} {cs : List Value} {c : Nat} {q : List Tok} (h : RdG G w' trC [.string ⟨#[]⟩, .slice none 0 0, .bool false] p cs c q) : ∃ (s : List UInt8) (a : Option Addr) (l d : Nat) (bb : Bool), cs = [.string ⟨s.toArray⟩, .slice a l d, .bool bb] := by
  cases p with
  | ok x r => exact trC_form2 h.2.2
  | bad a d => exact ⟨[], none, 0, 0, false, h.2.2⟩
theorem valJ_of {G : Nat → Prop} {w' : World} {p : PR VT} {cs : List Value} {c : Nat} {q : List Tok} (h : RdG G w' valC [.int .u8 0, .int .i64 0, .string ⟨#[]⟩, .slice none 0 0, .slice none 0 0] p cs c q) : ∃ (k : Nat) (n : Int) (s : List UInt8) (a1 : Option Addr) (l1 e1 : Nat) (a2 : Option Addr) (l2 e2 : Nat), cs = [.int .u8 (k : Int), .int .i64 n, .string ⟨s.toArray⟩, .slice a1 l1 e1, .slice a2 l2 e2] := by
  cases p with
  | ok x r => exact valC_form2 h.2.2
  | bad a d => exact ⟨0, 0, [], none, 0, 0, none, 0, 0, h.2.2⟩
/-- What was read, as the reader's state. -/
theorem RdG.st {α : Type} {G : Nat → Prop} {w : World} {enc : α → List Cell} {Z : List Value} {p : PR α} {cs : List Value} {c : Nat} {q : List Tok} (h : RdG G w enc Z p cs c q) (hz : NZ p) : p.unit = stOf q c := by
  cases p with
  | ok x r => obtain ⟨rfl, rfl, _⟩ := h; rfl
  | bad a d =>
    obtain ⟨rfl, rfl, _⟩ := h
    rw [st_bad hz]; rfl
theorem agg_inj {cs ds : Array Value} {j d j' d' : Nat} (h : Value.tuple #[.agg cs, .int .i64 (j : Int), .int .i64 (d : Int)] = .tuple #[.agg ds, .int .i64 (j' : Int), .int .i64 (d' : Int)]) : cs = ds ∧ j = j' ∧ d = d' := by
  simp at h
  exact ⟨h.1, by have := h.2.1; omega, by have := h.2.2; omega⟩
-- walks
set_option maxRecDepth 100000 in
set_option maxHeartbeats 8000000 in
theorem styp_any (b : Nat) (all : List Tok) (σ : PR Unit) (w : World) (h : Sd w b all σ) :
    Calls Tryz.prog 47 #[.pointer (some ⟨b, 0, none⟩)] w (SAns w b all σ (fun w' x v => aggP w.heap.size trC w' x v) trJ (typP 24)) := by
  have hbl := h.lt
  obtain ⟨r, e, h, rfl⟩ := h
  obtain ⟨g, off, c, i, h1, h2, h3, h4, h5⟩ := h.row
  have hil : i < all.length := by have := h.ends; cases r with | nil => exact this.elim | cons t u => simp at h5; omega
  obtain ⟨c0, c1, c2, fz⟩ := boxN3 h1
  obtain ⟨B, hB⟩ : ∃ B, w.heap.size = B := ⟨_, rfl⟩
  obtain ⟨w0, hw0⟩ : ∃ w0, w.alloc (.cells #[.string ⟨#[]⟩, .slice none 0 0, .bool false] 40) = w0 := ⟨_, rfl⟩
  have hr0 : w0.heap[B]? = some (.cells #[.string ⟨#[]⟩, .slice none 0 0, .bool false] 40 (0, 0)) := by rw [← hw0, ← hB]; exact heap_new _ _
  have o0 : Only (fun _ => False) w w0 := by rw [← hw0]; exact (Only.refl _ w).alloc _
  have hs0 : w0.heap.size = B + 1 := by rw [← hw0, World.size_alloc, hB]
  have hbB : b < B := by omega
  have hgB : g < B := by omega
  have HB := Lib.hid hB; have HW0 := Lib.hid hw0; have HR0 := Lib.hid hr0; have O0 := Lib.hid o0; have HS0 := Lib.hid hs0
  have cf : ∀ w', Only (fun _ => False) w w' → w'.cell? ⟨b, 0, none⟩ = some (.slice (some ⟨g, off, none⟩) all.length c) ∧ w'.cell? ⟨b, 1, none⟩ = some (.int .i64 (i : Int)) ∧ w'.cell? ⟨b, 2, none⟩ = some (.int .i64 (e : Int)) ∧ ∀ o, w'.frozen? ⟨b, o, none⟩ = false := fun w' o => boxN3 ((o.block b hbl (fun h => h)).trans h1)
  have CF := Lib.hid cf
  by_cases he : e = 0
  · subst he
    have HZ := Lib.hid (nz_typ 24 r)
    have HH := Lib.hid h; have H1 := Lib.hid h1
    have J : ∀ w', Only (fun _ => False) w w' → Calls Tryz.prog 64 #[.slice (some ⟨g, off, none⟩) all.length c, .int .i64 (i : Int)] w' (RdRes w' all trC [.string ⟨#[]⟩, .slice none 0 0, .bool false] (typP 24 r)) := fun w' o => pT_any all r g off c i w' (h2.still o) h4 h5 h.ends h.few
    have HP : ∀ w' v, trJ v → Sd w' b all (typP 24 r).unit → (∀ x q, typP 24 r = .ok x q → aggP w.heap.size trC w' x v) → Only (fun k => k = b) w w' → SAns w b all (stOf r 0) (fun w' x v => aggP w.heap.size trC w' x v) trJ (typP 24) (.returned v) w' := fun w' v q1 q2 q3 q4 => ⟨v, rfl, q1, q2, q3, q4⟩
    have HPP := Lib.hid HP; have JJ := Lib.hid J
    have HFW := Lib.hid h.few
    clear HP J h h1 h2 h4 cf fz hB hw0 hr0 o0 hs0 h5
    generalize (SAns w b all (stOf r 0) (fun w' x v => aggP w.heap.size trC w' x v) trJ (typP 24)) = Q at *
    go_enter Tryz.func47, Tryz.ntmps47
    go_upto_region 1 with (fail)
    rw [HB.out, HW0.out]
    clear c0 c1 c2
    obtain ⟨c0, c1, c2, fz⟩ := CF.out w0 O0.out
    go_upto_region 3 with (fail)
    clear c0 c1 c2 fz
    refine wp_region_pairs 16 (by kernel_rfl) rfl (by kernel_rfl) [some 13, some 14, some 15, some 16, some 17, some 18, some 19, some 20, some 21, some 12, some 22, some 23, some 24, some 3, none, some 4] rfl rfl (fun _ => False) (fun q => B < q) (fun _ h => h.elim) [[], [], [], [], [], [], [], [], [], [8], [9], [9], [9], [], [13, 10], [11]] rfl (by kernel_rfl) [(fun _ v _ => v = (.pointer (some ⟨b, 0, none⟩))), (fun _ v _ => v = (.pointer (some ⟨b, 0, none⟩))), (fun _ v _ => v = (.pointer (some ⟨b, 0, none⟩))), (fun _ v _ => v = (.slice (some ⟨g, off, none⟩) all.length c)), (fun _ v _ => v = (.pointer (some ⟨b, 0, none⟩))), (fun _ v _ => v = (.pointer (some ⟨b, 0, none⟩))), (fun _ v _ => v = (.pointer (some ⟨b, 1, none⟩))), (fun _ v _ => v = (.int .i64 (i : Int))), (fun _ v w1 => ∃ (cs : List Value) (j d : Nat) (q : List Tok), v = .tuple #[.agg cs.toArray, .int .i64 (j : Int), .int .i64 (d : Int)] ∧ all.drop j = q ∧ j + q.length = all.length ∧ EndR q ∧ RdG (fun k => B + 1 ≤ k) w1 trC [.string ⟨#[]⟩, .slice none 0 0, .bool false] (typP 24 r) cs d q), (fun ys v w1 => (fun (y21 : Value) => v = y21 ∧ ∃ (cs : Array Value) (j d : Nat), v = .tuple #[.agg cs, .int .i64 (j : Int), .int .i64 (d : Int)]) (ys.getD 0 undef)), (fun ys v w1 => (fun (y12 : Value) => ∃ (cs : Array Value) (j d : Nat), y12 = .tuple #[.agg cs, .int .i64 (j : Int), .int .i64 (d : Int)] ∧ v = .agg cs) (ys.getD 0 undef)), (fun ys v w1 => (fun (y12 : Value) => ∃ (cs : Array Value) (j d : Nat), y12 = .tuple #[.agg cs, .int .i64 (j : Int), .int .i64 (d : Int)] ∧ v = .int .i64 (j : Int)) (ys.getD 0 undef)), (fun ys v w1 => (fun (y12 : Value) => ∃ (cs : Array Value) (j d : Nat), y12 = .tuple #[.agg cs, .int .i64 (j : Int), .int .i64 (d : Int)] ∧ v = .int .i64 (d : Int)) (ys.getD 0 undef)), (fun _ v wv => ∃ X, v = .pointer (some ⟨X, 0, none⟩) ∧ B < X ∧ wv.heap[X]? = some (.cells [.string ⟨#[]⟩, .slice none 0 0, .bool false].toArray 40 (0, 0))), (fun ys v w1 => (fun (y3 : Value) (y22 : Value) => ∃ (X : Nat) (cs : Array Value), y3 = .pointer (some ⟨X, 0, none⟩) ∧ y22 = .agg cs ∧ w1.heap[X]? = some (.cells cs 40 (0, 0))) (ys.getD 0 undef) (ys.getD 1 undef)), (fun ys v w1 => (fun (y23 : Value) => v = y23) (ys.getD 0 undef))] rfl 14 13 8 [11, 12, 15] (by kernel_rfl) (by kernel_rfl) (fun _ v w1 => ∃ X, v = .pointer (some ⟨X, 0, none⟩) ∧ B < X) (fun _ v w1 => ∃ (cs : List Value) (j d : Nat) (q : List Tok), v = .tuple #[.agg cs.toArray, .int .i64 (j : Int), .int .i64 (d : Int)] ∧ all.drop j = q ∧ j + q.length = all.length ∧ EndR q ∧ RdG (fun k => B + 1 ≤ k) w1 trC [.string ⟨#[]⟩, .slice none 0 0, .bool false] (typP 24 r) cs d q) (fun u v w1 => ∃ (X : Nat) (cs : List Value) (j d : Nat) (q : List Tok), u = .pointer (some ⟨X, 0, none⟩) ∧ v = .tuple #[.agg cs.toArray, .int .i64 (j : Int), .int .i64 (d : Int)] ∧ all.drop j = q ∧ j + q.length = all.length ∧ EndR q ∧ B < X ∧ w1.heap[X]? = some (.cells [.string ⟨#[]⟩, .slice none 0 0, .bool false].toArray 40 (0, 0)) ∧ RdG (fun k => B + 1 ≤ k ∧ k ≠ X) w1 trC [.string ⟨#[]⟩, .slice none 0 0, .bool false] (typP 24 r) cs d q) _ rfl _ rfl ⟨?_, ?_, ?_, ?_, ?_, ?_, ?_, ?_, ?_, ?_, ?_, ?_, ?_, ?_, ?_, ?_, trivial⟩ ?_ ?_ ?_ ⟨?_, ?_, ?_, ?_, ?_, ?_, ?_, ?_, ?_, ?_, ?_, ?_, ?_, ?_, ?_, ?_, trivial⟩ ⟨?_, ?_, ?_, ?_, ?_, ?_, ?_, ?_, ?_, ?_, ?_, ?_, ?_, ?_, ?_, ?_, trivial⟩ ?_ ?_
    · rw [if_neg (by decide)]; intro ys v w1 w2 h ho; exact h
    · rw [if_neg (by decide)]; intro ys v w1 w2 h ho; exact h
    · rw [if_neg (by decide)]; intro ys v w1 w2 h ho; exact h
    · rw [if_neg (by decide)]; intro ys v w1 w2 h ho; exact h
    · rw [if_neg (by decide)]; intro ys v w1 w2 h ho; exact h
    · rw [if_neg (by decide)]; intro ys v w1 w2 h ho; exact h
    · rw [if_neg (by decide)]; intro ys v w1 w2 h ho; exact h
    · rw [if_neg (by decide)]; intro ys v w1 w2 h ho; exact h
    · rw [if_pos (by decide)]; intro ys v w1 w2 h ho; exact (by obtain ⟨cs, j, d, q, e1, e2, e3, e4, e5⟩ := h; exact ⟨cs, j, d, q, e1, e2, e3, e4, e5.only ho (fun _ _ h => h)⟩)
    · rw [if_neg (by decide)]; intro ys v w1 w2 h ho; exact h
    · rw [if_neg (by decide)]; intro ys v w1 w2 h ho; exact h
    · rw [if_neg (by decide)]; intro ys v w1 w2 h ho; exact h
    · rw [if_neg (by decide)]; intro ys v w1 w2 h ho; exact h
    · rw [if_pos (by decide)]; intro ys v w1 w2 h ho; exact (by obtain ⟨X, e, hX, hc⟩ := h; exact ⟨X, e, hX, (ho.block X (Array.getElem?_eq_some_iff.1 hc).1 (fun h => h)).trans hc⟩)
    · rw [if_pos (by decide)]; intro ys v w1 w2 h ho; exact (by obtain ⟨X, cs, e1, e2, e3⟩ := h; exact ⟨X, cs, e1, e2, (ho.block X (Array.getElem?_eq_some_iff.1 e3).1 (fun h => h)).trans e3⟩)
    · rw [if_neg (by decide)]; intro ys v w1 w2 h ho; exact h
    · intro ys v w1 w2 h ho; exact (by exact h)
    · intro ys v w1 w2 h ho; exact (by obtain ⟨cs, j, d, q, e1, e2, e3, e4, e5⟩ := h; exact ⟨cs, j, d, q, e1, e2, e3, e4, e5.only ho (fun _ _ h => h)⟩)
    · intro u v w1 w2 h ho; exact (by obtain ⟨X, cs, j, d, q, e0, e1, e2, e3, e4, e5, e6, e7⟩ := h; exact ⟨X, cs, j, d, q, e0, e1, e2, e3, e4, e5, (ho.block X (Array.getElem?_eq_some_iff.1 e6).1 (fun h => h)).trans e6, e7.only ho (fun _ _ h => h)⟩)
    · rw [if_neg (by decide)]; intro x wx ox hN TT HTT
      clear hN
      unfold StepTo
      simp only [putAll, Act.put, List.setIfInBounds_toArray, List.set_cons_succ, List.set_cons_zero]
      go_wp2_with fail
      exact ⟨rfl, _, rfl, HTT.out _ _ (rfl) (Only.refl _ _) ((if_neg (by decide)).mpr ((if_neg (by decide)).mpr trivial))⟩
    · rw [if_neg (by decide)]; intro x wx ox hN TT HTT
      have r13 : x 0 = (.pointer (some ⟨b, 0, none⟩)) := hN.1 rfl
      clear hN
      unfold StepTo
      simp only [putAll, Act.put, List.setIfInBounds_toArray, List.set_cons_succ, List.set_cons_zero, r13]
      clear r13
      go_wp2_with fail
      exact ⟨rfl, _, rfl, HTT.out _ _ (rfl) (Only.refl _ _) ((if_neg (by decide)).mpr ((if_neg (by decide)).mpr trivial))⟩
    · rw [if_neg (by decide)]; intro x wx ox hN TT HTT
      have r14 : x 1 = (.pointer (some ⟨b, 0, none⟩)) := hN.1 rfl
      clear hN
      unfold StepTo
      simp only [putAll, Act.put, List.setIfInBounds_toArray, List.set_cons_succ, List.set_cons_zero, r14]
      clear r14
      go_wp2_with fail
      exact ⟨rfl, _, rfl, HTT.out _ _ (rfl) (Only.refl _ _) ((if_neg (by decide)).mpr ((if_neg (by decide)).mpr trivial))⟩
    · rw [if_neg (by decide)]; intro x wx ox hN TT HTT
      have r15 : x 2 = (.pointer (some ⟨b, 0, none⟩)) := hN.1 rfl
      clear hN
      unfold StepTo
      simp only [putAll, Act.put, List.setIfInBounds_toArray, List.set_cons_succ, List.set_cons_zero, r15]
      clear r15
      obtain ⟨c0, c1, c2, fz⟩ := CF.out wx (O0.out.trans (((Only.refl _ w0).drew).trans ox))
      go_wp2_with fail
      exact ⟨rfl, _, rfl, HTT.out _ _ (rfl) (Only.refl _ _) ((if_neg (by decide)).mpr ((if_neg (by decide)).mpr trivial))⟩
    · rw [if_neg (by decide)]; intro x wx ox hN TT HTT
      clear hN
      unfold StepTo
      simp only [putAll, Act.put, List.setIfInBounds_toArray, List.set_cons_succ, List.set_cons_zero]
      go_wp2_with fail
      exact ⟨rfl, _, rfl, HTT.out _ _ (rfl) (Only.refl _ _) ((if_neg (by decide)).mpr ((if_neg (by decide)).mpr trivial))⟩
    · rw [if_neg (by decide)]; intro x wx ox hN TT HTT
      have r17 : x 4 = (.pointer (some ⟨b, 0, none⟩)) := hN.1 rfl
      clear hN
      unfold StepTo
      simp only [putAll, Act.put, List.setIfInBounds_toArray, List.set_cons_succ, List.set_cons_zero, r17]
      clear r17
      go_wp2_with fail
      exact ⟨rfl, _, rfl, HTT.out _ _ (rfl) (Only.refl _ _) ((if_neg (by decide)).mpr ((if_neg (by decide)).mpr trivial))⟩
    · rw [if_neg (by decide)]; intro x wx ox hN TT HTT
      have r18 : x 5 = (.pointer (some ⟨b, 0, none⟩)) := hN.1 rfl
      clear hN
      unfold StepTo
      simp only [putAll, Act.put, List.setIfInBounds_toArray, List.set_cons_succ, List.set_cons_zero, r18]
      clear r18
      go_wp2_with fail
      exact ⟨rfl, _, rfl, HTT.out _ _ (rfl) (Only.refl _ _) ((if_neg (by decide)).mpr ((if_neg (by decide)).mpr trivial))⟩
    · rw [if_neg (by decide)]; intro x wx ox hN TT HTT
      have r19 : x 6 = (.pointer (some ⟨b, 1, none⟩)) := hN.1 rfl
      clear hN
      unfold StepTo
      simp only [putAll, Act.put, List.setIfInBounds_toArray, List.set_cons_succ, List.set_cons_zero, r19]
      clear r19
      obtain ⟨c0, c1, c2, fz⟩ := CF.out wx (O0.out.trans (((Only.refl _ w0).drew).trans ox))
      go_wp2_with fail
      exact ⟨rfl, _, rfl, HTT.out _ _ (rfl) (Only.refl _ _) ((if_neg (by decide)).mpr ((if_neg (by decide)).mpr trivial))⟩
    · rw [if_neg (by decide)]; intro x wx ox hN TT HTT
      have r16 : x 3 = (.slice (some ⟨g, off, none⟩) all.length c) := hN.1 rfl
      have r20 : x 7 = (.int .i64 (i : Int)) := hN.2.1 rfl
      clear hN
      unfold StepTo
      simp only [putAll, Act.put, List.setIfInBounds_toArray, List.set_cons_succ, List.set_cons_zero, r16, r20]
      clear r16 r20
      have ow := O0.out.trans (((Only.refl _ w0).drew).trans ox)
      have hsx : B + 1 ≤ wx.heap.size := by have h1 : w0.heap.size ≤ wx.heap.size := ox.size; have h2 := HS0.out; omega
      have J := Lib.hid (JJ.out wx ow)
      clear ow
      go_wp2_with fail
      refine J.out.mono ?_
      rintro e w3 ⟨cs, j, d, q, rfl, o3, k1, k2, k3, k4⟩
      have K := Lib.hid (show (∃ (cs' : List Value) (j' d' : Nat) (q' : List Tok), Value.tuple #[.agg cs.toArray, .int .i64 (j : Int), .int .i64 (d : Int)] = .tuple #[.agg cs'.toArray, .int .i64 (j' : Int), .int .i64 (d' : Int)] ∧ all.drop j' = q' ∧ j' + q'.length = all.length ∧ EndR q' ∧ RdG (fun k => B + 1 ≤ k) w3 trC [.string ⟨#[]⟩, .slice none 0 0, .bool false] (typP 24 r) cs' d' q') ∧ ∀ y : Value, (∃ X, y = .pointer (some ⟨X, 0, none⟩) ∧ B < X ∧ wx.heap[X]? = some (.cells [.string ⟨#[]⟩, .slice none 0 0, .bool false].toArray 40 (0, 0))) → ∃ (X : Nat) (cs' : List Value) (j' d' : Nat) (q' : List Tok), y = .pointer (some ⟨X, 0, none⟩) ∧ Value.tuple #[.agg cs.toArray, .int .i64 (j : Int), .int .i64 (d : Int)] = .tuple #[.agg cs'.toArray, .int .i64 (j' : Int), .int .i64 (d' : Int)] ∧ all.drop j' = q' ∧ j' + q'.length = all.length ∧ EndR q' ∧ B < X ∧ w3.heap[X]? = some (.cells [.string ⟨#[]⟩, .slice none 0 0, .bool false].toArray 40 (0, 0)) ∧ RdG (fun k => B + 1 ≤ k ∧ k ≠ X) w3 trC [.string ⟨#[]⟩, .slice none 0 0, .bool false] (typP 24 r) cs' d' q' from
        ⟨⟨cs, j, d, q, rfl, k1, k2, k3, k4.g (fun k hk => by omega)⟩, fun y ⟨X, e1, e2, e3⟩ => ⟨X, cs, j, d, q, e1, rfl, k1, k2, k3, e2, (o3.block X (Array.getElem?_eq_some_iff.1 e3).1 (fun h => h)).trans e3, k4.g (fun k hk => by have := (Array.getElem?_eq_some_iff.1 e3).1; exact ⟨by omega, by omega⟩)⟩⟩)
      have O3 := Lib.hid o3
      clear k1 k2 k3 k4 o3
      go_wp2_with fail
      exact ⟨rfl, _, rfl, HTT.out _ _ (K.out.1) (O3.out) ((if_neg (by decide)).mpr ((if_pos (by decide)).mpr (fun y ys hy => K.out.2 y hy)))⟩
    · rw [if_neg (by decide)]; intro x wx ox hN TT HTT
      have r21 : (fun (v : Value) (w1 : World) => ∃ (cs : List Value) (j d : Nat) (q : List Tok), v = .tuple #[.agg cs.toArray, .int .i64 (j : Int), .int .i64 (d : Int)] ∧ all.drop j = q ∧ j + q.length = all.length ∧ EndR q ∧ RdG (fun k => B + 1 ≤ k) w1 trC [.string ⟨#[]⟩, .slice none 0 0, .bool false] (typP 24 r) cs d q) (x 8) wx := hN.1 rfl
      clear hN
      unfold StepTo
      simp only [putAll, Act.put, List.setIfInBounds_toArray, List.set_cons_succ, List.set_cons_zero]
      obtain ⟨cs, j, d, q, e1, -⟩ := r21
      rw [e1]
      have E1 := Lib.hid e1; clear e1
      go_wp2_with fail
      exact ⟨rfl, _, rfl, HTT.out _ _ (⟨E1.out.symm, _, _, _, rfl⟩) (Only.refl _ _) ((if_neg (by decide)).mpr ((if_neg (by decide)).mpr trivial))⟩
    · rw [if_neg (by decide)]; intro x wx ox hN TT HTT
      have r12 : (fun (y21 : Value) (v : Value) (w1 : World) => v = y21 ∧ ∃ (cs : Array Value) (j d : Nat), v = .tuple #[.agg cs, .int .i64 (j : Int), .int .i64 (d : Int)]) (x 8) (x 9) wx := hN.1 rfl
      clear hN
      unfold StepTo
      simp only [putAll, Act.put, List.setIfInBounds_toArray, List.set_cons_succ, List.set_cons_zero]
      obtain ⟨-, cs, j, d, e1⟩ := r12
      have E1 := Lib.hid e1
      rw [e1]; clear e1
      go_wp2_with fail
      exact ⟨rfl, _, rfl, HTT.out _ _ (⟨cs, j, d, E1.out, rfl⟩) (Only.refl _ _) ((if_neg (by decide)).mpr ((if_neg (by decide)).mpr trivial))⟩
    · rw [if_pos (by decide)]; trivial
    · rw [if_pos (by decide)]; trivial
    · rw [if_neg (by decide)]; intro x wx ox hN TT HTT
      clear hN
      unfold StepTo
      simp only [putAll, Act.put, List.setIfInBounds_toArray, List.set_cons_succ, List.set_cons_zero]
      go_wp2_with fail
      exact ⟨rfl, _, rfl, HTT.out _ _ (⟨wx.heap.size, rfl, (by have h1 : w0.heap.size ≤ wx.heap.size := ox.size; have h2 := HS0.out; omega), heap_new wx _⟩) ((Only.refl _ _).alloc _) ((if_pos (by decide)).mpr (fun y ys hy => (by obtain ⟨cs, j, d, q, e1, e2, e3, e4, e5⟩ := hy; exact ⟨wx.heap.size, cs, j, d, q, rfl, e1, e2, e3, e4, (by have h1 : w0.heap.size ≤ wx.heap.size := ox.size; have h2 := HS0.out; omega), heap_new wx _, (e5.weaken (G' := fun k => B + 1 ≤ k ∧ k ≠ wx.heap.size) (fun k hk h => ⟨h, by omega⟩)).only ((Only.refl (fun _ => False) wx).alloc _) (fun _ _ h => h)⟩)))⟩
    · rw [if_pos (by decide)]; trivial
    · rw [if_pos (by decide)]; trivial
    · rw [if_neg (by decide)]; trivial
    · rw [if_neg (by decide)]; trivial
    · rw [if_neg (by decide)]; trivial
    · rw [if_neg (by decide)]; trivial
    · rw [if_neg (by decide)]; trivial
    · rw [if_neg (by decide)]; trivial
    · rw [if_neg (by decide)]; trivial
    · rw [if_neg (by decide)]; trivial
    · rw [if_neg (by decide)]; trivial
    · rw [if_neg (by decide)]; trivial
    · rw [if_neg (by decide)]; trivial
    · rw [if_pos (by decide)]; intro x wx ox hN TT HTT
      have r12 : (fun (y21 : Value) (v : Value) (w1 : World) => v = y21 ∧ ∃ (cs : Array Value) (j d : Nat), v = .tuple #[.agg cs, .int .i64 (j : Int), .int .i64 (d : Int)]) (x 8) (x 9) wx := hN.1 rfl
      clear hN
      unfold StepTo
      simp only [putAll, Act.put, List.setIfInBounds_toArray, List.set_cons_succ, List.set_cons_zero]
      obtain ⟨-, cs, j, d, e1⟩ := r12
      have E1 := Lib.hid e1
      rw [e1]; clear e1
      go_wp2_with fail
      exact ⟨rfl, _, rfl, HTT.out _ _ (⟨cs, j, d, E1.out, rfl⟩) (Only.refl _ _)⟩
    · rw [if_pos (by decide)]; intro x wx ox hN TT HTT
      have r12 : (fun (y21 : Value) (v : Value) (w1 : World) => v = y21 ∧ ∃ (cs : Array Value) (j d : Nat), v = .tuple #[.agg cs, .int .i64 (j : Int), .int .i64 (d : Int)]) (x 8) (x 9) wx := hN.1 rfl
      clear hN
      unfold StepTo
      simp only [putAll, Act.put, List.setIfInBounds_toArray, List.set_cons_succ, List.set_cons_zero]
      obtain ⟨-, cs, j, d, e1⟩ := r12
      have E1 := Lib.hid e1
      rw [e1]; clear e1
      go_wp2_with fail
      exact ⟨rfl, _, rfl, HTT.out _ _ (⟨cs, j, d, E1.out, rfl⟩) (Only.refl _ _)⟩
    · rw [if_neg (by decide)]; trivial
    · rw [if_neg (by decide)]; trivial
    · rw [if_pos (by decide)]; intro x wx ox hN TT HTT
      have r23 : (fun (y12 : Value) (v : Value) (w1 : World) => ∃ (cs : Array Value) (j d : Nat), y12 = .tuple #[.agg cs, .int .i64 (j : Int), .int .i64 (d : Int)] ∧ v = .int .i64 (j : Int)) (x 9) (x 11) wx := hN.1 rfl
      have rN : (fun (y3 : Value) (y22 : Value) (v : Value) (w1 : World) => ∃ (X : Nat) (cs : Array Value), y3 = .pointer (some ⟨X, 0, none⟩) ∧ y22 = .agg cs ∧ w1.heap[X]? = some (.cells cs 40 (0, 0))) (x 13) (x 10) (x 14) wx := hN.2.1 rfl
      have r13 : x 0 = (.pointer (some ⟨b, 0, none⟩)) := hN.2.2.1 rfl
      have r14 : x 1 = (.pointer (some ⟨b, 0, none⟩)) := hN.2.2.2.1 rfl
      have r15 : x 2 = (.pointer (some ⟨b, 0, none⟩)) := hN.2.2.2.2.1 rfl
      have r16 : x 3 = (.slice (some ⟨g, off, none⟩) all.length c) := hN.2.2.2.2.2.1 rfl
      have r17 : x 4 = (.pointer (some ⟨b, 0, none⟩)) := hN.2.2.2.2.2.2.1 rfl
      have r18 : x 5 = (.pointer (some ⟨b, 0, none⟩)) := hN.2.2.2.2.2.2.2.1 rfl
      have r19 : x 6 = (.pointer (some ⟨b, 1, none⟩)) := hN.2.2.2.2.2.2.2.2.1 rfl
      have r20 : x 7 = (.int .i64 (i : Int)) := hN.2.2.2.2.2.2.2.2.2.1 rfl
      have r21 : (fun (v : Value) (w1 : World) => ∃ (cs : List Value) (j d : Nat) (q : List Tok), v = .tuple #[.agg cs.toArray, .int .i64 (j : Int), .int .i64 (d : Int)] ∧ all.drop j = q ∧ j + q.length = all.length ∧ EndR q ∧ RdG (fun k => B + 1 ≤ k) w1 trC [.string ⟨#[]⟩, .slice none 0 0, .bool false] (typP 24 r) cs d q) (x 8) wx := hN.2.2.2.2.2.2.2.2.2.2.1 rfl
      have r12 : (fun (y21 : Value) (v : Value) (w1 : World) => v = y21 ∧ ∃ (cs : Array Value) (j d : Nat), v = .tuple #[.agg cs, .int .i64 (j : Int), .int .i64 (d : Int)]) (x 8) (x 9) wx := hN.2.2.2.2.2.2.2.2.2.2.2.1 rfl
      have r22 : (fun (y12 : Value) (v : Value) (w1 : World) => ∃ (cs : Array Value) (j d : Nat), y12 = .tuple #[.agg cs, .int .i64 (j : Int), .int .i64 (d : Int)] ∧ v = .agg cs) (x 9) (x 10) wx := hN.2.2.2.2.2.2.2.2.2.2.2.2.1 rfl
      have r3 : (fun (v : Value) (w1 : World) => ∃ X, v = .pointer (some ⟨X, 0, none⟩) ∧ B < X) (x 13) wx := hN.2.2.2.2.2.2.2.2.2.2.2.2.2.2.2.1 rfl
      clear hN
      unfold StepTo
      simp only [putAll, Act.put, List.setIfInBounds_toArray, List.set_cons_succ, List.set_cons_zero, r13, r14, r15, r16, r17, r18, r19, r20]
      clear r13 r14 r15 r16 r17 r18 r19 r20
      obtain ⟨cs, j, d, e1, e2⟩ := r23
      rw [e2]
      have E2 := Lib.hid e2; clear e2
      go_wp2_with fail
      exact ⟨rfl, _, rfl, HTT.out _ _ (E2.out.symm) (Only.refl _ _)⟩
    · intro x wx ox hN hPR TT HTT
      have r3 : (fun (v : Value) (wv : World) => ∃ X, v = .pointer (some ⟨X, 0, none⟩) ∧ B < X ∧ wv.heap[X]? = some (.cells [.string ⟨#[]⟩, .slice none 0 0, .bool false].toArray 40 (0, 0))) (x 13) wx := hN.1 rfl
      have r22 : (fun (y12 : Value) (v : Value) (w1 : World) => ∃ (cs : Array Value) (j d : Nat), y12 = .tuple #[.agg cs, .int .i64 (j : Int), .int .i64 (d : Int)] ∧ v = .agg cs) (x 9) (x 10) wx := hN.2.1 rfl
      have r21 : (fun (v : Value) (w1 : World) => ∃ (cs : List Value) (j d : Nat) (q : List Tok), v = .tuple #[.agg cs.toArray, .int .i64 (j : Int), .int .i64 (d : Int)] ∧ all.drop j = q ∧ j + q.length = all.length ∧ EndR q ∧ RdG (fun k => B + 1 ≤ k) w1 trC [.string ⟨#[]⟩, .slice none 0 0, .bool false] (typP 24 r) cs d q) (x 8) wx := hN.2.2.1 rfl
      have r13 : x 0 = (.pointer (some ⟨b, 0, none⟩)) := hN.2.2.2.1 rfl
      have r14 : x 1 = (.pointer (some ⟨b, 0, none⟩)) := hN.2.2.2.2.1 rfl
      have r15 : x 2 = (.pointer (some ⟨b, 0, none⟩)) := hN.2.2.2.2.2.1 rfl
      have r16 : x 3 = (.slice (some ⟨g, off, none⟩) all.length c) := hN.2.2.2.2.2.2.1 rfl
      have r17 : x 4 = (.pointer (some ⟨b, 0, none⟩)) := hN.2.2.2.2.2.2.2.1 rfl
      have r18 : x 5 = (.pointer (some ⟨b, 0, none⟩)) := hN.2.2.2.2.2.2.2.2.1 rfl
      have r19 : x 6 = (.pointer (some ⟨b, 1, none⟩)) := hN.2.2.2.2.2.2.2.2.2.1 rfl
      have r20 : x 7 = (.int .i64 (i : Int)) := hN.2.2.2.2.2.2.2.2.2.2.1 rfl
      have r12 : (fun (y21 : Value) (v : Value) (w1 : World) => v = y21 ∧ ∃ (cs : Array Value) (j d : Nat), v = .tuple #[.agg cs, .int .i64 (j : Int), .int .i64 (d : Int)]) (x 8) (x 9) wx := hN.2.2.2.2.2.2.2.2.2.2.2.2.1 rfl
      clear hN
      unfold StepTo
      simp only [putAll, Act.put, List.setIfInBounds_toArray, List.set_cons_succ, List.set_cons_zero, r13, r14, r15, r16, r17, r18, r19, r20]
      clear r13 r14 r15 r16 r17 r18 r19 r20
      obtain ⟨X, cs, j, d, q, n0, n1, n2, n3, n4, n5, n6, n7⟩ := hPR
      obtain ⟨cs2, j2, d2, f1, f2⟩ := r22
      obtain ⟨f3, -⟩ := r12
      have hcs := (agg_inj (f1.symm.trans (f3.trans n1))).1
      subst hcs
      obtain ⟨st, at1, lt1, et1, bt1, rfl⟩ := trJ_of n7
      have f2 : x 10 = .agg #[.string ⟨st.toArray⟩, .slice at1 lt1 et1, .bool bt1] := f2
      have E0 := Lib.hid n0; have F2 := Lib.hid f2; have E6 := Lib.hid n6; have KK := Lib.hid (And.intro n1 (And.intro n2 (And.intro n3 (And.intro n4 (And.intro n5 n7)))))
      rw [n0, f2]
      clear n0 n1 n2 n3 n4 n6 n7 f1 f2 f3
      go_wp2_with ((refine wpList_store_box (o := ⟨none, _, _, _, _, _⟩) rfl 40 (.tmp 3) (.tmp 22) (by rfl) X [.string ⟨#[]⟩, .slice none 0 0, .bool false] [.string ⟨st.toArray⟩, .slice at1 lt1 et1, .bool bt1] (by rfl) (by rfl) E6.out (by rfl) (by kernel_rfl) (by intro u hu; simp at hu; rcases hu with rfl | rfl | rfl <;> rfl) ?_; intro w9 k1 k2))
      obtain ⟨n1, n2, n3, n4, n5, n7⟩ := KK.out
      exact ⟨rfl, undef, rfl, HTT.out undef _ ⟨X, #[.string ⟨st.toArray⟩, .slice at1 lt1 et1, .bool bt1], E0.out, F2.out, k1⟩ (k2.mono (fun q hq h => by have h : q = X := h; omega)) ⟨X, E0.out, n5⟩ ⟨_, j, d, q, n1, n2, n3, n4, (n7.only k2 (fun k hk e => hk.2 e)).weaken (fun k _ hk => hk.1)⟩⟩
    intro xz wxz oxz hN
    have r13 : xz 0 = (.pointer (some ⟨b, 0, none⟩)) := hN.1
    have r14 : xz 1 = (.pointer (some ⟨b, 0, none⟩)) := hN.2.1
    have r15 : xz 2 = (.pointer (some ⟨b, 0, none⟩)) := hN.2.2.1
    have r16 : xz 3 = (.slice (some ⟨g, off, none⟩) all.length c) := hN.2.2.2.1
    have r17 : xz 4 = (.pointer (some ⟨b, 0, none⟩)) := hN.2.2.2.2.1
    have r18 : xz 5 = (.pointer (some ⟨b, 0, none⟩)) := hN.2.2.2.2.2.1
    have r19 : xz 6 = (.pointer (some ⟨b, 1, none⟩)) := hN.2.2.2.2.2.2.1
    have r20 : xz 7 = (.int .i64 (i : Int)) := hN.2.2.2.2.2.2.2.1
    have r21 : (fun (v : Value) (w1 : World) => ∃ (cs : List Value) (j d : Nat) (q : List Tok), v = .tuple #[.agg cs.toArray, .int .i64 (j : Int), .int .i64 (d : Int)] ∧ all.drop j = q ∧ j + q.length = all.length ∧ EndR q ∧ RdG (fun k => B + 1 ≤ k) w1 trC [.string ⟨#[]⟩, .slice none 0 0, .bool false] (typP 24 r) cs d q) (xz 8) wxz := hN.2.2.2.2.2.2.2.2.1
    have r12 : (fun (y21 : Value) (v : Value) (w1 : World) => v = y21 ∧ ∃ (cs : Array Value) (j d : Nat), v = .tuple #[.agg cs, .int .i64 (j : Int), .int .i64 (d : Int)]) (xz 8) (xz 9) wxz := hN.2.2.2.2.2.2.2.2.2.1
    have r22 : (fun (y12 : Value) (v : Value) (w1 : World) => ∃ (cs : Array Value) (j d : Nat), y12 = .tuple #[.agg cs, .int .i64 (j : Int), .int .i64 (d : Int)] ∧ v = .agg cs) (xz 9) (xz 10) wxz := hN.2.2.2.2.2.2.2.2.2.2.1
    have r23 : (fun (y12 : Value) (v : Value) (w1 : World) => ∃ (cs : Array Value) (j d : Nat), y12 = .tuple #[.agg cs, .int .i64 (j : Int), .int .i64 (d : Int)] ∧ v = .int .i64 (j : Int)) (xz 9) (xz 11) wxz := hN.2.2.2.2.2.2.2.2.2.2.2.1
    have r24 : (fun (y12 : Value) (v : Value) (w1 : World) => ∃ (cs : Array Value) (j d : Nat), y12 = .tuple #[.agg cs, .int .i64 (j : Int), .int .i64 (d : Int)] ∧ v = .int .i64 (d : Int)) (xz 9) (xz 12) wxz := hN.2.2.2.2.2.2.2.2.2.2.2.2.1
    have r3 : (fun (v : Value) (w1 : World) => ∃ X, v = .pointer (some ⟨X, 0, none⟩) ∧ B < X) (xz 13) wxz := hN.2.2.2.2.2.2.2.2.2.2.2.2.2.1
    have rN : (fun (y3 : Value) (y22 : Value) (v : Value) (w1 : World) => ∃ (X : Nat) (cs : Array Value), y3 = .pointer (some ⟨X, 0, none⟩) ∧ y22 = .agg cs ∧ w1.heap[X]? = some (.cells cs 40 (0, 0))) (xz 13) (xz 10) (xz 14) wxz := hN.2.2.2.2.2.2.2.2.2.2.2.2.2.2.1
    have r4 : (fun (y23 : Value) (v : Value) (w1 : World) => v = y23) (xz 11) (xz 15) wxz := hN.2.2.2.2.2.2.2.2.2.2.2.2.2.2.2.1
    clear hN
    simp only [putAll, Act.put, List.setIfInBounds_toArray, List.set_cons_succ, List.set_cons_zero, r13, r14, r15, r16, r17, r18, r19, r20]
    clear r13 r14 r15 r16 r17 r18 r19 r20
    obtain ⟨X, cs0, e1, e2, e3⟩ := rN
    obtain ⟨cs, j, d, q, f1, f2, f3, f4, f5⟩ := r21
    obtain ⟨f6, -⟩ := r12
    obtain ⟨c1, j1, d1, g1, g2⟩ := r22
    obtain ⟨c2, j2, d2, g3, g4⟩ := r23
    obtain ⟨c3, j3, d3, g5, g6⟩ := r24
    obtain ⟨X', e4, hBX⟩ := r3
    have hXX : X' = X := by rw [e1] at e4; injection e4 with e4; injection e4 with e4; injection e4 with e4; exact e4.symm
    subst hXX
    have k1 := (agg_inj (g1.symm.trans (f6.trans f1))).1
    have k2 := (agg_inj (g3.symm.trans (f6.trans f1))).2.1
    have k3 := (agg_inj (g5.symm.trans (f6.trans f1))).2.2
    subst k1; subst k2; subst k3
    have k4 : cs0 = cs.toArray := by rw [g2] at e2; injection e2 with e2; exact e2.symm
    subst k4
    have h4' : xz 15 = .int .i64 (j2 : Int) := r4.trans g4
    rw [e1, h4', g6]
    obtain ⟨st, at1, lt1, et1, bt1, rfl⟩ := trJ_of f5
    have oz : Only (fun q => B < q) w0 wxz := ((Only.refl _ w0).drew).trans oxz
    have h1z := (oz.block b (by have := HS0.out; omega) (by omega)).trans ((O0.out.block b hbl (fun h => h)).trans H1.out)
    have hr0z := (oz.block B (by have := HS0.out; omega) (by omega)).trans HR0.out
    obtain ⟨wS, hwS⟩ : ∃ x, (wxz.setCell ⟨b, 1, none⟩ (.int .i64 (j2 : Int))).setCell ⟨b, 2, none⟩ (.int .i64 (d3 : Int)) = x := ⟨_, rfl⟩
    have oS : Only (fun k => k = b) wxz wS := by rw [← hwS]; exact ((Only.refl (fun k => k = b) wxz).setCell (p := ⟨b, 1, none⟩) (.inl rfl) _).setCell (p := ⟨b, 2, none⟩) (.inl rfl) _
    have h1S : wS.heap[b]? = some (.cells #[.slice (some ⟨g, off, none⟩) all.length c, .int .i64 (j2 : Int), .int .i64 (d3 : Int)] 48 (0, 0)) := by
      rw [← hwS]
      have := heap_set (o := 2) (heap_set (o := 1) h1z (.int .i64 (j2 : Int))) (.int .i64 (d3 : Int))
      simpa using this
    have hOall : Only (fun k => k = b) w wS := ((O0.out.mono (T := fun k => k = b) (fun _ _ h => h.elim)).trans' oz (fun q hq h => by have := HB.out; omega)).trans oS
    have hRS : RdS wS b all q (d3 : Int) := HH.out.set H1.out (fun _ => True) hOall h1S f2 f3 f4
    have hSd : Sd wS b all (typP 24 r).unit := ⟨q, d3, hRS, f5.st HZ.out⟩
    have hXS := (oS.block X' (Array.getElem?_eq_some_iff.1 e3).1 (by omega)).trans e3
    have hBS := (oS.block B (Array.getElem?_eq_some_iff.1 hr0z).1 (by omega)).trans hr0z
    have hagg : ∀ w9, Only (fun k => k = B) wS w9 → ∀ x q', typP 24 r = .ok x q' → aggP w.heap.size trC w9 x (.agg #[.string ⟨st.toArray⟩, .slice at1 lt1 et1, .bool bt1]) := fun w9 o9 x q' hx => by
      rw [hx] at f5
      exact ⟨_, rfl, CellsAt.weaken (fun k _ hk => by have hk : B + 1 ≤ k := hk; show w.heap.size ≤ k; have := HB.out; omega) _ _ (CellsAt.only o9 (fun k hk e => by have hk : B + 1 ≤ k := hk; have e : k = B := e; omega) _ _ (CellsAt.only oS (fun k hk e => by have hk : B + 1 ≤ k := hk; have e : k = b := e; omega) _ _ f5.2.2))⟩
    obtain ⟨b0, b1, b2, bz⟩ := boxN3 h1z
    obtain ⟨y0, y1, y2, yz⟩ := boxN3 hXS
    have HSD := Lib.hid hSd; have HAG := Lib.hid hagg; have HBS := Lib.hid hBS; have HOA := Lib.hid hOall; have HWS := Lib.hid hwS; have HYY := Lib.hid (And.intro y0 (And.intro y1 y2))
    clear e1 e2 e3 e4 f1 f2 f3 f4 f5 f6 g1 g2 g3 g4 g5 g6 h4' oz hr0z h1S hRS hSd hXS hBS hagg oxz hOall h1z oS hwS b0 y0 y1 y2 yz r4
    go_upto_region 5 with (fail)
    rw [HWS.out]
    clear b1 b2 bz
    obtain ⟨y0, y1, y2⟩ := HYY.out
    go_wp2_with ((refine wpList_store_box (o := ⟨none, _, _, _, _, _⟩) rfl 40 (.tmp 2) (.tmp 33) (by rfl) B [.string ⟨#[]⟩, .slice none 0 0, .bool false] [.string ⟨st.toArray⟩, .slice at1 lt1 et1, .bool bt1] (by rfl) (by rfl) HBS.out (by rfl) (by kernel_rfl) (by intro u hu; simp at hu; rcases hu with rfl | rfl | rfl <;> rfl) ?_; intro w9 k1 k2))
    obtain ⟨z0, z1, z2, zz⟩ := boxN3 k1
    exact bodyPost_ret (v := .agg #[.string ⟨st.toArray⟩, .slice at1 lt1 et1, .bool bt1]) (by simp [results, Tryz.results47, go_sem, z0, z1, z2]) rfl (HPP.out w9 _ ⟨st, at1, lt1, et1, bt1, rfl⟩ (HSD.out.only k2 (fun k hk e => by omega)) (HAG.out w9 k2) (HOA.out.trans' k2 (fun q hq e => by have := HB.out; omega)))
  · have hne : ((e : Int) != 0) = true := by simp; omega
    have hst : stOf r e = .bad (atT r) e := st_bad he
    have HP : ∀ w' v, trJ v → Only (fun k => k = b) w w' → Sd w' b all (stOf r e) → SAns w b all (stOf r e) (fun w' x v => aggP w.heap.size trC w' x v) trJ (typP 24) (.returned v) w' := fun w' v q1 q2 q3 => ⟨v, rfl, q1, by rw [hst] at q3 ⊢; exact q3, fun x q hx => (by rw [hst] at hx; cases hx), q2⟩
    have HPP := Lib.hid HP; have HS := Lib.hid (show Sd w b all (stOf r e) from ⟨r, e, h, rfl⟩)
    clear HP h h1 h2 h4 cf fz hB hw0 hr0 o0 hs0 h5 hst he
    generalize (SAns w b all (stOf r e) (fun w' x v => aggP w.heap.size trC w' x v) trJ (typP 24)) = Q at *
    go_enter Tryz.func47, Tryz.ntmps47
    go_upto_region 1 with (fail)
    rw [HB.out, HW0.out]
    clear c0 c1 c2
    obtain ⟨c0, c1, c2, fz⟩ := CF.out w0 O0.out
    go_wp2_with ((refine wpList_store_box (o := ⟨none, _, _, _, _, _⟩) rfl 40 (.tmp 2) (.tmp 11) (by rfl) B [.string ⟨#[]⟩, .slice none 0 0, .bool false] [.string ⟨#[]⟩, .slice none 0 0, .bool false] (by rfl) (by rfl) HR0.out (by rfl) (by kernel_rfl) (by intro u hu; simp at hu; rcases hu with rfl | rfl | rfl <;> rfl) ?_; intro w9 k1 k2))
    obtain ⟨z0, z1, z2, zz⟩ := boxN3 k1
    have o9 := (O0.out.mono (T := fun k => k = b) (fun _ _ h => h.elim)).trans' k2 (fun q hq e => by have := HB.out; omega)
    exact bodyPost_ret (v := .agg #[.string ⟨#[]⟩, .slice none 0 0, .bool false]) (by simp [results, Tryz.results47, go_sem, z0, z1, z2]) rfl (HPP.out w9 _ ⟨[], none, 0, 0, false, rfl⟩ o9 ((HS.out.still O0.out).only k2 (fun k hk e => by omega)))
set_option maxRecDepth 100000 in
set_option maxHeartbeats 8000000 in
theorem sfixed_any (b : Nat) (all : List Tok) (σ : PR Unit) (w : World) (h : Sd w b all σ) :
    Calls Tryz.prog 48 #[.pointer (some ⟨b, 0, none⟩)] w (SAns w b all σ (fun w' x v => aggP w.heap.size valC w' x v) valJ (valueP true 24)) := by
  have hbl := h.lt
  obtain ⟨r, e, h, rfl⟩ := h
  obtain ⟨g, off, c, i, h1, h2, h3, h4, h5⟩ := h.row
  have hil : i < all.length := by have := h.ends; cases r with | nil => exact this.elim | cons t u => simp at h5; omega
  obtain ⟨c0, c1, c2, fz⟩ := boxN3 h1
  obtain ⟨B, hB⟩ : ∃ B, w.heap.size = B := ⟨_, rfl⟩
  obtain ⟨w0, hw0⟩ : ∃ w0, w.alloc (.cells #[.int .u8 0, .int .i64 0, .string ⟨#[]⟩, .slice none 0 0, .slice none 0 0] 37) = w0 := ⟨_, rfl⟩
  have hr0 : w0.heap[B]? = some (.cells #[.int .u8 0, .int .i64 0, .string ⟨#[]⟩, .slice none 0 0, .slice none 0 0] 37 (0, 0)) := by rw [← hw0, ← hB]; exact heap_new _ _
  have o0 : Only (fun _ => False) w w0 := by rw [← hw0]; exact (Only.refl _ w).alloc _
  have hs0 : w0.heap.size = B + 1 := by rw [← hw0, World.size_alloc, hB]
  have hbB : b < B := by omega
  have hgB : g < B := by omega
  have HB := Lib.hid hB; have HW0 := Lib.hid hw0; have HR0 := Lib.hid hr0; have O0 := Lib.hid o0; have HS0 := Lib.hid hs0
  have cf : ∀ w', Only (fun _ => False) w w' → w'.cell? ⟨b, 0, none⟩ = some (.slice (some ⟨g, off, none⟩) all.length c) ∧ w'.cell? ⟨b, 1, none⟩ = some (.int .i64 (i : Int)) ∧ w'.cell? ⟨b, 2, none⟩ = some (.int .i64 (e : Int)) ∧ ∀ o, w'.frozen? ⟨b, o, none⟩ = false := fun w' o => boxN3 ((o.block b hbl (fun h => h)).trans h1)
  have CF := Lib.hid cf
  by_cases he : e = 0
  · subst he
    have HZ := Lib.hid (nz_value true 24 r)
    have HH := Lib.hid h; have H1 := Lib.hid h1
    have J : ∀ w', Only (fun _ => False) w w' → Calls Tryz.prog 65 #[.slice (some ⟨g, off, none⟩) all.length c, .int .i64 (i : Int), .bool true] w' (RdRes w' all valC [.int .u8 0, .int .i64 0, .string ⟨#[]⟩, .slice none 0 0, .slice none 0 0] (valueP true 24 r)) := fun w' o => pV_any all r g off c i true w' (h2.still o) h4 h5 h.ends h.few
    have HP : ∀ w' v, valJ v → Sd w' b all (valueP true 24 r).unit → (∀ x q, valueP true 24 r = .ok x q → aggP w.heap.size valC w' x v) → Only (fun k => k = b) w w' → SAns w b all (stOf r 0) (fun w' x v => aggP w.heap.size valC w' x v) valJ (valueP true 24) (.returned v) w' := fun w' v q1 q2 q3 q4 => ⟨v, rfl, q1, q2, q3, q4⟩
    have HPP := Lib.hid HP; have JJ := Lib.hid J
    have HFW := Lib.hid h.few
    clear HP J h h1 h2 h4 cf fz hB hw0 hr0 o0 hs0 h5
    generalize (SAns w b all (stOf r 0) (fun w' x v => aggP w.heap.size valC w' x v) valJ (valueP true 24)) = Q at *
    go_enter Tryz.func48, Tryz.ntmps48
    go_upto_region 1 with (fail)
    rw [HB.out, HW0.out]
    clear c0 c1 c2
    obtain ⟨c0, c1, c2, fz⟩ := CF.out w0 O0.out
    go_upto_region 3 with (fail)
    clear c0 c1 c2 fz
    refine wp_region_pairs 16 (by kernel_rfl) rfl (by kernel_rfl) [some 13, some 14, some 15, some 16, some 17, some 18, some 19, some 20, some 21, some 12, some 22, some 23, some 24, some 3, none, some 4] rfl rfl (fun _ => False) (fun q => B < q) (fun _ h => h.elim) [[], [], [], [], [], [], [], [], [], [8], [9], [9], [9], [], [13, 10], [11]] rfl (by kernel_rfl) [(fun _ v _ => v = (.pointer (some ⟨b, 0, none⟩))), (fun _ v _ => v = (.pointer (some ⟨b, 0, none⟩))), (fun _ v _ => v = (.pointer (some ⟨b, 0, none⟩))), (fun _ v _ => v = (.slice (some ⟨g, off, none⟩) all.length c)), (fun _ v _ => v = (.pointer (some ⟨b, 0, none⟩))), (fun _ v _ => v = (.pointer (some ⟨b, 0, none⟩))), (fun _ v _ => v = (.pointer (some ⟨b, 1, none⟩))), (fun _ v _ => v = (.int .i64 (i : Int))), (fun _ v w1 => ∃ (cs : List Value) (j d : Nat) (q : List Tok), v = .tuple #[.agg cs.toArray, .int .i64 (j : Int), .int .i64 (d : Int)] ∧ all.drop j = q ∧ j + q.length = all.length ∧ EndR q ∧ RdG (fun k => B + 1 ≤ k) w1 valC [.int .u8 0, .int .i64 0, .string ⟨#[]⟩, .slice none 0 0, .slice none 0 0] (valueP true 24 r) cs d q), (fun ys v w1 => (fun (y21 : Value) => v = y21 ∧ ∃ (cs : Array Value) (j d : Nat), v = .tuple #[.agg cs, .int .i64 (j : Int), .int .i64 (d : Int)]) (ys.getD 0 undef)), (fun ys v w1 => (fun (y12 : Value) => ∃ (cs : Array Value) (j d : Nat), y12 = .tuple #[.agg cs, .int .i64 (j : Int), .int .i64 (d : Int)] ∧ v = .agg cs) (ys.getD 0 undef)), (fun ys v w1 => (fun (y12 : Value) => ∃ (cs : Array Value) (j d : Nat), y12 = .tuple #[.agg cs, .int .i64 (j : Int), .int .i64 (d : Int)] ∧ v = .int .i64 (j : Int)) (ys.getD 0 undef)), (fun ys v w1 => (fun (y12 : Value) => ∃ (cs : Array Value) (j d : Nat), y12 = .tuple #[.agg cs, .int .i64 (j : Int), .int .i64 (d : Int)] ∧ v = .int .i64 (d : Int)) (ys.getD 0 undef)), (fun _ v wv => ∃ X, v = .pointer (some ⟨X, 0, none⟩) ∧ B < X ∧ wv.heap[X]? = some (.cells [.int .u8 0, .int .i64 0, .string ⟨#[]⟩, .slice none 0 0, .slice none 0 0].toArray 37 (0, 0))), (fun ys v w1 => (fun (y3 : Value) (y22 : Value) => ∃ (X : Nat) (cs : Array Value), y3 = .pointer (some ⟨X, 0, none⟩) ∧ y22 = .agg cs ∧ w1.heap[X]? = some (.cells cs 37 (0, 0))) (ys.getD 0 undef) (ys.getD 1 undef)), (fun ys v w1 => (fun (y23 : Value) => v = y23) (ys.getD 0 undef))] rfl 14 13 8 [11, 12, 15] (by kernel_rfl) (by kernel_rfl) (fun _ v w1 => ∃ X, v = .pointer (some ⟨X, 0, none⟩) ∧ B < X) (fun _ v w1 => ∃ (cs : List Value) (j d : Nat) (q : List Tok), v = .tuple #[.agg cs.toArray, .int .i64 (j : Int), .int .i64 (d : Int)] ∧ all.drop j = q ∧ j + q.length = all.length ∧ EndR q ∧ RdG (fun k => B + 1 ≤ k) w1 valC [.int .u8 0, .int .i64 0, .string ⟨#[]⟩, .slice none 0 0, .slice none 0 0] (valueP true 24 r) cs d q) (fun u v w1 => ∃ (X : Nat) (cs : List Value) (j d : Nat) (q : List Tok), u = .pointer (some ⟨X, 0, none⟩) ∧ v = .tuple #[.agg cs.toArray, .int .i64 (j : Int), .int .i64 (d : Int)] ∧ all.drop j = q ∧ j + q.length = all.length ∧ EndR q ∧ B < X ∧ w1.heap[X]? = some (.cells [.int .u8 0, .int .i64 0, .string ⟨#[]⟩, .slice none 0 0, .slice none 0 0].toArray 37 (0, 0)) ∧ RdG (fun k => B + 1 ≤ k ∧ k ≠ X) w1 valC [.int .u8 0, .int .i64 0, .string ⟨#[]⟩, .slice none 0 0, .slice none 0 0] (valueP true 24 r) cs d q) _ rfl _ rfl ⟨?_, ?_, ?_, ?_, ?_, ?_, ?_, ?_, ?_, ?_, ?_, ?_, ?_, ?_, ?_, ?_, trivial⟩ ?_ ?_ ?_ ⟨?_, ?_, ?_, ?_, ?_, ?_, ?_, ?_, ?_, ?_, ?_, ?_, ?_, ?_, ?_, ?_, trivial⟩ ⟨?_, ?_, ?_, ?_, ?_, ?_, ?_, ?_, ?_, ?_, ?_, ?_, ?_, ?_, ?_, ?_, trivial⟩ ?_ ?_
    · rw [if_neg (by decide)]; intro ys v w1 w2 h ho; exact h
    · rw [if_neg (by decide)]; intro ys v w1 w2 h ho; exact h
    · rw [if_neg (by decide)]; intro ys v w1 w2 h ho; exact h
    · rw [if_neg (by decide)]; intro ys v w1 w2 h ho; exact h
    · rw [if_neg (by decide)]; intro ys v w1 w2 h ho; exact h
    · rw [if_neg (by decide)]; intro ys v w1 w2 h ho; exact h
    · rw [if_neg (by decide)]; intro ys v w1 w2 h ho; exact h
    · rw [if_neg (by decide)]; intro ys v w1 w2 h ho; exact h
    · rw [if_pos (by decide)]; intro ys v w1 w2 h ho; exact (by obtain ⟨cs, j, d, q, e1, e2, e3, e4, e5⟩ := h; exact ⟨cs, j, d, q, e1, e2, e3, e4, e5.only ho (fun _ _ h => h)⟩)
    · rw [if_neg (by decide)]; intro ys v w1 w2 h ho; exact h
    · rw [if_neg (by decide)]; intro ys v w1 w2 h ho; exact h
    · rw [if_neg (by decide)]; intro ys v w1 w2 h ho; exact h
    · rw [if_neg (by decide)]; intro ys v w1 w2 h ho; exact h
    · rw [if_pos (by decide)]; intro ys v w1 w2 h ho; exact (by obtain ⟨X, e, hX, hc⟩ := h; exact ⟨X, e, hX, (ho.block X (Array.getElem?_eq_some_iff.1 hc).1 (fun h => h)).trans hc⟩)
    · rw [if_pos (by decide)]; intro ys v w1 w2 h ho; exact (by obtain ⟨X, cs, e1, e2, e3⟩ := h; exact ⟨X, cs, e1, e2, (ho.block X (Array.getElem?_eq_some_iff.1 e3).1 (fun h => h)).trans e3⟩)
    · rw [if_neg (by decide)]; intro ys v w1 w2 h ho; exact h
    · intro ys v w1 w2 h ho; exact (by exact h)
    · intro ys v w1 w2 h ho; exact (by obtain ⟨cs, j, d, q, e1, e2, e3, e4, e5⟩ := h; exact ⟨cs, j, d, q, e1, e2, e3, e4, e5.only ho (fun _ _ h => h)⟩)
    · intro u v w1 w2 h ho; exact (by obtain ⟨X, cs, j, d, q, e0, e1, e2, e3, e4, e5, e6, e7⟩ := h; exact ⟨X, cs, j, d, q, e0, e1, e2, e3, e4, e5, (ho.block X (Array.getElem?_eq_some_iff.1 e6).1 (fun h => h)).trans e6, e7.only ho (fun _ _ h => h)⟩)
    · rw [if_neg (by decide)]; intro x wx ox hN TT HTT
      clear hN
      unfold StepTo
      simp only [putAll, Act.put, List.setIfInBounds_toArray, List.set_cons_succ, List.set_cons_zero]
      go_wp2_with fail
      exact ⟨rfl, _, rfl, HTT.out _ _ (rfl) (Only.refl _ _) ((if_neg (by decide)).mpr ((if_neg (by decide)).mpr trivial))⟩
    · rw [if_neg (by decide)]; intro x wx ox hN TT HTT
      have r13 : x 0 = (.pointer (some ⟨b, 0, none⟩)) := hN.1 rfl
      clear hN
      unfold StepTo
      simp only [putAll, Act.put, List.setIfInBounds_toArray, List.set_cons_succ, List.set_cons_zero, r13]
      clear r13
      go_wp2_with fail
      exact ⟨rfl, _, rfl, HTT.out _ _ (rfl) (Only.refl _ _) ((if_neg (by decide)).mpr ((if_neg (by decide)).mpr trivial))⟩
    · rw [if_neg (by decide)]; intro x wx ox hN TT HTT
      have r14 : x 1 = (.pointer (some ⟨b, 0, none⟩)) := hN.1 rfl
      clear hN
      unfold StepTo
      simp only [putAll, Act.put, List.setIfInBounds_toArray, List.set_cons_succ, List.set_cons_zero, r14]
      clear r14
      go_wp2_with fail
      exact ⟨rfl, _, rfl, HTT.out _ _ (rfl) (Only.refl _ _) ((if_neg (by decide)).mpr ((if_neg (by decide)).mpr trivial))⟩
    · rw [if_neg (by decide)]; intro x wx ox hN TT HTT
      have r15 : x 2 = (.pointer (some ⟨b, 0, none⟩)) := hN.1 rfl
      clear hN
      unfold StepTo
      simp only [putAll, Act.put, List.setIfInBounds_toArray, List.set_cons_succ, List.set_cons_zero, r15]
      clear r15
      obtain ⟨c0, c1, c2, fz⟩ := CF.out wx (O0.out.trans (((Only.refl _ w0).drew).trans ox))
      go_wp2_with fail
      exact ⟨rfl, _, rfl, HTT.out _ _ (rfl) (Only.refl _ _) ((if_neg (by decide)).mpr ((if_neg (by decide)).mpr trivial))⟩
    · rw [if_neg (by decide)]; intro x wx ox hN TT HTT
      clear hN
      unfold StepTo
      simp only [putAll, Act.put, List.setIfInBounds_toArray, List.set_cons_succ, List.set_cons_zero]
      go_wp2_with fail
      exact ⟨rfl, _, rfl, HTT.out _ _ (rfl) (Only.refl _ _) ((if_neg (by decide)).mpr ((if_neg (by decide)).mpr trivial))⟩
    · rw [if_neg (by decide)]; intro x wx ox hN TT HTT
      have r17 : x 4 = (.pointer (some ⟨b, 0, none⟩)) := hN.1 rfl
      clear hN
      unfold StepTo
      simp only [putAll, Act.put, List.setIfInBounds_toArray, List.set_cons_succ, List.set_cons_zero, r17]
      clear r17
      go_wp2_with fail
      exact ⟨rfl, _, rfl, HTT.out _ _ (rfl) (Only.refl _ _) ((if_neg (by decide)).mpr ((if_neg (by decide)).mpr trivial))⟩
    · rw [if_neg (by decide)]; intro x wx ox hN TT HTT
      have r18 : x 5 = (.pointer (some ⟨b, 0, none⟩)) := hN.1 rfl
      clear hN
      unfold StepTo
      simp only [putAll, Act.put, List.setIfInBounds_toArray, List.set_cons_succ, List.set_cons_zero, r18]
      clear r18
      go_wp2_with fail
      exact ⟨rfl, _, rfl, HTT.out _ _ (rfl) (Only.refl _ _) ((if_neg (by decide)).mpr ((if_neg (by decide)).mpr trivial))⟩
    · rw [if_neg (by decide)]; intro x wx ox hN TT HTT
      have r19 : x 6 = (.pointer (some ⟨b, 1, none⟩)) := hN.1 rfl
      clear hN
      unfold StepTo
      simp only [putAll, Act.put, List.setIfInBounds_toArray, List.set_cons_succ, List.set_cons_zero, r19]
      clear r19
      obtain ⟨c0, c1, c2, fz⟩ := CF.out wx (O0.out.trans (((Only.refl _ w0).drew).trans ox))
      go_wp2_with fail
      exact ⟨rfl, _, rfl, HTT.out _ _ (rfl) (Only.refl _ _) ((if_neg (by decide)).mpr ((if_neg (by decide)).mpr trivial))⟩
    · rw [if_neg (by decide)]; intro x wx ox hN TT HTT
      have r16 : x 3 = (.slice (some ⟨g, off, none⟩) all.length c) := hN.1 rfl
      have r20 : x 7 = (.int .i64 (i : Int)) := hN.2.1 rfl
      clear hN
      unfold StepTo
      simp only [putAll, Act.put, List.setIfInBounds_toArray, List.set_cons_succ, List.set_cons_zero, r16, r20]
      clear r16 r20
      have ow := O0.out.trans (((Only.refl _ w0).drew).trans ox)
      have hsx : B + 1 ≤ wx.heap.size := by have h1 : w0.heap.size ≤ wx.heap.size := ox.size; have h2 := HS0.out; omega
      have J := Lib.hid (JJ.out wx ow)
      clear ow
      go_wp2_with fail
      refine J.out.mono ?_
      rintro e w3 ⟨cs, j, d, q, rfl, o3, k1, k2, k3, k4⟩
      have K := Lib.hid (show (∃ (cs' : List Value) (j' d' : Nat) (q' : List Tok), Value.tuple #[.agg cs.toArray, .int .i64 (j : Int), .int .i64 (d : Int)] = .tuple #[.agg cs'.toArray, .int .i64 (j' : Int), .int .i64 (d' : Int)] ∧ all.drop j' = q' ∧ j' + q'.length = all.length ∧ EndR q' ∧ RdG (fun k => B + 1 ≤ k) w3 valC [.int .u8 0, .int .i64 0, .string ⟨#[]⟩, .slice none 0 0, .slice none 0 0] (valueP true 24 r) cs' d' q') ∧ ∀ y : Value, (∃ X, y = .pointer (some ⟨X, 0, none⟩) ∧ B < X ∧ wx.heap[X]? = some (.cells [.int .u8 0, .int .i64 0, .string ⟨#[]⟩, .slice none 0 0, .slice none 0 0].toArray 37 (0, 0))) → ∃ (X : Nat) (cs' : List Value) (j' d' : Nat) (q' : List Tok), y = .pointer (some ⟨X, 0, none⟩) ∧ Value.tuple #[.agg cs.toArray, .int .i64 (j : Int), .int .i64 (d : Int)] = .tuple #[.agg cs'.toArray, .int .i64 (j' : Int), .int .i64 (d' : Int)] ∧ all.drop j' = q' ∧ j' + q'.length = all.length ∧ EndR q' ∧ B < X ∧ w3.heap[X]? = some (.cells [.int .u8 0, .int .i64 0, .string ⟨#[]⟩, .slice none 0 0, .slice none 0 0].toArray 37 (0, 0)) ∧ RdG (fun k => B + 1 ≤ k ∧ k ≠ X) w3 valC [.int .u8 0, .int .i64 0, .string ⟨#[]⟩, .slice none 0 0, .slice none 0 0] (valueP true 24 r) cs' d' q' from
        ⟨⟨cs, j, d, q, rfl, k1, k2, k3, k4.g (fun k hk => by omega)⟩, fun y ⟨X, e1, e2, e3⟩ => ⟨X, cs, j, d, q, e1, rfl, k1, k2, k3, e2, (o3.block X (Array.getElem?_eq_some_iff.1 e3).1 (fun h => h)).trans e3, k4.g (fun k hk => by have := (Array.getElem?_eq_some_iff.1 e3).1; exact ⟨by omega, by omega⟩)⟩⟩)
      have O3 := Lib.hid o3
      clear k1 k2 k3 k4 o3
      go_wp2_with fail
      exact ⟨rfl, _, rfl, HTT.out _ _ (K.out.1) (O3.out) ((if_neg (by decide)).mpr ((if_pos (by decide)).mpr (fun y ys hy => K.out.2 y hy)))⟩
    · rw [if_neg (by decide)]; intro x wx ox hN TT HTT
      have r21 : (fun (v : Value) (w1 : World) => ∃ (cs : List Value) (j d : Nat) (q : List Tok), v = .tuple #[.agg cs.toArray, .int .i64 (j : Int), .int .i64 (d : Int)] ∧ all.drop j = q ∧ j + q.length = all.length ∧ EndR q ∧ RdG (fun k => B + 1 ≤ k) w1 valC [.int .u8 0, .int .i64 0, .string ⟨#[]⟩, .slice none 0 0, .slice none 0 0] (valueP true 24 r) cs d q) (x 8) wx := hN.1 rfl
      clear hN
      unfold StepTo
      simp only [putAll, Act.put, List.setIfInBounds_toArray, List.set_cons_succ, List.set_cons_zero]
      obtain ⟨cs, j, d, q, e1, -⟩ := r21
      rw [e1]
      have E1 := Lib.hid e1; clear e1
      go_wp2_with fail
      exact ⟨rfl, _, rfl, HTT.out _ _ (⟨E1.out.symm, _, _, _, rfl⟩) (Only.refl _ _) ((if_neg (by decide)).mpr ((if_neg (by decide)).mpr trivial))⟩
    · rw [if_neg (by decide)]; intro x wx ox hN TT HTT
      have r12 : (fun (y21 : Value) (v : Value) (w1 : World) => v = y21 ∧ ∃ (cs : Array Value) (j d : Nat), v = .tuple #[.agg cs, .int .i64 (j : Int), .int .i64 (d : Int)]) (x 8) (x 9) wx := hN.1 rfl
      clear hN
      unfold StepTo
      simp only [putAll, Act.put, List.setIfInBounds_toArray, List.set_cons_succ, List.set_cons_zero]
      obtain ⟨-, cs, j, d, e1⟩ := r12
      have E1 := Lib.hid e1
      rw [e1]; clear e1
      go_wp2_with fail
      exact ⟨rfl, _, rfl, HTT.out _ _ (⟨cs, j, d, E1.out, rfl⟩) (Only.refl _ _) ((if_neg (by decide)).mpr ((if_neg (by decide)).mpr trivial))⟩
    · rw [if_pos (by decide)]; trivial
    · rw [if_pos (by decide)]; trivial
    · rw [if_neg (by decide)]; intro x wx ox hN TT HTT
      clear hN
      unfold StepTo
      simp only [putAll, Act.put, List.setIfInBounds_toArray, List.set_cons_succ, List.set_cons_zero]
      go_wp2_with fail
      exact ⟨rfl, _, rfl, HTT.out _ _ (⟨wx.heap.size, rfl, (by have h1 : w0.heap.size ≤ wx.heap.size := ox.size; have h2 := HS0.out; omega), heap_new wx _⟩) ((Only.refl _ _).alloc _) ((if_pos (by decide)).mpr (fun y ys hy => (by obtain ⟨cs, j, d, q, e1, e2, e3, e4, e5⟩ := hy; exact ⟨wx.heap.size, cs, j, d, q, rfl, e1, e2, e3, e4, (by have h1 : w0.heap.size ≤ wx.heap.size := ox.size; have h2 := HS0.out; omega), heap_new wx _, (e5.weaken (G' := fun k => B + 1 ≤ k ∧ k ≠ wx.heap.size) (fun k hk h => ⟨h, by omega⟩)).only ((Only.refl (fun _ => False) wx).alloc _) (fun _ _ h => h)⟩)))⟩
    · rw [if_pos (by decide)]; trivial
    · rw [if_pos (by decide)]; trivial
    · rw [if_neg (by decide)]; trivial
    · rw [if_neg (by decide)]; trivial
    · rw [if_neg (by decide)]; trivial
    · rw [if_neg (by decide)]; trivial
    · rw [if_neg (by decide)]; trivial
    · rw [if_neg (by decide)]; trivial
    · rw [if_neg (by decide)]; trivial
    · rw [if_neg (by decide)]; trivial
    · rw [if_neg (by decide)]; trivial
    · rw [if_neg (by decide)]; trivial
    · rw [if_neg (by decide)]; trivial
    · rw [if_pos (by decide)]; intro x wx ox hN TT HTT
      have r12 : (fun (y21 : Value) (v : Value) (w1 : World) => v = y21 ∧ ∃ (cs : Array Value) (j d : Nat), v = .tuple #[.agg cs, .int .i64 (j : Int), .int .i64 (d : Int)]) (x 8) (x 9) wx := hN.1 rfl
      clear hN
      unfold StepTo
      simp only [putAll, Act.put, List.setIfInBounds_toArray, List.set_cons_succ, List.set_cons_zero]
      obtain ⟨-, cs, j, d, e1⟩ := r12
      have E1 := Lib.hid e1
      rw [e1]; clear e1
      go_wp2_with fail
      exact ⟨rfl, _, rfl, HTT.out _ _ (⟨cs, j, d, E1.out, rfl⟩) (Only.refl _ _)⟩
    · rw [if_pos (by decide)]; intro x wx ox hN TT HTT
      have r12 : (fun (y21 : Value) (v : Value) (w1 : World) => v = y21 ∧ ∃ (cs : Array Value) (j d : Nat), v = .tuple #[.agg cs, .int .i64 (j : Int), .int .i64 (d : Int)]) (x 8) (x 9) wx := hN.1 rfl
      clear hN
      unfold StepTo
      simp only [putAll, Act.put, List.setIfInBounds_toArray, List.set_cons_succ, List.set_cons_zero]
      obtain ⟨-, cs, j, d, e1⟩ := r12
      have E1 := Lib.hid e1
      rw [e1]; clear e1
      go_wp2_with fail
      exact ⟨rfl, _, rfl, HTT.out _ _ (⟨cs, j, d, E1.out, rfl⟩) (Only.refl _ _)⟩
    · rw [if_neg (by decide)]; trivial
    · rw [if_neg (by decide)]; trivial
    · rw [if_pos (by decide)]; intro x wx ox hN TT HTT
      have r23 : (fun (y12 : Value) (v : Value) (w1 : World) => ∃ (cs : Array Value) (j d : Nat), y12 = .tuple #[.agg cs, .int .i64 (j : Int), .int .i64 (d : Int)] ∧ v = .int .i64 (j : Int)) (x 9) (x 11) wx := hN.1 rfl
      have rN : (fun (y3 : Value) (y22 : Value) (v : Value) (w1 : World) => ∃ (X : Nat) (cs : Array Value), y3 = .pointer (some ⟨X, 0, none⟩) ∧ y22 = .agg cs ∧ w1.heap[X]? = some (.cells cs 37 (0, 0))) (x 13) (x 10) (x 14) wx := hN.2.1 rfl
      have r13 : x 0 = (.pointer (some ⟨b, 0, none⟩)) := hN.2.2.1 rfl
      have r14 : x 1 = (.pointer (some ⟨b, 0, none⟩)) := hN.2.2.2.1 rfl
      have r15 : x 2 = (.pointer (some ⟨b, 0, none⟩)) := hN.2.2.2.2.1 rfl
      have r16 : x 3 = (.slice (some ⟨g, off, none⟩) all.length c) := hN.2.2.2.2.2.1 rfl
      have r17 : x 4 = (.pointer (some ⟨b, 0, none⟩)) := hN.2.2.2.2.2.2.1 rfl
      have r18 : x 5 = (.pointer (some ⟨b, 0, none⟩)) := hN.2.2.2.2.2.2.2.1 rfl
      have r19 : x 6 = (.pointer (some ⟨b, 1, none⟩)) := hN.2.2.2.2.2.2.2.2.1 rfl
      have r20 : x 7 = (.int .i64 (i : Int)) := hN.2.2.2.2.2.2.2.2.2.1 rfl
      have r21 : (fun (v : Value) (w1 : World) => ∃ (cs : List Value) (j d : Nat) (q : List Tok), v = .tuple #[.agg cs.toArray, .int .i64 (j : Int), .int .i64 (d : Int)] ∧ all.drop j = q ∧ j + q.length = all.length ∧ EndR q ∧ RdG (fun k => B + 1 ≤ k) w1 valC [.int .u8 0, .int .i64 0, .string ⟨#[]⟩, .slice none 0 0, .slice none 0 0] (valueP true 24 r) cs d q) (x 8) wx := hN.2.2.2.2.2.2.2.2.2.2.1 rfl
      have r12 : (fun (y21 : Value) (v : Value) (w1 : World) => v = y21 ∧ ∃ (cs : Array Value) (j d : Nat), v = .tuple #[.agg cs, .int .i64 (j : Int), .int .i64 (d : Int)]) (x 8) (x 9) wx := hN.2.2.2.2.2.2.2.2.2.2.2.1 rfl
      have r22 : (fun (y12 : Value) (v : Value) (w1 : World) => ∃ (cs : Array Value) (j d : Nat), y12 = .tuple #[.agg cs, .int .i64 (j : Int), .int .i64 (d : Int)] ∧ v = .agg cs) (x 9) (x 10) wx := hN.2.2.2.2.2.2.2.2.2.2.2.2.1 rfl
      have r3 : (fun (v : Value) (w1 : World) => ∃ X, v = .pointer (some ⟨X, 0, none⟩) ∧ B < X) (x 13) wx := hN.2.2.2.2.2.2.2.2.2.2.2.2.2.2.2.1 rfl
      clear hN
      unfold StepTo
      simp only [putAll, Act.put, List.setIfInBounds_toArray, List.set_cons_succ, List.set_cons_zero, r13, r14, r15, r16, r17, r18, r19, r20]
      clear r13 r14 r15 r16 r17 r18 r19 r20
      obtain ⟨cs, j, d, e1, e2⟩ := r23
      rw [e2]
      have E2 := Lib.hid e2; clear e2
      go_wp2_with fail
      exact ⟨rfl, _, rfl, HTT.out _ _ (E2.out.symm) (Only.refl _ _)⟩
    · intro x wx ox hN hPR TT HTT
      have r3 : (fun (v : Value) (wv : World) => ∃ X, v = .pointer (some ⟨X, 0, none⟩) ∧ B < X ∧ wv.heap[X]? = some (.cells [.int .u8 0, .int .i64 0, .string ⟨#[]⟩, .slice none 0 0, .slice none 0 0].toArray 37 (0, 0))) (x 13) wx := hN.1 rfl
      have r22 : (fun (y12 : Value) (v : Value) (w1 : World) => ∃ (cs : Array Value) (j d : Nat), y12 = .tuple #[.agg cs, .int .i64 (j : Int), .int .i64 (d : Int)] ∧ v = .agg cs) (x 9) (x 10) wx := hN.2.1 rfl
      have r21 : (fun (v : Value) (w1 : World) => ∃ (cs : List Value) (j d : Nat) (q : List Tok), v = .tuple #[.agg cs.toArray, .int .i64 (j : Int), .int .i64 (d : Int)] ∧ all.drop j = q ∧ j + q.length = all.length ∧ EndR q ∧ RdG (fun k => B + 1 ≤ k) w1 valC [.int .u8 0, .int .i64 0, .string ⟨#[]⟩, .slice none 0 0, .slice none 0 0] (valueP true 24 r) cs d q) (x 8) wx := hN.2.2.1 rfl
      have r13 : x 0 = (.pointer (some ⟨b, 0, none⟩)) := hN.2.2.2.1 rfl
      have r14 : x 1 = (.pointer (some ⟨b, 0, none⟩)) := hN.2.2.2.2.1 rfl
      have r15 : x 2 = (.pointer (some ⟨b, 0, none⟩)) := hN.2.2.2.2.2.1 rfl
      have r16 : x 3 = (.slice (some ⟨g, off, none⟩) all.length c) := hN.2.2.2.2.2.2.1 rfl
      have r17 : x 4 = (.pointer (some ⟨b, 0, none⟩)) := hN.2.2.2.2.2.2.2.1 rfl
      have r18 : x 5 = (.pointer (some ⟨b, 0, none⟩)) := hN.2.2.2.2.2.2.2.2.1 rfl
      have r19 : x 6 = (.pointer (some ⟨b, 1, none⟩)) := hN.2.2.2.2.2.2.2.2.2.1 rfl
      have r20 : x 7 = (.int .i64 (i : Int)) := hN.2.2.2.2.2.2.2.2.2.2.1 rfl
      have r12 : (fun (y21 : Value) (v : Value) (w1 : World) => v = y21 ∧ ∃ (cs : Array Value) (j d : Nat), v = .tuple #[.agg cs, .int .i64 (j : Int), .int .i64 (d : Int)]) (x 8) (x 9) wx := hN.2.2.2.2.2.2.2.2.2.2.2.2.1 rfl
      clear hN
      unfold StepTo
      simp only [putAll, Act.put, List.setIfInBounds_toArray, List.set_cons_succ, List.set_cons_zero, r13, r14, r15, r16, r17, r18, r19, r20]
      clear r13 r14 r15 r16 r17 r18 r19 r20
      obtain ⟨X, cs, j, d, q, n0, n1, n2, n3, n4, n5, n6, n7⟩ := hPR
      obtain ⟨cs2, j2, d2, f1, f2⟩ := r22
      obtain ⟨f3, -⟩ := r12
      have hcs := (agg_inj (f1.symm.trans (f3.trans n1))).1
      subst hcs
      obtain ⟨kd, nm, sv, a1, l1, p1, a2, l2, p2, rfl⟩ := valJ_of n7
      have f2 : x 10 = .agg #[.int .u8 (kd : Int), .int .i64 nm, .string ⟨sv.toArray⟩, .slice a1 l1 p1, .slice a2 l2 p2] := f2
      have E0 := Lib.hid n0; have F2 := Lib.hid f2; have E6 := Lib.hid n6; have KK := Lib.hid (And.intro n1 (And.intro n2 (And.intro n3 (And.intro n4 (And.intro n5 n7)))))
      rw [n0, f2]
      clear n0 n1 n2 n3 n4 n6 n7 f1 f2 f3
      go_wp2_with ((refine wpList_store_box (o := ⟨none, _, _, _, _, _⟩) rfl 37 (.tmp 3) (.tmp 22) (by rfl) X [.int .u8 0, .int .i64 0, .string ⟨#[]⟩, .slice none 0 0, .slice none 0 0] [.int .u8 (kd : Int), .int .i64 nm, .string ⟨sv.toArray⟩, .slice a1 l1 p1, .slice a2 l2 p2] (by rfl) (by rfl) E6.out (by rfl) (by kernel_rfl) (by intro u hu; simp at hu; rcases hu with rfl | rfl | rfl | rfl | rfl <;> rfl) ?_; intro w9 k1 k2))
      obtain ⟨n1, n2, n3, n4, n5, n7⟩ := KK.out
      exact ⟨rfl, undef, rfl, HTT.out undef _ ⟨X, #[.int .u8 (kd : Int), .int .i64 nm, .string ⟨sv.toArray⟩, .slice a1 l1 p1, .slice a2 l2 p2], E0.out, F2.out, k1⟩ (k2.mono (fun q hq h => by have h : q = X := h; omega)) ⟨X, E0.out, n5⟩ ⟨_, j, d, q, n1, n2, n3, n4, (n7.only k2 (fun k hk e => hk.2 e)).weaken (fun k _ hk => hk.1)⟩⟩
    intro xz wxz oxz hN
    have r13 : xz 0 = (.pointer (some ⟨b, 0, none⟩)) := hN.1
    have r14 : xz 1 = (.pointer (some ⟨b, 0, none⟩)) := hN.2.1
    have r15 : xz 2 = (.pointer (some ⟨b, 0, none⟩)) := hN.2.2.1
    have r16 : xz 3 = (.slice (some ⟨g, off, none⟩) all.length c) := hN.2.2.2.1
    have r17 : xz 4 = (.pointer (some ⟨b, 0, none⟩)) := hN.2.2.2.2.1
    have r18 : xz 5 = (.pointer (some ⟨b, 0, none⟩)) := hN.2.2.2.2.2.1
    have r19 : xz 6 = (.pointer (some ⟨b, 1, none⟩)) := hN.2.2.2.2.2.2.1
    have r20 : xz 7 = (.int .i64 (i : Int)) := hN.2.2.2.2.2.2.2.1
    have r21 : (fun (v : Value) (w1 : World) => ∃ (cs : List Value) (j d : Nat) (q : List Tok), v = .tuple #[.agg cs.toArray, .int .i64 (j : Int), .int .i64 (d : Int)] ∧ all.drop j = q ∧ j + q.length = all.length ∧ EndR q ∧ RdG (fun k => B + 1 ≤ k) w1 valC [.int .u8 0, .int .i64 0, .string ⟨#[]⟩, .slice none 0 0, .slice none 0 0] (valueP true 24 r) cs d q) (xz 8) wxz := hN.2.2.2.2.2.2.2.2.1
    have r12 : (fun (y21 : Value) (v : Value) (w1 : World) => v = y21 ∧ ∃ (cs : Array Value) (j d : Nat), v = .tuple #[.agg cs, .int .i64 (j : Int), .int .i64 (d : Int)]) (xz 8) (xz 9) wxz := hN.2.2.2.2.2.2.2.2.2.1
    have r22 : (fun (y12 : Value) (v : Value) (w1 : World) => ∃ (cs : Array Value) (j d : Nat), y12 = .tuple #[.agg cs, .int .i64 (j : Int), .int .i64 (d : Int)] ∧ v = .agg cs) (xz 9) (xz 10) wxz := hN.2.2.2.2.2.2.2.2.2.2.1
    have r23 : (fun (y12 : Value) (v : Value) (w1 : World) => ∃ (cs : Array Value) (j d : Nat), y12 = .tuple #[.agg cs, .int .i64 (j : Int), .int .i64 (d : Int)] ∧ v = .int .i64 (j : Int)) (xz 9) (xz 11) wxz := hN.2.2.2.2.2.2.2.2.2.2.2.1
    have r24 : (fun (y12 : Value) (v : Value) (w1 : World) => ∃ (cs : Array Value) (j d : Nat), y12 = .tuple #[.agg cs, .int .i64 (j : Int), .int .i64 (d : Int)] ∧ v = .int .i64 (d : Int)) (xz 9) (xz 12) wxz := hN.2.2.2.2.2.2.2.2.2.2.2.2.1
    have r3 : (fun (v : Value) (w1 : World) => ∃ X, v = .pointer (some ⟨X, 0, none⟩) ∧ B < X) (xz 13) wxz := hN.2.2.2.2.2.2.2.2.2.2.2.2.2.1
    have rN : (fun (y3 : Value) (y22 : Value) (v : Value) (w1 : World) => ∃ (X : Nat) (cs : Array Value), y3 = .pointer (some ⟨X, 0, none⟩) ∧ y22 = .agg cs ∧ w1.heap[X]? = some (.cells cs 37 (0, 0))) (xz 13) (xz 10) (xz 14) wxz := hN.2.2.2.2.2.2.2.2.2.2.2.2.2.2.1
    have r4 : (fun (y23 : Value) (v : Value) (w1 : World) => v = y23) (xz 11) (xz 15) wxz := hN.2.2.2.2.2.2.2.2.2.2.2.2.2.2.2.1
    clear hN
    simp only [putAll, Act.put, List.setIfInBounds_toArray, List.set_cons_succ, List.set_cons_zero, r13, r14, r15, r16, r17, r18, r19, r20]
    clear r13 r14 r15 r16 r17 r18 r19 r20
    obtain ⟨X, cs0, e1, e2, e3⟩ := rN
    obtain ⟨cs, j, d, q, f1, f2, f3, f4, f5⟩ := r21
    obtain ⟨f6, -⟩ := r12
    obtain ⟨c1, j1, d1, g1, g2⟩ := r22
    obtain ⟨c2, j2, d2, g3, g4⟩ := r23
    obtain ⟨c3, j3, d3, g5, g6⟩ := r24
    obtain ⟨X', e4, hBX⟩ := r3
    have hXX : X' = X := by rw [e1] at e4; injection e4 with e4; injection e4 with e4; injection e4 with e4; exact e4.symm
    subst hXX
    have k1 := (agg_inj (g1.symm.trans (f6.trans f1))).1
    have k2 := (agg_inj (g3.symm.trans (f6.trans f1))).2.1
    have k3 := (agg_inj (g5.symm.trans (f6.trans f1))).2.2
    subst k1; subst k2; subst k3
    have k4 : cs0 = cs.toArray := by rw [g2] at e2; injection e2 with e2; exact e2.symm
    subst k4
    have h4' : xz 15 = .int .i64 (j2 : Int) := r4.trans g4
    rw [e1, h4', g6]
    obtain ⟨kd, nm, sv, a1, l1, p1, a2, l2, p2, rfl⟩ := valJ_of f5
    have oz : Only (fun q => B < q) w0 wxz := ((Only.refl _ w0).drew).trans oxz
    have h1z := (oz.block b (by have := HS0.out; omega) (by omega)).trans ((O0.out.block b hbl (fun h => h)).trans H1.out)
    have hr0z := (oz.block B (by have := HS0.out; omega) (by omega)).trans HR0.out
    obtain ⟨wS, hwS⟩ : ∃ x, (wxz.setCell ⟨b, 1, none⟩ (.int .i64 (j2 : Int))).setCell ⟨b, 2, none⟩ (.int .i64 (d3 : Int)) = x := ⟨_, rfl⟩
    have oS : Only (fun k => k = b) wxz wS := by rw [← hwS]; exact ((Only.refl (fun k => k = b) wxz).setCell (p := ⟨b, 1, none⟩) (.inl rfl) _).setCell (p := ⟨b, 2, none⟩) (.inl rfl) _
    have h1S : wS.heap[b]? = some (.cells #[.slice (some ⟨g, off, none⟩) all.length c, .int .i64 (j2 : Int), .int .i64 (d3 : Int)] 48 (0, 0)) := by
      rw [← hwS]
      have := heap_set (o := 2) (heap_set (o := 1) h1z (.int .i64 (j2 : Int))) (.int .i64 (d3 : Int))
      simpa using this
    have hOall : Only (fun k => k = b) w wS := ((O0.out.mono (T := fun k => k = b) (fun _ _ h => h.elim)).trans' oz (fun q hq h => by have := HB.out; omega)).trans oS
    have hRS : RdS wS b all q (d3 : Int) := HH.out.set H1.out (fun _ => True) hOall h1S f2 f3 f4
    have hSd : Sd wS b all (valueP true 24 r).unit := ⟨q, d3, hRS, f5.st HZ.out⟩
    have hXS := (oS.block X' (Array.getElem?_eq_some_iff.1 e3).1 (by omega)).trans e3
    have hBS := (oS.block B (Array.getElem?_eq_some_iff.1 hr0z).1 (by omega)).trans hr0z
    have hagg : ∀ w9, Only (fun k => k = B) wS w9 → ∀ x q', valueP true 24 r = .ok x q' → aggP w.heap.size valC w9 x (.agg #[.int .u8 (kd : Int), .int .i64 nm, .string ⟨sv.toArray⟩, .slice a1 l1 p1, .slice a2 l2 p2]) := fun w9 o9 x q' hx => by
      rw [hx] at f5
      exact ⟨_, rfl, CellsAt.weaken (fun k _ hk => by have hk : B + 1 ≤ k := hk; show w.heap.size ≤ k; have := HB.out; omega) _ _ (CellsAt.only o9 (fun k hk e => by have hk : B + 1 ≤ k := hk; have e : k = B := e; omega) _ _ (CellsAt.only oS (fun k hk e => by have hk : B + 1 ≤ k := hk; have e : k = b := e; omega) _ _ f5.2.2))⟩
    obtain ⟨b0, b1, b2, bz⟩ := boxN3 h1z
    obtain ⟨y0, y1, y2, y3, y4, yz⟩ := boxN5 hXS
    have HSD := Lib.hid hSd; have HAG := Lib.hid hagg; have HBS := Lib.hid hBS; have HOA := Lib.hid hOall; have HWS := Lib.hid hwS; have HYY := Lib.hid (And.intro y0 (And.intro y1 (And.intro y2 (And.intro y3 y4))))
    clear e1 e2 e3 e4 f1 f2 f3 f4 f5 f6 g1 g2 g3 g4 g5 g6 h4' oz hr0z h1S hRS hSd hXS hBS hagg oxz hOall h1z oS hwS b0 y0 y1 y2 y3 y4 yz r4
    go_upto_region 5 with (fail)
    rw [HWS.out]
    clear b1 b2 bz
    obtain ⟨y0, y1, y2, y3, y4⟩ := HYY.out
    go_wp2_with ((refine wpList_store_box (o := ⟨none, _, _, _, _, _⟩) rfl 37 (.tmp 2) (.tmp 33) (by rfl) B [.int .u8 0, .int .i64 0, .string ⟨#[]⟩, .slice none 0 0, .slice none 0 0] [.int .u8 (kd : Int), .int .i64 nm, .string ⟨sv.toArray⟩, .slice a1 l1 p1, .slice a2 l2 p2] (by rfl) (by rfl) HBS.out (by rfl) (by kernel_rfl) (by intro u hu; simp at hu; rcases hu with rfl | rfl | rfl | rfl | rfl <;> rfl) ?_; intro w9 k1 k2))
    obtain ⟨z0, z1, z2, z3, z4, zz⟩ := boxN5 k1
    exact bodyPost_ret (v := .agg #[.int .u8 (kd : Int), .int .i64 nm, .string ⟨sv.toArray⟩, .slice a1 l1 p1, .slice a2 l2 p2]) (by simp [results, Tryz.results48, go_sem, z0, z1, z2, z3, z4]) rfl (HPP.out w9 _ ⟨kd, nm, sv, a1, l1, p1, a2, l2, p2, rfl⟩ (HSD.out.only k2 (fun k hk e => by omega)) (HAG.out w9 k2) (HOA.out.trans' k2 (fun q hq e => by have := HB.out; omega)))
  · have hne : ((e : Int) != 0) = true := by simp; omega
    have hst : stOf r e = .bad (atT r) e := st_bad he
    have HP : ∀ w' v, valJ v → Only (fun k => k = b) w w' → Sd w' b all (stOf r e) → SAns w b all (stOf r e) (fun w' x v => aggP w.heap.size valC w' x v) valJ (valueP true 24) (.returned v) w' := fun w' v q1 q2 q3 => ⟨v, rfl, q1, by rw [hst] at q3 ⊢; exact q3, fun x q hx => (by rw [hst] at hx; cases hx), q2⟩
    have HPP := Lib.hid HP; have HS := Lib.hid (show Sd w b all (stOf r e) from ⟨r, e, h, rfl⟩)
    clear HP h h1 h2 h4 cf fz hB hw0 hr0 o0 hs0 h5 hst he
    generalize (SAns w b all (stOf r e) (fun w' x v => aggP w.heap.size valC w' x v) valJ (valueP true 24)) = Q at *
    go_enter Tryz.func48, Tryz.ntmps48
    go_upto_region 1 with (fail)
    rw [HB.out, HW0.out]
    clear c0 c1 c2
    obtain ⟨c0, c1, c2, fz⟩ := CF.out w0 O0.out
    go_wp2_with ((refine wpList_store_box (o := ⟨none, _, _, _, _, _⟩) rfl 37 (.tmp 2) (.tmp 11) (by rfl) B [.int .u8 0, .int .i64 0, .string ⟨#[]⟩, .slice none 0 0, .slice none 0 0] [.int .u8 0, .int .i64 0, .string ⟨#[]⟩, .slice none 0 0, .slice none 0 0] (by rfl) (by rfl) HR0.out (by rfl) (by kernel_rfl) (by intro u hu; simp at hu; rcases hu with rfl | rfl | rfl | rfl | rfl <;> rfl) ?_; intro w9 k1 k2))
    obtain ⟨z0, z1, z2, z3, z4, zz⟩ := boxN5 k1
    have o9 := (O0.out.mono (T := fun k => k = b) (fun _ _ h => h.elim)).trans' k2 (fun q hq e => by have := HB.out; omega)
    exact bodyPost_ret (v := .agg #[.int .u8 0, .int .i64 0, .string ⟨#[]⟩, .slice none 0 0, .slice none 0 0]) (by simp [results, Tryz.results48, go_sem, z0, z1, z2, z3, z4]) rfl (HPP.out w9 _ ⟨0, 0, [], none, 0, 0, none, 0, 0, rfl⟩ o9 ((HS.out.still O0.out).only k2 (fun k hk e => by omega)))
end Go.Proofs.YtgephneppgcnlaaGreatDoor
