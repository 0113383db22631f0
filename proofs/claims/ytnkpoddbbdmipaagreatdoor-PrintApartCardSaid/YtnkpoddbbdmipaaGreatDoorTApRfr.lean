/- . -/
import Derived.Test.YtnkpoddbbdmipaaGreatDoorTApTrw
import Derived.Test.YtnkpoddbbdmipaaGreatDoorTApJnt
import Derived.Test.YtnkpoddbbdmipaaGreatDoorTApEnD
import Derived.Test.YtnkpoddbbdmipaaGreatDoorTApPng
import Derived.Test.YtnkpoddbbdmipaaGreatDoorTApRgA
import Derived.Deep.QuietTactic
import Derived.BigQuiet
import Derived.IntWalk
namespace Go.Proofs.YtnkpoddbbdmipaaGreatDoor
open Go Go.RowKit
open Go.Lib (hid)
set_option linter.unusedVariables false
set_option linter.unusedSimpArgs false
def WordT (t : Tok) : Prop := (t.kind = 1 → ∃ c l, t.text = c :: l ∧ letB c = true) ∧ (t.kind = 4 → ∃ c l, t.text = c :: l ∧ letB c = false)
theorem oneP_word {c : UInt8} {l : List UInt8} {k : Nat} {t : List UInt8} {n : Int} {len : Nat} (h : oneP (c :: l) = .ok k t n len) (a : Nat) : WordT ⟨k, t, n, a⟩ := by
 have hl := oneP_len h; obtain ⟨m, hm⟩ : ∃ m, len = m + 1 := ⟨len - 1, by omega⟩; rw [oneP_cons] at h
 by_cases h1 : letB c = true
 ·rw [if_pos h1] at h
  split at h
  ·cases h
  ·injection h with e1 e2 e3 e4
   refine ⟨fun _ => ⟨c, l.take m, ?_, h1⟩, fun h4 => by exfalso; have h4 : k = 4 := h4; omega⟩
   show t = _
   rw [← e2, e4, hm, List.take_succ_cons]
 rw [if_neg h1] at h
 by_cases h2 : c.toNat = 45 ∨ digB c = true
 ·rw [if_pos h2] at h; have := (numP_take h).1; exact ⟨fun h4 => by have h4 : k = 1 := h4; omega, fun h4 => by have h4 : k = 4 := h4; omega⟩
 rw [if_neg h2] at h
 by_cases h3 : c.toNat = 34
 ·rw [if_pos h3] at h; have := (txtP_len _ _ _ h).2.2.1; exact ⟨fun h4 => by have h4 : k = 1 := h4; omega, fun h4 => by have h4 : k = 4 := h4; omega⟩
 rw [if_neg h3] at h; have hn : letB c = false := by simpa using h1
 split at h
 ·injection h with e1 e2 e3 e4
  exact ⟨fun h4 => by have h4 : k = 1 := h4; omega, fun _ => ⟨46, [46, 46], e2.symm, by decide⟩⟩
 ·split at h
  ·injection h with e1 e2 e3 e4
   exact ⟨fun h4 => by have h4 : k = 1 := h4; omega, fun _ => ⟨c, [], e2.symm, hn⟩⟩
  ·cases h
theorem toksA_words : ∀ (a : Nat) (l : List UInt8), ∀ ts, toksA a l = .ok ts → ∀ t ∈ ts, WordT t := by
 refine toksA_ind ?_ ?_ ?_ ?_ ?_
 ·intro a ts h t ht; rw [toksA_nil] at h; injection h with h; subst h; simp at ht; subst ht; exact ⟨fun h => absurd (show (0 : Nat) = 1 from h) (by decide), fun h => absurd (show (0 : Nat) = 4 from h) (by decide)⟩
 ·intro a c l hb ih ts h; rw [toksA_blk a hb] at h; exact ih ts h
 ·intro a c l hr ih ts h; rw [toksA_rem a hr] at h; exact ih ts h
 ·intro a c l off e hb hr hx ts h; rw [toksA_bad a hb hr hx] at h; cases h
 ·intro a c l k t n len hb hr ho ih ts h t' ht; rw [toksA_one a hb hr ho] at h; obtain ⟨us, hu, rfl⟩ := Out.cons_ok h
  rcases List.mem_cons.1 ht with rfl | ht
  ·exact oneP_word ho a
  ·exact ih us hu t' ht
theorem toks_words {s : List UInt8} {ts : List Tok} (h : toks s = .ok ts) : ∀ t ∈ ts, WordT t := toksA_words 0 s ts (toks_ok h).2
structure RL where
 ts : List Tok
 dp : Nat
def RL.in_ (a : RL) : RL := ⟨a.ts, a.dp + 1⟩
structure RfS (w : World) (b : Nat) (all : RL) (i dv bd e : Int) : Prop where
 row : ∃ g off c, w.heap[b]? = some (.cells #[.slice (some ⟨g, off, none⟩) all.ts.length c, .int .i64 i, .int .i64 dv, .int .i64 bd, .int .i64 e] 71 (0, 0)) ∧ TRow w (.slice (some ⟨g, off, none⟩) all.ts.length c) all.ts ∧ g < b
 few : all.ts.length ≤ 1000000
 words : ∀ t ∈ all.ts, WordT t
theorem RfS.lt {w : World} {b : Nat} {all : RL} {i dv bd e : Int} (h : RfS w b all i dv bd e) : b < w.heap.size := by
 obtain ⟨g, off, c, h1, _⟩ := h.row; exact (gE h1).1
theorem RfS.only {S : Nat → Prop} {w w' : World} {b : Nat} {all : RL} {i dv bd e : Int} (h : RfS w b all i dv bd e) (ho : Only S w w') (hS : ∀ k, k ≤ b → ¬ S k) : RfS w' b all i dv bd e := by
 obtain ⟨g, off, c, h1, h2, h3⟩ := h.row; refine ⟨⟨g, off, c, ?_, ?_, h3⟩, h.few, h.words⟩
 ·rw [ho.block b h.lt (hS b (Nat.le_refl _))]; exact h1
 ·refine h2.only (S := fun k => S k) ho (fun a n c' e => ?_)
  injection e with e
  injection e with e
  subst e; exact hS g (by omega)
def RfI (all : RL) (i dv bd e : Int) : PR Unit → Prop
 | .ok _ r => e = 0 ∧ dv = all.dp ∧ EndR r ∧ ∃ j : Nat, i = j ∧ all.ts.drop j = r ∧ j + r.length = all.ts.length
 | .bad a c => e = c ∧ c ≠ 0 ∧ bd = a
def Rf (w : World) (b : Nat) (all : RL) (σ : PR Unit) : Prop := ∃ i dv bd e, RfS w b all i dv bd e ∧ RfI all i dv bd e σ
theorem Rf.only {S : Nat → Prop} {w w' : World} {b : Nat} {all : RL} {σ : PR Unit} (h : Rf w b all σ) (ho : Only S w w') (hS : ∀ k, k ≤ b → ¬ S k) : Rf w' b all σ := by
 obtain ⟨i, dv, bd, e, h, hs⟩ := h; exact ⟨i, dv, bd, e, h.only ho hS, hs⟩
theorem Rf.still {w w' : World} {b : Nat} {all : RL} {σ : PR Unit} (h : Rf w b all σ) (ho : Only (fun _ => False) w w') : Rf w' b all σ := h.only ho (fun _ _ h => h)
theorem Rf.lt {w : World} {b : Nat} {all : RL} {σ : PR Unit} (h : Rf w b all σ) : b < w.heap.size := by
 obtain ⟨i, dv, bd, e, h, _⟩ := h; exact h.lt
theorem Rf.bad_cells {w : World} {b : Nat} {all : RL} {a c : Nat} (h : Rf w b all (.bad a c)) : c ≠ 0 ∧ ∃ v i dv, w.cell? ⟨b, 0, none⟩ = some v ∧ w.cell? ⟨b, 1, none⟩ = some (.int .i64 i) ∧ w.cell? ⟨b, 2, none⟩ = some (.int .i64 dv) ∧ w.cell? ⟨b, 3, none⟩ = some (.int .i64 (a : Int)) ∧ w.cell? ⟨b, 4, none⟩ = some (.int .i64 (c : Int)) ∧ ∀ o, w.frozen? ⟨b, o, none⟩ = false := by
 obtain ⟨i, dv, bd, e, h, rfl, h2, rfl⟩ := h; obtain ⟨g, off, cc, h1, -⟩ := h.row; exact ⟨h2, .slice (some ⟨g, off, none⟩) all.ts.length cc, i, dv, by simp [World.cell?, h1], by simp [World.cell?, h1], by simp [World.cell?, h1], by simp [World.cell?, h1], by simp [World.cell?, h1], fun o => by simp [World.frozen?, h1]⟩
theorem Rf.next {w : World} {b : Nat} {all : RL} {r : List Tok} (h : Rf w b all (.ok () r)) : ∃ g off c N t r', r = t :: r' ∧ ∃ (i : Nat) (bd : Int), w.cell? ⟨b, 0, none⟩ = some (.slice (some ⟨g, off, none⟩) N c) ∧ w.cell? ⟨b, 1, none⟩ = some (.int .i64 (i : Int)) ∧ w.cell? ⟨b, 2, none⟩ = some (.int .i64 (all.dp : Int)) ∧ w.cell? ⟨b, 3, none⟩ = some (.int .i64 bd) ∧ w.cell? ⟨b, 4, none⟩ = some (.int .i64 0) ∧ (∀ o, w.frozen? ⟨b, o, none⟩ = false) ∧
  i < N ∧ N ≤ c ∧ N ≤ 1000000 ∧ c ≤ 9223372036854775807 ∧ g < b ∧
  w.cell? ⟨g, off + i * 4, none⟩ = some (.int .u8 (t.kind : Int)) ∧ w.cell? ⟨g, off + i * 4 + 1, none⟩ = some (.string ⟨t.text.toArray⟩) ∧ w.cell? ⟨g, off + i * 4 + 2, none⟩ = some (.int .i64 t.n) ∧ w.cell? ⟨g, off + i * 4 + 3, none⟩ = some (.int .i64 (t.at_ : Int)) := by
 obtain ⟨i, dv, bd, e, h, he, hd, hr, j, rfl, h4, h5⟩ := h; subst he; subst hd; obtain ⟨g, off, c, h1, h2, h3⟩ := h.row
 cases r with
 | nil => exact absurd hr (by simp [EndR])
 | cons t r' =>
  have hi : j < all.ts.length := by simp only [List.length_cons] at h5; omega
  obtain ⟨g', off', c', e, k1, k2, k3, HC⟩ := h2.at_ hi
  injection e with e e2 e3
  injection e with e
  injection e with e4 e5 _
  subst e4; subst e5; subst e3; obtain ⟨a1, a2, a3, a4⟩ := HC j hi; have ht : all.ts[j] = t := by
   have := congrArg (fun l : List Tok => l[0]?) h4; simp only [List.getElem?_drop, Nat.add_zero, List.getElem?_cons_zero] at this; rw [List.getElem?_eq_getElem hi] at this; exact Option.some.inj this
  rw [ht] at a1 a2 a3 a4; unfold maxLen at k2; exact ⟨g, off, c, all.ts.length, t, r', rfl, j, bd, by simp [World.cell?, h1], by simp [World.cell?, h1], by simp [World.cell?, h1], by simp [World.cell?, h1], by simp [World.cell?, h1], fun o => by simp [World.frozen?, h1], hi, k1, h.few, k2, h3, a1, a2, a3, a4⟩
theorem RfS.set {w : World} {b : Nat} {all : RL} {i dv bd e : Int} (h : RfS w b all i dv bd e) (o : Nat) (x : Int) (all' : RL) (ha : all'.ts = all.ts) : RfS (w.setCell ⟨b, o, none⟩ (.int .i64 x)) b all' (if o = 1 then x else i) (if o = 2 then x else dv) (if o = 3 then x else bd) (if o = 4 then x else e) ∨ o = 0 ∨ 4 < o := by
 by_cases h0 : o = 0
 ·exact .inr (.inl h0)
 by_cases h4 : 4 < o
 ·exact .inr (.inr h4)
 left
 obtain ⟨g, off, c, h1, h2, h3⟩ := h.row; have ho : Only (fun k => k = b) w (w.setCell ⟨b, o, none⟩ (.int .i64 x)) := (Only.refl (fun k => k = b) w).setCell (.inl rfl) _; refine ⟨⟨g, off, c, ?_, ?_, h3⟩, by rw [ha]; exact h.few, by rw [ha]; exact h.words⟩
 ·have := heap_set (o := o) h1 (.int .i64 x); rw [this, ha]; have : o = 1 ∨ o = 2 ∨ o = 3 ∨ o = 4 := by omega
  rcases this with rfl | rfl | rfl | rfl <;> simp
 ·rw [ha]; refine h2.only ho (fun a n c' e => ?_)
  injection e with e
  injection e with e
  subst e
  show ¬ g = b; omega
theorem Rf.step {w : World} {b : Nat} {all : RL} {r : List Tok} (h : Rf w b all (.ok () r)) (hk : isK 0 r = false) {i : Int} (hi : w.cell? ⟨b, 1, none⟩ = some (.int .i64 i)) : Rf (w.setCell ⟨b, 1, none⟩ (.int .i64 (i + 1))) b all (.ok () r.tail) := by
 obtain ⟨i', dv, bd, e, h, he, hd, hr, j, rfl, h4, h5⟩ := h; have hj : i = (j : Int) := by
  obtain ⟨g, off, c, h1, h2, h3⟩ := h.row; simp [World.cell?, h1] at hi; exact hi.symm
 subst hj
 cases r with
 | nil => exact absurd hr (by simp [EndR])
 | cons t r' =>
  have hk : t.kind ≠ 0 := fun h0 => by
   have hk : decide (t.kind = 0) = false := hk; rw [h0] at hk; cases hk
  refine ⟨_, _, _, _, (h.set 1 ((j : Int) + 1) all rfl).resolve_right (by omega), he, hd, hr.tail hk, j + 1, by simp, ?_, ?_⟩
  ·rw [← List.drop_drop, h4]; rfl
  ·simp only [List.length_cons] at h5; show j + 1 + r'.length = _; omega
theorem Rf.sign {w : World} {b : Nat} {all : RL} {σ : PR Unit} (h : Rf w b all σ) (c : UInt8) (l : List UInt8) (hc : letB c = false) : tst σ (isT (c :: l)) = tst σ (isS (c :: l)) := by
 obtain ⟨i, dv, bd, e, h, hs⟩ := h
 cases σ with
 | bad a c => rfl
 | ok u r =>
  obtain ⟨-, -, -, j, -, h4, -⟩ := hs
  show (isS _ r || isW _ r) = isS _ r
  have : isW (c :: l) r = false := by
   cases r with
   | nil => rfl
   | cons t r' =>
    have hm : t ∈ all.ts := List.mem_of_mem_drop (by rw [h4]; simp)
    show (decide (t.kind = 1) && decide (t.text = c :: l)) = false
    by_cases h1 : t.kind = 1
    ·obtain ⟨c', l', e, hl⟩ := (h.words t hm).1 h1; rw [e, decide_eq_false (p := c' :: l' = c :: l) (fun e2 => by injection e2 with e2; rw [e2, hc] at hl; cases hl), Bool.and_false]
    ·rw [decide_eq_false h1, Bool.false_and]
  rw [this, Bool.or_false]
theorem Rf.word {w : World} {b : Nat} {all : RL} {σ : PR Unit} (h : Rf w b all σ) (c : UInt8) (l : List UInt8) (hc : letB c = true) : tst σ (isT (c :: l)) = tst σ (isW (c :: l)) := by
 obtain ⟨i, dv, bd, e, h, hs⟩ := h
 cases σ with
 | bad a c => rfl
 | ok u r =>
  obtain ⟨-, -, -, j, -, h4, -⟩ := hs
  show (isS _ r || isW _ r) = isW _ r
  have : isS (c :: l) r = false := by
   cases r with
   | nil => rfl
   | cons t r' =>
    have hm : t ∈ all.ts := List.mem_of_mem_drop (by rw [h4]; simp)
    show (decide (t.kind = 4) && decide (t.text = c :: l)) = false
    by_cases h1 : t.kind = 4
    ·obtain ⟨c', l', e, hl⟩ := (h.words t hm).2 h1; rw [e, decide_eq_false (p := c' :: l' = c :: l) (fun e2 => by injection e2 with e2; rw [e2, hc] at hl; cases hl), Bool.and_false]
    ·rw [decide_eq_false h1, Bool.false_and]
  rw [this, Bool.false_or]
def FAns {α : Type} (w : World) (b : Nat) (all : RL) (σ : PR Unit) (V : World → α → Value → Prop) (J : Value → Prop) (p : List Tok → PR α) (en : Ending) (w' : World) : Prop :=
 ∃ v, en = .returned v ∧ J v ∧ Rf w' b all (σ.bind fun _ => p).unit ∧ (∀ x q, (σ.bind fun _ => p) = .ok x q → V w' x v) ∧ Only (fun k => k = b) w w'
def strF (v : Value) : Prop := ∃ s : List UInt8, v = .string ⟨s.toArray⟩
set_option maxRecDepth 100000 in
theorem fFault_any (b : Nat) (all : RL) (σ : PR Unit) (c : Nat) (hc : c ≠ 0) (w : World) (h : Rf w b all σ) :
  Calls Tryz.prog 36 #[.pointer (some ⟨b, 0, none⟩), .int .i64 (c : Int)] w fun e w' => e = .returned (.tuple #[]) ∧ Rf w' b all (flt σ c) ∧ Only (fun k => k = b) w w' := by
 cases σ with
 | ok u r =>
  obtain ⟨g, off, cc, N, t, r', rfl, i, bd, c0, c1, c2, c3, c4, fz, hi, hNc, hN, hcm, hgb, a1, a2, a3, a4⟩ := h.next; have hiN : (i : Int) < (N : Int) := by omega
  have cf : ∀ w', Only (fun _ => False) w w' → w'.cell? ⟨b, 0, none⟩ = some (.slice (some ⟨g, off, none⟩) N cc) ∧ w'.cell? ⟨b, 1, none⟩ = some (.int .i64 (i : Int)) ∧ w'.cell? ⟨g, off + i * 4 + 3, none⟩ = some (.int .i64 (t.at_ : Int)) := fun w' o =>
   ⟨by rw [cell_keep o (cell_lt c0) (fun h => h)]; exact c0, by rw [cell_keep o (cell_lt c1) (fun h => h)]; exact c1, by rw [cell_keep o (cell_lt a4) (fun h => h)]; exact a4⟩
  have hfin : ∀ wx, Only (fun _ => False) w wx → Rf ((wx.setCell ⟨b, 3, none⟩ (.int .i64 (t.at_ : Int))).setCell ⟨b, 4, none⟩ (.int .i64 (c : Int))) b all (flt (.ok u (t :: r')) c) ∧ Only (fun k => k = b) w ((wx.setCell ⟨b, 3, none⟩ (.int .i64 (t.at_ : Int))).setCell ⟨b, 4, none⟩ (.int .i64 (c : Int))) := fun wx o => by
   refine ⟨?_, ((o.mono (T := fun k => k = b) (fun _ _ h => h.elim)).setCell (.inl rfl) _).setCell (.inl rfl) _⟩
   obtain ⟨i', dv, bd', e, h', -⟩ := h.still o; exact ⟨_, _, _, _, (((h'.set 3 (t.at_ : Int) all rfl).resolve_right (by omega)).set 4 (c : Int) all rfl).resolve_right (by omega), rfl, hc, rfl⟩
  have hcb : ∀ wx, Only (fun _ => False) w wx → wx.cell? ⟨b, 3, none⟩ = some (.int .i64 bd) ∧ wx.cell? ⟨b, 4, none⟩ = some (.int .i64 0) ∧ ∀ o, wx.frozen? ⟨b, o, none⟩ = false := fun wx o => by
   obtain ⟨_, _, _, _, _, _, _, i', bd', _, _, _, k3, k4, k5, -⟩ := (h.still o).next; exact ⟨by rw [cell_keep o (cell_lt c3) (fun h => h)]; exact c3, k4, k5⟩
  have CF := hid cf; have HFIN := hid hfin; have HCB := hid hcb; clear h cf hfin hcb hc a1 a2 a3 a4 c0 c1 c2 c3
  go_enter Tryz.func36, Tryz.ntmps36
  go_upto_region 1 with (fail)
  clear c4 fz; refine wp_region_steps 14 (by kernel_rfl) rfl (by kernel_rfl) [some 9, some 10, some 11, some 12, some 13, some 14, some 15, some 16, some 17, some 18, some 19, some 20, some 21, some 22] rfl rfl (fun _ => False) [(fun v _ => v = (.pointer (some ⟨b, 0, none⟩))), (fun v _ => v = (.pointer (some ⟨b, 0, none⟩))), (fun v _ => v = (.pointer (some ⟨b, 0, none⟩))), (fun v _ => v = (.pointer (some ⟨b, 0, none⟩))), (fun v _ => v = (.slice (some ⟨g, off, none⟩) N cc)), (fun v _ => v = (.pointer (some ⟨b, 0, none⟩))), (fun v _ => v = (.pointer (some ⟨b, 0, none⟩))), (fun v _ => v = (.pointer (some ⟨b, 1, none⟩))), (fun v _ => v = (.int .i64 (i : Int))), (fun v _ => v = (.pointer (some ⟨g, off + i * 4, none⟩))), (fun v _ => v = (.pointer (some ⟨g, off + i * 4 + 3, none⟩))), (fun v _ => v = (.int .i64 (t.at_ : Int))), (fun v _ => v = (.pointer (some ⟨b, 0, none⟩))), (fun v _ => v = (.pointer (some ⟨b, 3, none⟩)))] rfl ⟨?_, ?_, ?_, ?_, ?_, ?_, ?_, ?_, ?_, ?_, ?_, ?_, ?_, ?_, trivial⟩ _ rfl ⟨?_, ?_, ?_, ?_, ?_, ?_, ?_, ?_, ?_, ?_, ?_, ?_, ?_, ?_, trivial⟩ ?_
  iterate 14 exact Stable.is _ _
  ·intro x wx ox hN TT HTT; unfold StepTo; simp only [putAll, Act.put, zA, zB, zC]; clear hN
   go_wp2_with fail
   exact ⟨rfl, _, rfl, HTT.out _ _ rfl oR⟩
  ·intro x wx ox hN TT HTT; unfold StepTo; simp only [putAll, Act.put, zA, zB, zC]; clear hN
   go_wp2_with fail
   exact ⟨rfl, _, rfl, HTT.out _ _ rfl oR⟩
  ·intro x wx ox hN TT HTT; unfold StepTo; simp only [putAll, Act.put, zA, zB, zC, eI (hN.1 rfl)]; clear hN
   go_wp2_with fail
   exact ⟨rfl, _, rfl, HTT.out _ _ rfl oR⟩
  ·intro x wx ox hN TT HTT; unfold StepTo; simp only [putAll, Act.put, zA, zB, zC, eI (hN.1 rfl)]; clear hN
   go_wp2_with fail
   exact ⟨rfl, _, rfl, HTT.out _ _ rfl oR⟩
  ·intro x wx ox hN TT HTT; unfold StepTo; simp only [putAll, Act.put, zA, zB, zC, eI (hN.1 rfl)]; clear hN; obtain ⟨x0, x1, x2⟩ := CF.out wx (((Only.refl _ w).drew).trans ox)
   go_wp2_with fail
   exact ⟨rfl, _, rfl, HTT.out _ _ rfl oR⟩
  ·intro x wx ox hN TT HTT; unfold StepTo; simp only [putAll, Act.put, zA, zB, zC]; clear hN
   go_wp2_with fail
   exact ⟨rfl, _, rfl, HTT.out _ _ rfl oR⟩
  ·intro x wx ox hN TT HTT; unfold StepTo; simp only [putAll, Act.put, zA, zB, zC, eI (hN.1 rfl)]; clear hN
   go_wp2_with fail
   exact ⟨rfl, _, rfl, HTT.out _ _ rfl oR⟩
  ·intro x wx ox hN TT HTT; unfold StepTo; simp only [putAll, Act.put, zA, zB, zC, eI (hN.1 rfl)]; clear hN
   go_wp2_with fail
   exact ⟨rfl, _, rfl, HTT.out _ _ rfl oR⟩
  ·intro x wx ox hN TT HTT; unfold StepTo; simp only [putAll, Act.put, zA, zB, zC, eI (hN.1 rfl)]; clear hN; obtain ⟨x0, x1, x2⟩ := CF.out wx (((Only.refl _ w).drew).trans ox)
   go_wp2_with fail
   exact ⟨rfl, _, rfl, HTT.out _ _ rfl oR⟩
  ·intro x wx ox hN TT HTT; unfold StepTo; simp only [putAll, Act.put, zA, zB, zC, eI (hN.1 rfl), eI (hN.2.1 rfl)]; clear hN
   go_wp2_with fail
   exact ⟨rfl, _, rfl, HTT.out _ _ rfl oR⟩
  ·intro x wx ox hN TT HTT; unfold StepTo; simp only [putAll, Act.put, zA, zB, zC, eI (hN.1 rfl)]; clear hN
   go_wp2_with fail
   exact ⟨rfl, _, rfl, HTT.out _ _ rfl oR⟩
  ·intro x wx ox hN TT HTT; unfold StepTo; simp only [putAll, Act.put, zA, zB, zC, eI (hN.1 rfl)]; clear hN; obtain ⟨x0, x1, x2⟩ := CF.out wx (((Only.refl _ w).drew).trans ox)
   go_wp2_with fail
   exact ⟨rfl, _, rfl, HTT.out _ _ rfl oR⟩
  ·intro x wx ox hN TT HTT; unfold StepTo; simp only [putAll, Act.put, zA, zB, zC, eI (hN.1 rfl), eI (hN.2.2.1 rfl), eI (hN.2.2.2.1 rfl), eI (hN.2.2.2.2.1 rfl), eI (hN.2.2.2.2.2.1 rfl), eI (hN.2.2.2.2.2.2.1 rfl), eI (hN.2.2.2.2.2.2.2.1 rfl), eI (hN.2.2.2.2.2.2.2.2.1 rfl), eI (hN.2.2.2.2.2.2.2.2.2.1 rfl), eI (hN.2.2.2.2.2.2.2.2.2.2.1 rfl), eI (hN.2.2.2.2.2.2.2.2.2.2.2.1 rfl), eI (hN.2.2.2.2.2.2.2.2.2.2.2.2.1 rfl)]; clear hN
   go_wp2_with fail
   exact ⟨rfl, _, rfl, HTT.out _ _ rfl oR⟩
  ·intro x wx ox hN TT HTT; unfold StepTo; simp only [putAll, Act.put, zA, zB, zC, eI (hN.1 rfl), eI (hN.2.1 rfl), eI (hN.2.2.1 rfl), eI (hN.2.2.2.1 rfl), eI (hN.2.2.2.2.1 rfl), eI (hN.2.2.2.2.2.1 rfl), eI (hN.2.2.2.2.2.2.1 rfl), eI (hN.2.2.2.2.2.2.2.1 rfl), eI (hN.2.2.2.2.2.2.2.2.1 rfl), eI (hN.2.2.2.2.2.2.2.2.2.1 rfl), eI (hN.2.2.2.2.2.2.2.2.2.2.1 rfl), eI (hN.2.2.2.2.2.2.2.2.2.2.2.1 rfl), eI (hN.2.2.2.2.2.2.2.2.2.2.2.2.1 rfl)]; clear hN
   go_wp2_with fail
   exact ⟨rfl, _, rfl, HTT.out _ _ rfl oR⟩
  intro xz wxz oxz hN; simp only [putAll, Act.put, zA, zB, zC, eI hN.1, eI hN.2.1, eI hN.2.2.1, eI hN.2.2.2.1, eI hN.2.2.2.2.1, eI hN.2.2.2.2.2.1, eI hN.2.2.2.2.2.2.1, eI hN.2.2.2.2.2.2.2.1, eI hN.2.2.2.2.2.2.2.2.1, eI hN.2.2.2.2.2.2.2.2.2.1, eI hN.2.2.2.2.2.2.2.2.2.2.1, eI hN.2.2.2.2.2.2.2.2.2.2.2.1, eI hN.2.2.2.2.2.2.2.2.2.2.2.2.1, eI hN.2.2.2.2.2.2.2.2.2.2.2.2.2.1]; clear hN; obtain ⟨z3, z4, fz⟩ := HCB.out wxz (((Only.refl (fun _ => False) w).drew).trans oxz); have HF := hid (HFIN.out wxz (((Only.refl (fun _ => False) w).drew).trans oxz)); clear oxz CF HFIN HCB
  go_wp2_with fail
  clear z3 z4 fz
  go_end0
  exact ⟨rfl, HF.out.1, HF.out.2⟩
 | bad a d =>
  obtain ⟨hd, v, i, dv, c0, c1, c2, c3, c4, fz⟩ := h.bad_cells; have H3 := hid (show Rf w b all (flt (.bad a d) c) from h); have t1 : ((d : Int) == 0) = false := by simp; omega
  clear h c0 c1 c2 c3 hd
  go_enter Tryz.func36, Tryz.ntmps36
  go_wp2_with fail
  go_end0
  exact ⟨rfl, H3.out, oR⟩
set_option maxRecDepth 100000 in
theorem fSign_any (b : Nat) (all : RL) (σ : PR Unit) (s : List UInt8) (w : World) (h : Rf w b all σ) :
  Calls Tryz.prog 40 #[.pointer (some ⟨b, 0, none⟩), .string ⟨s.toArray⟩] w fun e w' => e = .returned (.bool (tst σ (isS s))) ∧ Only (fun _ => False) w w' := by
 cases σ with
 | ok u r =>
  obtain ⟨g, off, cc, N, t, r', rfl, i, bd, c0, c1, c2, c3, c4, fz, hi, hNc, hN, hcm, hgb, a1, a2, a3, a4⟩ := h.next; have hiN : (i : Int) < (N : Int) := by omega
  clear h c2 c3 a3 a4 fz
  by_cases hk : t.kind = 4
  ·have t1 : ((t.kind : Int) == 4) = true := by simp; omega
   have he : tst (.ok u (t :: r')) (isS s) = (t.text == s) := by
    show (decide (t.kind = 4) && decide (t.text = s)) = _
    rw [decide_eq_true hk, Bool.true_and, Bool.eq_iff_iff]; simp only [decide_eq_true_eq, beq_iff_eq]
   rw [he]; clear he hk
   go_enter Tryz.func40, Tryz.ntmps40
   go_wp2_with fail
   go_quiet (fail)
   go_wp2_with fail
   clear c0 c1 c4 a1 a2 t1
   go_ret
   exact ⟨rfl, (Only.refl _ w).drewN nq⟩
  ·have t1 : ((t.kind : Int) == 4) = false := by simp; omega
   have he : tst (.ok u (t :: r')) (isS s) = false := by
    show (decide (t.kind = 4) && decide (t.text = s)) = _
    rw [decide_eq_false hk, Bool.false_and]
   rw [he]; clear he hk
   go_enter Tryz.func40, Tryz.ntmps40
   go_wp2_with fail
   go_quiet (fail)
   go_wp2_with fail
   clear c0 c1 c4 a1 a2 t1
   go_ret
   exact ⟨rfl, (Only.refl _ w).drewN nq⟩
 | bad a d =>
  obtain ⟨hd, v, i, dv, c0, c1, c2, c3, c4, fz⟩ := h.bad_cells; have t1 : ((d : Int) == 0) = false := by simp; omega
  clear h c1 c2 c3 hd fz
  go_enter Tryz.func40, Tryz.ntmps40
  go_wp2_with fail
  go_quiet (fail)
  go_wp2_with fail
  clear c0 c4 t1
  go_ret
  exact ⟨rfl, (Only.refl _ w).drewN nq⟩
set_option maxRecDepth 100000 in
theorem fWord_any (b : Nat) (all : RL) (σ : PR Unit) (s : List UInt8) (w : World) (h : Rf w b all σ) :
  Calls Tryz.prog 35 #[.pointer (some ⟨b, 0, none⟩), .string ⟨s.toArray⟩] w fun e w' => e = .returned (.bool (tst σ (isW s))) ∧ Only (fun _ => False) w w' := by
 cases σ with
 | ok u r =>
  obtain ⟨g, off, cc, N, t, r', rfl, i, bd, c0, c1, c2, c3, c4, fz, hi, hNc, hN, hcm, hgb, a1, a2, a3, a4⟩ := h.next; have hiN : (i : Int) < (N : Int) := by omega
  clear h c2 c3 a3 a4 fz
  by_cases hk : t.kind = 1
  ·have t1 : ((t.kind : Int) == 1) = true := by simp; omega
   have he : tst (.ok u (t :: r')) (isW s) = (t.text == s) := by
    show (decide (t.kind = 1) && decide (t.text = s)) = _
    rw [decide_eq_true hk, Bool.true_and, Bool.eq_iff_iff]; simp only [decide_eq_true_eq, beq_iff_eq]
   rw [he]; clear he hk
   go_enter Tryz.func35, Tryz.ntmps35
   go_wp2_with fail
   go_quiet (fail)
   go_wp2_with fail
   clear c0 c1 c4 a1 a2 t1
   go_ret
   exact ⟨rfl, (Only.refl _ w).drewN nq⟩
  ·have t1 : ((t.kind : Int) == 1) = false := by simp; omega
   have he : tst (.ok u (t :: r')) (isW s) = false := by
    show (decide (t.kind = 1) && decide (t.text = s)) = _
    rw [decide_eq_false hk, Bool.false_and]
   rw [he]; clear he hk
   go_enter Tryz.func35, Tryz.ntmps35
   go_wp2_with fail
   go_quiet (fail)
   go_wp2_with fail
   clear c0 c1 c4 a1 a2 t1
   go_ret
   exact ⟨rfl, (Only.refl _ w).drewN nq⟩
 | bad a d =>
  obtain ⟨hd, v, i, dv, c0, c1, c2, c3, c4, fz⟩ := h.bad_cells; have t1 : ((d : Int) == 0) = false := by simp; omega
  clear h c1 c2 c3 hd fz
  go_enter Tryz.func35, Tryz.ntmps35
  go_wp2_with fail
  go_quiet (fail)
  go_wp2_with fail
  clear c0 c4 t1
  go_ret
  exact ⟨rfl, (Only.refl _ w).drewN nq⟩
set_option maxRecDepth 100000 in
theorem fKind_any (b : Nat) (all : RL) (σ : PR Unit) (k : Nat) (w : World) (h : Rf w b all σ) (hk : k < 256) :
  Calls Tryz.prog 34 #[.pointer (some ⟨b, 0, none⟩), .int .u8 (k : Int)] w fun e w' => e = .returned (.bool (tst σ (isK k))) ∧ Only (fun _ => False) w w' := by
 cases σ with
 | ok u r =>
  obtain ⟨g, off, cc, N, t, r', rfl, i, bd, c0, c1, c2, c3, c4, fz, hi, hNc, hN, hcm, hgb, a1, a2, a3, a4⟩ := h.next; have hiN : (i : Int) < (N : Int) := by omega
  clear h c2 c3 a2 a3 a4 fz; have he : tst (.ok u (t :: r')) (isK k) = ((t.kind : Int) == (k : Int)) := by
   show decide (t.kind = k) = _
   rw [Bool.eq_iff_iff]; simp; omega
  rw [he]; clear he
  go_enter Tryz.func34, Tryz.ntmps34
  go_wp2_with fail
  go_quiet (fail)
  go_wp2_with fail
  clear c0 c1 c4 a1
  go_ret
  exact ⟨rfl, (Only.refl _ w).drewN nq⟩
 | bad a d =>
  obtain ⟨hd, v, i, dv, c0, c1, c2, c3, c4, fz⟩ := h.bad_cells; have t1 : ((d : Int) == 0) = false := by simp; omega
  clear h c1 c2 c3 hd fz
  go_enter Tryz.func34, Tryz.ntmps34
  go_wp2_with fail
  go_quiet (fail)
  go_wp2_with fail
  clear c0 c4 t1
  go_ret
  exact ⟨rfl, (Only.refl _ w).drewN nq⟩
def tookF (σ : PR Unit) (s : List UInt8) : PR Unit := if tst σ (isT s) then adv σ else σ
set_option maxRecDepth 100000 in
theorem fEat_any (b : Nat) (all : RL) (σ : PR Unit) (s : List UInt8) (w : World) (h : Rf w b all σ) :
  Calls Tryz.prog 41 #[.pointer (some ⟨b, 0, none⟩), .string ⟨s.toArray⟩] w fun e w' => e = .returned (.bool (tst σ (isT s))) ∧ Rf w' b all (tookF σ s) ∧ Only (fun k => k = b) w w' := by
 have H := hid h; have I := hid (fSign_any b all σ s w h); obtain ⟨b1, hb1⟩ := eX (tst σ (isS s)); obtain ⟨b2, hb2⟩ := eX (tst σ (isW s)); have hT : tst σ (isT s) = (b1 || b2) := by cases σ with
  | ok u r => rw [← hb1, ← hb2]; rfl
  | bad a c => rw [← hb1, ← hb2]; rfl
 have hyes : b1 = true ∨ b2 = true → ∃ r, σ = .ok () r ∧ isK 0 r = false := fun hb => by
  cases σ with
  | bad a c =>
   rcases hb with hb | hb
   ·rw [hb] at hb1; cases hb1
   ·rw [hb] at hb2; cases hb2
  | ok u r =>
   refine ⟨r, rfl, ?_⟩
   cases r with
   | nil => rfl
   | cons t r' =>
    show decide (t.kind = 0) = false
    refine decide_eq_false (fun h0 => ?_)
    rcases hb with hb | hb
    ·rw [hb] at hb1; have hb1 : (decide (t.kind = 4) && decide (t.text = s)) = true := hb1; rw [h0] at hb1; cases hb1
    ·rw [hb] at hb2; have hb2 : (decide (t.kind = 1) && decide (t.text = s)) = true := hb2; rw [h0] at hb2; cases hb2
 unfold tookF; rw [hT]; rw [hb1] at I; have HY := hid hyes; have HB2 := hid hb2; clear hyes hT hb1 hb2 h
 cases b1
 ·go_enter Tryz.func41, Tryz.ntmps41
  go_wp2_with fail
  refine I.out.mono ?_
  rintro e w1 ⟨rfl, O1⟩; have H1 := hid (H.out.still O1); have HO1 := hid O1; clear O1; have J := hid (fWord_any b all σ s w1 H1.out); rw [HB2.out] at J
  go_wp2_with fail
  refine J.out.mono ?_
  rintro e w2 ⟨rfl, O2⟩
  cases b2
  ·have H2 := hid (H1.out.still O2); have HO2 := hid (HO1.out.trans O2); clear O2
   go_wp2_with fail
   go_ret
   exact ⟨rfl, H2.out, HO2.out.mono (fun _ _ h => h.elim)⟩
  ·obtain ⟨r, rfl, hk⟩ := HY.out (.inr rfl); have h2 := H1.out.still O2; obtain ⟨g, off, cc, N, t, r', hr, i, bd, c0, c1, c2, c3, c4, fz, hi, hNc, hN, hcm, hgb, -⟩ := h2.next; have h3 := h2.step hk c1; have hO : Only (fun k => k = b) w (w2.setCell ⟨b, 1, none⟩ (.int .i64 ((i : Int) + 1))) := ((HO1.out.trans O2).mono (T := fun k => k = b) (fun _ _ h => h.elim)).setCell (.inl rfl) _; have H3 := hid (show Rf _ b all (adv (.ok () r)) from h3); have HO := hid hO; clear h2 h3 hO O2 hr hk
   go_wp2_with fail
   clear c0 c1 c2 c3 c4 fz
   go_ret
   exact ⟨rfl, H3.out, HO.out⟩
 ·obtain ⟨r, rfl, hk⟩ := HY.out (.inl rfl)
  go_enter Tryz.func41, Tryz.ntmps41
  go_wp2_with fail
  refine I.out.mono ?_
  rintro e w2 ⟨rfl, O2⟩; have h2 := H.out.still O2; obtain ⟨g, off, cc, N, t, r', hr, i, bd, c0, c1, c2, c3, c4, fz, hi, hNc, hN, hcm, hgb, -⟩ := h2.next; have h3 := h2.step hk c1; have hO : Only (fun k => k = b) w (w2.setCell ⟨b, 1, none⟩ (.int .i64 ((i : Int) + 1))) := (O2.mono (T := fun k => k = b) (fun _ _ h => h.elim)).setCell (.inl rfl) _; have H3 := hid (show Rf _ b all (adv (.ok () r)) from h3); have HO := hid hO; clear h2 h3 hO O2 hr hk
  go_wp2_with fail
  clear c0 c1 c2 c3 c4 fz
  go_ret
  exact ⟨rfl, H3.out, HO.out⟩
theorem fwant_took (σ : PR Unit) (s : List UInt8) : (σ.bind fun _ => wantP s).unit = if tst σ (isT s) then adv σ else flt σ 4 := by
 cases σ with
 | ok u r =>
  show PR.unit (wantP s r) = if isT s r then PR.ok () r.tail else .bad (atT r) 4
  unfold wantP
  split <;> rfl
 | bad a e => rfl
theorem Rf.err {w : World} {b : Nat} {all : RL} {σ : PR Unit} (h : Rf w b all σ) : ∃ e : Nat, w.cell? ⟨b, 4, none⟩ = some (.int .i64 (e : Int)) ∧ (∀ o, w.frozen? ⟨b, o, none⟩ = false) ∧ ((∃ r, σ = .ok () r ∧ e = 0) ∨ (∃ a, σ = .bad a e ∧ e ≠ 0)) := by
 cases σ with
 | ok u r =>
  obtain ⟨g, off, cc, N, t, r', hr, i, bd, c0, c1, c2, c3, c4, fz, -⟩ := h.next; exact ⟨0, c4, fz, .inl ⟨r, rfl, rfl⟩⟩
 | bad a c =>
  obtain ⟨h1, v, i, dv, c0, c1, c2, c3, c4, fz⟩ := h.bad_cells; exact ⟨c, c4, fz, .inr ⟨a, rfl, h1⟩⟩
set_option maxRecDepth 100000 in
theorem fMust_any (b : Nat) (all : RL) (σ : PR Unit) (s : List UInt8) (w : World) (h : Rf w b all σ) :
  Calls Tryz.prog 38 #[.pointer (some ⟨b, 0, none⟩), .string ⟨s.toArray⟩] w fun e w' => e = .returned (.tuple #[]) ∧ Rf w' b all (σ.bind fun _ => wantP s).unit ∧ Only (fun k => k = b) w w' := by
 have T := hid (fEat_any b all σ s w h); obtain ⟨e0, ce, fz, he⟩ := h.err; have H := hid h; clear h; rw [fwant_took]
 rcases he with ⟨r, rfl, rfl⟩ | ⟨a, rfl, hc⟩
 ·unfold tookF at T; obtain ⟨bb, hb⟩ := eX (tst (.ok () r) (isT s)); rw [hb] at T ⊢; clear hb
  cases bb
  ·rw [if_neg (by decide)] at T ⊢
   go_enter Tryz.func38, Tryz.ntmps38
   go_wp2_with fail
   refine T.out.mono ?_
   rintro e w1 ⟨rfl, h1, o1⟩; have O1 := hid o1; have J := hid (fFault_any b all (.ok () r) 4 (by decide) w1 h1); clear o1 h1 ce fz
   go_wp2_with fail
   refine J.out.mono ?_
   rintro e w2 ⟨rfl, h2, o2⟩; have H2 := hid h2; have O2 := hid (O1.out.trans o2); clear h2 o2
   go_wp2_with fail
   go_end0
   exact ⟨rfl, H2.out, O2.out⟩
  ·rw [if_pos rfl] at T ⊢
   go_enter Tryz.func38, Tryz.ntmps38
   go_wp2_with fail
   refine T.out.mono ?_
   rintro e w1 ⟨rfl, h1, o1⟩; have H1 := hid h1; have O1 := hid o1; clear h1 o1 ce fz
   go_wp2_with fail
   go_end0
   exact ⟨rfl, H1.out, O1.out⟩
 ·have t1 : ((e0 : Int) == 0) = false := by simp; omega
  have H2 := hid (show Rf w b all (if tst (.bad a e0) (isT s) then adv (.bad a e0) else flt (.bad a e0) 4) from H.out); clear T hc
  go_enter Tryz.func38, Tryz.ntmps38
  go_wp2_with fail
  clear ce fz
  go_end0
  exact ⟨rfl, H2.out, oR⟩
set_option maxRecDepth 100000 in
theorem fName_any (b : Nat) (all : RL) (σ : PR Unit) (w : World) (h : Rf w b all σ) :
  Calls Tryz.prog 37 #[.pointer (some ⟨b, 0, none⟩)] w (FAns w b all σ (fun _ (s : List UInt8) v => v = .string ⟨s.toArray⟩) strF nameP) := by
 have T := hid (fKind_any b all σ 1 w h (by decide)); have H := hid h; obtain ⟨bb, hb⟩ := eX (tst σ (isK 1)); rw [hb] at T
 cases bb
 ·have hp : (σ.bind fun _ => nameP).unit = flt σ 4 := by
   cases σ with
   | bad a c => rfl
   | ok u r =>
    have hb : isK 1 r = false := hb
    cases r with
    | nil => rfl
    | cons t r' =>
     have hk : ¬ t.kind = 1 := by simpa [isK] using hb
     show PR.unit (if t.kind = 1 then PR.ok t.text r' else .bad t.at_ 4) = _
     rw [if_neg hk]; rfl
  have hno : ∀ x q, (σ.bind fun _ => nameP) ≠ .ok x q := fun x q hx => by
   rw [show (σ.bind fun _ => nameP).unit = .ok () q from by rw [hx]; rfl] at hp
   cases σ <;> cases hp
  have HP : ∀ w2, Rf w2 b all (flt σ 4) → Only (fun k => k = b) w w2 → FAns w b all σ (fun _ (s : List UInt8) v => v = .string ⟨s.toArray⟩) strF nameP (.returned (.string ⟨#[]⟩)) w2 := fun w2 k1 k2 =>
   ⟨_, rfl, ⟨[], rfl⟩, by rw [hp]; exact k1, fun x q e => absurd e (hno x q), k2⟩
  have HPP := hid HP; clear HP hp hno h hb
  generalize (FAns w b all σ (fun _ (s : List UInt8) v => v = .string ⟨s.toArray⟩) strF nameP) = Q at *
  go_enter Tryz.func37, Tryz.ntmps37
  go_wp2_with fail
  refine T.out.mono ?_
  rintro e w1 ⟨rfl, o1⟩; have J := hid (fFault_any b all σ 4 (by decide) w1 (H.out.still o1)); have O1 := hid (o1.mono (T := fun k => k = b) (fun _ _ h => h.elim)); clear o1
  go_wp2_with fail
  refine J.out.mono ?_
  rintro e w2 ⟨rfl, h2, o2⟩; have HE := hid (HPP.out w2 h2 (O1.out.trans o2)); clear h2 o2
  go_wp2_with fail
  first
   | exact HE.out
   | (go_ret; exact HE.out)
 ·obtain ⟨t, r', rfl, hk⟩ : ∃ t r', σ = .ok () (t :: r') ∧ t.kind = 1 := by
   cases σ with
   | bad a c => cases hb
   | ok u r =>
    have hb : isK 1 r = true := hb
    cases r with
    | nil => cases hb
    | cons t r' => exact ⟨t, r', rfl, by simpa [isK] using hb⟩
  have hp : ((PR.ok () (t :: r') : PR Unit).bind fun _ => nameP) = .ok t.text r' := by
   show (if t.kind = 1 then PR.ok t.text r' else .bad t.at_ 4) = _
   rw [if_pos hk]
  have HP : ∀ w2, Rf w2 b all (.ok () r') → Only (fun k => k = b) w w2 → FAns w b all (.ok () (t :: r')) (fun _ (s : List UInt8) v => v = .string ⟨s.toArray⟩) strF nameP (.returned (.string ⟨t.text.toArray⟩)) w2 := fun w2 k1 k2 =>
   ⟨_, rfl, ⟨_, rfl⟩, by rw [hp]; exact k1, fun x q e => by rw [hp] at e; injection e with e _; rw [e], k2⟩
  have HPP := hid HP; have HK := hid hk; clear HP hp h hb hk
  generalize (FAns w b all (.ok () (t :: r')) (fun _ (s : List UInt8) v => v = .string ⟨s.toArray⟩) strF nameP) = Q at *
  go_enter Tryz.func37, Tryz.ntmps37
  go_wp2_with fail
  refine T.out.mono ?_
  rintro e w1 ⟨rfl, ow1⟩; have h1 := H.out.still ow1; obtain ⟨g, off, c, N, t', r'', he, i, bd, c0, c1, c2, c3, c4, fz, hi, hNc, hN, hcm, hgb, a1, a2, a3, a4⟩ := h1.next
  injection he with he1 he2
  subst he1; subst he2; have h3 := h1.step (show decide (t.kind = 0) = false by rw [HK.out]; decide) c1; have hO : Only (fun k => k = b) w (w1.setCell ⟨b, 1, none⟩ (.int .i64 ((i : Int) + 1))) := (ow1.mono (T := fun k => k = b) (fun _ _ h => h.elim)).setCell (.inl rfl) _; have hgb2 : g ≠ b := by omega
  have cc0 : (w1.setCell ⟨b, 1, none⟩ (.int .i64 ((i : Int) + 1))).cell? ⟨b, 0, none⟩ = some (.slice (some ⟨g, off, none⟩) N c) := by simp [go_sem, c0]
  have cc1 : (w1.setCell ⟨b, 1, none⟩ (.int .i64 ((i : Int) + 1))).cell? ⟨b, 1, none⟩ = some (.int .i64 ((i : Int) + 1)) := by simp [go_sem, c1]
  have cc2 : (w1.setCell ⟨b, 1, none⟩ (.int .i64 ((i : Int) + 1))).cell? ⟨g, off + i * 4 + 1, none⟩ = some (.string ⟨t.text.toArray⟩) := by simp [go_sem, a2, hgb2]
  obtain ⟨w2, hw2⟩ := eX (w1.setCell ⟨b, 1, none⟩ (.int .i64 ((i : Int) + 1))); rw [hw2] at cc0 cc1 cc2 h3 hO; have H3 := hid (show Rf w2 b all (.ok () r') from h3); have HO := hid hO; have HW2 := hid hw2; have CC := hid (And.intro cc0 (And.intro cc1 cc2)); clear hw2 cc0 cc1 cc2 h3 hO ow1 h1 a1 a2 a3 a4 H T; have j1 : (i : Int) + 1 ≤ (N : Int) := by omega
  have j2 : (i : Int) < (N : Int) := by omega
  have j3 : IntKind.i64.wrap ((i : Int) + 1 - 1) = (i : Int) := by rw [show (i : Int) + 1 - 1 = i from by omega]; exact IntWalk.i64_in _ (by omega)
  go_upto_region 5 with (fail)
  rw [HW2.out]; clear c0 c1 c2 c3 c4 fz; obtain ⟨cc0, cc1, cc2⟩ := CC.out
  go_quiet (fail)
  have HQ := hid (H3.out.still ((Only.refl (fun _ => False) w2).drewN nq)); have HOQ := hid (HO.out.drewN nq); clear cc0 cc1 cc2
  go_wp2_with fail
  first
   | exact HPP.out _ HQ.out HOQ.out
   | (go_ret; exact HPP.out _ HQ.out HOQ.out)
def okB : PR Unit → Bool
 | .ok _ _ => true
 | .bad _ _ => false
def opn (dp : Nat) (σ : PR Unit) : PR Unit := if 24 ≤ dp then flt σ 5 else σ
theorem Rf.deep {w : World} {b : Nat} {all : RL} {σ : PR Unit} (h : Rf w b all σ) (all' : RL) (ha : all'.ts = all.ts) (x : Int) (hx : okB σ = true → x = (all'.dp : Int)) : Rf (w.setCell ⟨b, 2, none⟩ (.int .i64 x)) b all' σ := by
 obtain ⟨i, dv, bd, e, h, hs⟩ := h; refine ⟨_, _, _, _, (h.set 2 x all' ha).resolve_right (by omega), ?_⟩
 cases σ with
 | bad a c => exact hs
 | ok u r =>
  obtain ⟨h1, h2, h3, j, h4, h5, h6⟩ := hs; exact ⟨h1, hx rfl, h3, j, h4, by rw [ha]; exact h5, by rw [ha]; exact h6⟩
set_option maxRecDepth 100000 in
theorem fOpen_any (b : Nat) (all : RL) (hd : all.dp ≤ 1000) (σ : PR Unit) (w : World) (h : Rf w b all σ) :
  Calls Tryz.prog 70 #[.pointer (some ⟨b, 0, none⟩)] w fun e w' => e = .returned (.bool (okB (opn all.dp σ))) ∧ Rf w' b all.in_ (opn all.dp σ) ∧ Only (fun k => k = b) w w' := by
 cases σ with
 | ok u r =>
  obtain ⟨g, off, c, N, t, r', rfl, i, bd, c0, c1, c2, c3, c4, fz, -⟩ := h.next; have h2 := h.deep all.in_ rfl ((all.dp : Int) + 1) (fun _ => by show (all.dp : Int) + 1 = ((all.dp + 1 : Nat) : Int); omega); have ho : Only (fun k => k = b) w (w.setCell ⟨b, 2, none⟩ (.int .i64 ((all.dp : Int) + 1))) := (Only.refl (fun k => k = b) w).setCell (.inl rfl) _; have q2 : (w.setCell ⟨b, 2, none⟩ (.int .i64 ((all.dp : Int) + 1))).cell? ⟨b, 2, none⟩ = some (.int .i64 ((all.dp : Int) + 1)) := by simp [go_sem, c2]
  have q4 : (w.setCell ⟨b, 2, none⟩ (.int .i64 ((all.dp : Int) + 1))).cell? ⟨b, 4, none⟩ = some (.int .i64 0) := by simp [go_sem, c4]
  obtain ⟨w1, hw1⟩ := eX (w.setCell ⟨b, 2, none⟩ (.int .i64 ((all.dp : Int) + 1))); rw [hw1] at h2 ho q2 q4; have HW1 := hid hw1; have H2 := hid h2; have HO := hid ho; have Q2 := hid (And.intro q2 q4); clear hw1 h2 ho h c0 c1 c3 q2 q4
  by_cases hdp : 24 ≤ all.dp
  ·have t1 : decide ((all.dp : Int) + 1 > 24) = true := decide_eq_true (by omega); have he : opn all.dp (.ok u (t :: r')) = flt (.ok u (t :: r')) 5 := if_pos hdp; rw [he]; have J := hid (fFault_any b all.in_ _ 5 (by decide) w1 H2.out); clear he hdp
   go_enter Tryz.func70, Tryz.ntmps70
   go_upto_region 2 with (fail)
   rw [HW1.out]; clear c2 c4 fz; obtain ⟨q2, q4⟩ := Q2.out
   go_wp2_with fail
   refine J.out.mono ?_
   rintro e w2 ⟨rfl, h2, o2⟩; obtain ⟨_, v, i, dv, k0, k1, k2, k3, k4, kf⟩ := Rf.bad_cells h2; have H3 := hid h2; have O3 := hid (HO.out.trans o2); clear h2 o2 q2 q4 k0 k1 k2 k3
   go_wp2_with fail
   clear k4 kf
   go_ret
   exact ⟨rfl, H3.out, O3.out⟩
  ·have t1 : decide ((all.dp : Int) + 1 > 24) = false := decide_eq_false (by omega); have he : opn all.dp (.ok u (t :: r')) = .ok u (t :: r') := if_neg hdp; rw [he]; clear he hdp
   go_enter Tryz.func70, Tryz.ntmps70
   go_upto_region 2 with (fail)
   rw [HW1.out]; clear c2 c4 fz; obtain ⟨q2, q4⟩ := Q2.out
   go_wp2_with fail
   clear q2 q4
   go_ret
   exact ⟨rfl, H2.out, HO.out⟩
 | bad a d =>
  have he : opn all.dp (.bad a d) = .bad a d := by unfold opn; split <;> rfl
  rw [he]; obtain ⟨hd0, v, i, dv, c0, c1, c2, c3, c4, fz⟩ := h.bad_cells; have td : ((d : Int) == 0) = false := by simp; omega
  obtain ⟨x, hx⟩ := eX (IntKind.i64.wrap (dv + 1)); have h2 := h.deep all.in_ rfl x (fun h => by cases h); have ho : Only (fun k => k = b) w (w.setCell ⟨b, 2, none⟩ (.int .i64 x)) := (Only.refl (fun k => k = b) w).setCell (.inl rfl) _; have q2 : (w.setCell ⟨b, 2, none⟩ (.int .i64 x)).cell? ⟨b, 2, none⟩ = some (.int .i64 x) := by simp [go_sem, c2]
  have q4 : (w.setCell ⟨b, 2, none⟩ (.int .i64 x)).cell? ⟨b, 4, none⟩ = some (.int .i64 (d : Int)) := by simp [go_sem, c4]
  obtain ⟨w1, hw1⟩ := eX (w.setCell ⟨b, 2, none⟩ (.int .i64 x)); rw [hw1] at h2 ho q2 q4; have HW1 := hid hw1; have H2 := hid h2; have HO := hid ho; have Q2 := hid (And.intro q2 q4); clear hw1 h2 ho h c0 c1 c3 q2 q4 hd0
  by_cases hdp : 24 < x
  ·have t1 : decide (x > 24) = true := decide_eq_true hdp; have J := hid (fFault_any b all.in_ _ 5 (by decide) w1 H2.out); clear he hdp
   go_enter Tryz.func70, Tryz.ntmps70
   go_upto_region 2 with (fail)
   rw [HW1.out]; clear c2 c4 fz; obtain ⟨q2, q4⟩ := Q2.out
   go_wp2_with fail
   refine J.out.mono ?_
   rintro e w2 ⟨rfl, h2, o2⟩; obtain ⟨_, v, i, dv, k0, k1, k2, k3, k4, kf⟩ := Rf.bad_cells (show Rf w2 b all.in_ (.bad a d) from h2); have H3 := hid h2; have O3 := hid (HO.out.trans o2); clear h2 o2 q2 q4 k0 k1 k2 k3
   go_wp2_with fail
   clear k4 kf
   go_ret
   exact ⟨rfl, H3.out, O3.out⟩
  ·have t1 : decide (x > 24) = false := decide_eq_false hdp; clear he hdp
   go_enter Tryz.func70, Tryz.ntmps70
   go_upto_region 2 with (fail)
   rw [HW1.out]; clear c2 c4 fz; obtain ⟨q2, q4⟩ := Q2.out
   go_wp2_with fail
   clear q2 q4
   go_ret
   exact ⟨rfl, H2.out, HO.out⟩
end Go.Proofs.YtnkpoddbbdmipaaGreatDoor
