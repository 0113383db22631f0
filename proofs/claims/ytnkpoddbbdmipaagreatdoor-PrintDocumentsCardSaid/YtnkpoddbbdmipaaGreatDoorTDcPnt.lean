/- . -/
import Derived.Test.YtnkpoddbbdmipaaGreatDoorTDcSdP
import Derived.Test.YtnkpoddbbdmipaaGreatDoorTDcPrB
namespace Go.Proofs.YtnkpoddbbdmipaaGreatDoor
set_option linter.unusedVariables false
set_option linter.unusedSimpArgs false
def digS (n : Nat) : List UInt8 := if h : n < 10 then [UInt8.ofNat (48 + n)] else digS (n / 10) ++ [UInt8.ofNat (48 + n % 10)]
termination_by n
def numS (n : Int) : List UInt8 := sgn (decide (n < 0)) (digS n.natAbs)
def esc1 (c : UInt8) : List UInt8 := if c.toNat = 10 then [92, 110] else if c.toNat = 9 then [92, 116] else if c.toNat = 34 ∨ c.toNat = 92 then [92, c] else [c]
def escS (s : List UInt8) : List UInt8 := s.flatMap esc1
def quoS (s : List UInt8) : List UInt8 := 34 :: (escS s ++ [34])
inductive It where
 | tk (k : Nat) (src t : List UInt8) (n : Int)
 | sp (c : UInt8)
def It.src : It → List UInt8
 | .tk _ s _ _ => s
 | .sp c => [c]
def ren (l : List It) : List UInt8 := l.flatMap It.src
def tok0 : List It → List Tok
 | [] => []
 | .tk k _ t n :: l => ⟨k, t, n, 0⟩ :: tok0 l
 | .sp _ :: l => tok0 l
theorem ren_nil : ren [] = [] := rfl
theorem ren_cons (i : It) (l : List It) : ren (i :: l) = i.src ++ ren l := by unfold ren; rw [List.flatMap_cons]
theorem ren_app (a b : List It) : ren (a ++ b) = ren a ++ ren b := by unfold ren; rw [List.flatMap_append]
theorem tok0_app : ∀ (a b : List It), tok0 (a ++ b) = tok0 a ++ tok0 b
 | [], _ => rfl
 | .tk k s t n :: a, b => by show _ :: tok0 (a ++ b) = _ :: (tok0 a ++ tok0 b); rw [tok0_app a b]
 | .sp c :: a, b => tok0_app a b
def nmI (s : List UInt8) : It := .tk 1 s s 0
def nuI (n : Int) : It := .tk 2 (numS n) (numS n) n
def quI (s : List UInt8) : It := .tk 3 (quoS s) s 0
def sgI (c : UInt8) : It := .tk 4 [c] [c] 0
def doI : It := .tk 4 [46, 46, 46] [46, 46, 46] 0
structure NameOk (s : List UInt8) : Prop where
 first : ∃ c l, s = c :: l ∧ letB c = true
 all : ∀ c ∈ s, ldB c = true
 len : s.length ≤ 32
def OkIt : It → List UInt8 → Prop
 | .tk k s t n, x => ∃ c l, s = c :: l ∧ blkB c = false ∧ c.toNat ≠ 35 ∧ oneP (s ++ x) = .ok k t n s.length
 | .sp c, _ => blkB c = true
def OkF : List It → List UInt8 → Prop
 | [], _ => True
 | i :: l, x => OkIt i (ren l ++ x) ∧ OkF l x
theorem OkF.app : ∀ {a b : List It} {x : List UInt8}, OkF a (ren b ++ x) → OkF b x → OkF (a ++ b) x
 | [], _, _, _, h => h
 | i :: a, b, x, h1, h2 => ⟨by show OkIt i (ren (a ++ b) ++ x); rw [ren_app, List.append_assoc]; exact h1.1, OkF.app h1.2 h2⟩
def LikeP : List Tok → List Tok → Prop
 | [], [] => True
 | t :: r, u :: q => (t.kind = u.kind ∧ t.text = u.text ∧ t.n = u.n) ∧ LikeP r q
 | _, _ => False
theorem toks_ren : ∀ (l : List It) (a : Nat), OkF l [] → ∃ ts, toksA a (ren l) = .ok (ts ++ [⟨0, [], 0, a + (ren l).length⟩]) ∧ LikeP ts (tok0 l)
 | [], a, _ => ⟨[], by rw [ren_nil, toksA_nil]; rfl, trivial⟩
 | .sp c :: l, a, h => by
  obtain ⟨ts, h1, h2⟩ := toks_ren l (a + 1) h.2; refine ⟨ts, ?_, h2⟩
  have hb : blkB c = true := h.1; rw [ren_cons]
  show toksA a (c :: ren l) = _
  rw [toksA_blk a hb, h1]
  show _ = Out.ok (ts ++ [⟨0, [], 0, a + (ren l).length.succ⟩])
  rw [show a + 1 + (ren l).length = a + (ren l).length.succ from by omega]
 | .tk k s t n :: l, a, h => by
  obtain ⟨ts, h1, h2⟩ := toks_ren l (a + s.length) h.2; obtain ⟨c, s', rfl, hb, hr, ho⟩ := h.1; refine ⟨⟨k, t, n, a⟩ :: ts, ?_, ⟨⟨rfl, rfl, rfl⟩, h2⟩⟩
  rw [List.append_nil] at ho; have ho : oneP (c :: (s' ++ ren l)) = .ok k t n (c :: s').length := ho; rw [ren_cons]
  show toksA a (c :: (s' ++ ren l)) = _
  have hd : (c :: (s' ++ ren l)).drop (c :: s').length = ren l := by
   rw [show c :: (s' ++ ren l) = (c :: s') ++ ren l from rfl, List.drop_left]
  rw [toksA_one a hb hr ho, hd, h1]
  show Out.ok (⟨k, t, n, a⟩ :: (ts ++ [⟨0, [], 0, a + (c :: s').length + (ren l).length⟩])) = Out.ok ((⟨k, t, n, a⟩ :: ts) ++ [⟨0, [], 0, a + ((c :: s') ++ ren l).length⟩])
  rw [List.length_append, Nat.add_assoc]; rfl
def Sep (x : List UInt8) : Prop := ∀ g r, x = g :: r → ldB g = false ∧ g.toNat ≠ 46
theorem Sep.nil : Sep [] := fun _ _ h => by cases h
theorem Sep.cons {g : UInt8} (r : List UInt8) (h1 : ldB g = false) (h2 : g.toNat ≠ 46) : Sep (g :: r) := fun _ _ h => by injection h with h _; subst h; exact ⟨h1, h2⟩
theorem letter_misc {c : UInt8} (h : letB c = true) : blkB c = false ∧ c.toNat ≠ 35 := by
 unfold letB at h; unfold blkB; simp only [Bool.or_eq_true, Bool.and_eq_true, decide_eq_true_eq] at h; simp only [Bool.or_eq_false_iff, decide_eq_false_iff_not]; omega
theorem ok_nm {s x : List UInt8} (h : NameOk s) (hx : Sep x) : OkIt (nmI s) x := by
 obtain ⟨c, l, rfl, hc⟩ := h.first; refine ⟨c, l, rfl, (letter_misc hc).1, (letter_misc hc).2, ?_⟩
 have hrun : runL ldB ((c :: l) ++ x) = (c :: l).length := by
  rw [runL_cut _ _ (.inr fun hr => ?_), runL_full _ h.all]
  cases x with
  | nil => simp at hr
  | cons g r => exact (hx g r rfl).1
 show oneP (c :: (l ++ x)) = _
 rw [oneP_cons, if_pos hc]; have e : c :: (l ++ x) = (c :: l) ++ x := rfl; rw [e, hrun, if_neg (by have := h.len; omega), List.take_left]
theorem digS_lt {n : Nat} (h : n < 10) : digS n = [UInt8.ofNat (48 + n)] := by rw [digS, dif_pos h]
theorem digS_ge {n : Nat} (h : ¬ n < 10) : digS n = digS (n / 10) ++ [UInt8.ofNat (48 + n % 10)] := by rw [digS, dif_neg h]
theorem digS_all : ∀ (n : Nat), (∀ c ∈ digS n, digB c = true) ∧ digS n ≠ [] ∧ decV 0 (digS n) = n ∧ (n = 0 ∧ digS n = [48] ∨ ∃ c r, digS n = c :: r ∧ c.toNat ≠ 48) := by
 intro n
 induction n using Nat.strongRecOn with
 | ind n ih =>
  by_cases h : n < 10
  ·rw [digS_lt h]; have hd := dig_of n h; refine ⟨fun c hc => by rw [List.mem_singleton] at hc; subst hc; exact hd.1, by simp, ?_, ?_⟩
   ·rw [decV_cons, decV_nil, hd.2]; omega
   ·by_cases h0 : n = 0
    ·subst h0; exact .inl ⟨rfl, rfl⟩
    ·exact .inr ⟨_, _, rfl, by rw [hd.2]; omega⟩
  ·rw [digS_ge h]; obtain ⟨i1, i2, i3, i4⟩ := ih (n / 10) (by omega); have hd := dig_of (n % 10) (by omega); refine ⟨fun c hc => ?_, by simp, ?_, .inr ?_⟩
   ·rcases List.mem_append.1 hc with hc | hc
    ·exact i1 c hc
    ·rw [List.mem_singleton] at hc; subst hc; exact hd.1
   ·rw [decV_snoc, i3, hd.2]; omega
   ·rcases i4 with ⟨h0, _⟩ | ⟨c, r, e, hc⟩
    ·omega
    ·exact ⟨c, r ++ [UInt8.ofNat (48 + n % 10)], by rw [e]; rfl, hc⟩
theorem digS_len : ∀ (k n : Nat), n < 10 ^ (k + 1) → (digS n).length ≤ k + 1
 | 0, n, h => by rw [digS_lt (by simpa using h)]; simp
 | k + 1, n, h => by
  by_cases hn : n < 10
  ·rw [digS_lt hn]; simp
  ·rw [digS_ge hn, List.length_append, List.length_singleton]; have := digS_len k (n / 10) (by rw [Nat.pow_succ] at h; omega); omega
theorem abs_sgn (n : Int) : (if decide (n < 0) = true then -1 else 1) * (n.natAbs : Int) = n := by
 by_cases hn : n < 0
 ·rw [decide_eq_true hn, if_pos rfl, Int.ofNat_natAbs_of_nonpos (by omega)]; omega
 ·rw [decide_eq_false hn, if_neg (by decide), Int.natAbs_of_nonneg (by omega)]; omega
def NumOk (n : Int) : Prop := n.natAbs < 1000000000000000000
theorem ok_nu {n : Int} {x : List UInt8} (h : NumOk n) (hx : Sep x) : OkIt (nuI n) x := by
 obtain ⟨h1, h2, h3, h4⟩ := digS_all n.natAbs; obtain ⟨e1, c, r, e2, b1, b2⟩ := oneP_sgn (neg := decide (n < 0)) x h1 h2; have hx2 : ∀ h : 0 < x.length, digB x[0] = false := fun hl => by
  cases x with
  | nil => simp at hl
  | cons g r => exact (ldB_no (hx g r rfl).1).2
 have e3 := numP_sgn (neg := decide (n < 0)) x h1 h2 (digS_len 17 _ (by unfold NumOk at h; exact h)) (by rcases h4 with ⟨_, h4⟩ | h4; exact .inl h4; exact .inr h4) hx2
 rw [if_neg (by
  rintro ⟨hl, hb⟩
  cases x with
  | nil => simp at hl
  | cons g r =>
   have hg := hx g r rfl; have h5 : (g :: r).getD 0 0 = g := rfl; rw [h5] at hb
   rcases hb with hb | hb
   ·rw [(ldB_no hg.1).1] at hb; cases hb
   ·exact hg.2 hb), ← e1, h3] at e3
 have hv := abs_sgn n; rw [hv] at e3; have hs : ∃ c' l', numS n = c' :: l' := by
  have := len_sgn (decide (n < 0)) (digS n.natAbs); have hp : 0 < (digS n.natAbs).length := by cases hd : digS n.natAbs with | nil => exact absurd hd h2 | cons => simp
  unfold numS
  cases hq : sgn (decide (n < 0)) (digS n.natAbs) with
  | nil => rw [hq] at this; simp at this; omega
  | cons c' l' => exact ⟨c', l', rfl⟩
 obtain ⟨c', l', e4⟩ := hs; have e5 : c' = c := by
  have := congrArg List.head? e2; rw [show sgn (decide (n < 0)) (digS n.natAbs) = c' :: l' from e4] at this; simpa using this
 refine ⟨c', l', e4, by rw [e5]; exact b1, by rw [e5]; exact b2, e3⟩
theorem txtP_e1 (acc : List UInt8) (k : Nat) (c : UInt8) (l : List UInt8) : txtP acc k (esc1 c ++ l) = txtP (acc ++ [c]) (k + (esc1 c).length) l := by
 unfold esc1
 by_cases h10 : c.toNat = 10
 ·rw [if_pos h10, u8_of (by decide) h10]
  show txtP acc k (92 :: 110 :: l) = _
  rw [txtP_ee acc k 110 l (by decide)]; rfl
 rw [if_neg h10]
 by_cases h9 : c.toNat = 9
 ·rw [if_pos h9, u8_of (by decide) h9]
  show txtP acc k (92 :: 116 :: l) = _
  rw [txtP_ee acc k 116 l (by decide)]; rfl
 rw [if_neg h9]
 by_cases h3 : c.toNat = 34 ∨ c.toNat = 92
 ·rw [if_pos h3]
  show txtP acc k (92 :: c :: l) = _
  rw [txtP_ee acc k c l (by decide)]; unfold escY; rw [if_pos (by omega)]; rfl
 ·rw [if_neg h3]
  show txtP acc k (c :: l) = _
  rw [txtP_oo acc k l (by omega) h10 (by omega)]; rfl
theorem escS_cons (c : UInt8) (p : List UInt8) : escS (c :: p) = esc1 c ++ escS p := by unfold escS; rw [List.flatMap_cons]
theorem escS_app (p q : List UInt8) : escS (p ++ q) = escS p ++ escS q := by unfold escS; rw [List.flatMap_append]
theorem txtP_esc : ∀ (p acc : List UInt8) (k : Nat) (l : List UInt8), txtP acc k (escS p ++ l) = txtP (acc ++ p) (k + (escS p).length) l
 | [], acc, k, l => by show txtP acc k l = txtP (acc ++ []) (k + 0) l; rw [List.append_nil, Nat.add_zero]
 | c :: p, acc, k, l => by
  rw [escS_cons, List.append_assoc, txtP_e1, txtP_esc p, List.append_assoc, List.length_append, Nat.add_assoc]; rfl
theorem ok_qu {s x : List UInt8} (h : s.length ≤ 200) : OkIt (quI s) x := by
 refine ⟨34, escS s ++ [34], rfl, by decide, by decide, ?_⟩
 show oneP (34 :: ((escS s ++ [34]) ++ x)) = _
 rw [oneP_cons, if_neg (by decide), if_neg (by decide), if_pos (by decide), List.append_assoc, txtP_esc]
 show txtP ([] ++ s) (1 + (escS s).length) (34 :: x) = _
 rw [List.nil_append, txtP_qq _ _ _ (by decide), if_neg (by omega)]; unfold quoS; rw [List.length_cons, List.length_append, List.length_singleton, show 1 + (escS s).length + 1 = (escS s).length + 1 + 1 from by omega]
theorem ok_sg {c : UInt8} {x : List UInt8} (h : signB c = true) : OkIt (sgI c) x := by
 have hm : c.toNat ∈ [33, 36, 40, 41, 58, 61, 64, 91, 93, 123, 124, 125, 38] := of_decide_eq_true h; have hx : c.toNat = 33 ∨ c.toNat = 36 ∨ c.toNat = 40 ∨ c.toNat = 41 ∨ c.toNat = 58 ∨ c.toNat = 61 ∨ c.toNat = 64 ∨ c.toNat = 91 ∨ c.toNat = 93 ∨ c.toNat = 123 ∨ c.toNat = 124 ∨ c.toNat = 125 ∨ c.toNat = 38 := by simpa using hm
 have hb : blkB c = false := by unfold blkB; simp only [Bool.or_eq_false_iff, decide_eq_false_iff_not]; omega
 have hl : letB c = false := by
  unfold letB; simp only [Bool.or_eq_false_iff, Bool.and_eq_false_iff, decide_eq_false_iff_not]; omega
 have hd : digB c = false := by
  unfold digB; simp only [Bool.and_eq_false_iff, decide_eq_false_iff_not]; omega
 refine ⟨c, [], rfl, hb, by omega, ?_⟩
 show oneP (c :: x) = _
 rw [oneP_cons, if_neg (by rw [hl]; decide), if_neg (by rw [hd]; simp; omega), if_neg (by omega), if_neg (by rw [dots_first x (by omega)]; decide), if_pos h]; rfl
theorem ok_do {x : List UInt8} : OkIt doI x := by
 refine ⟨46, [46, 46], rfl, by decide, by decide, ?_⟩
 show oneP (46 :: 46 :: 46 :: x) = _
 rw [oneP_cons, if_neg (by decide), if_neg (by decide), if_neg (by decide), if_pos (by unfold dotsB; simp)]; rfl
end Go.Proofs.YtnkpoddbbdmipaaGreatDoor
