/- What is printed, in plain Lean: pieces (tokens, and blanks between), and that the text of pieces is read as the tokens that they are. What is printed, in plain Lean: values, types, selections, documents, declarations as pieces; what the lexer reads again. What is printed, in plain Lean: its tokens are read as what was printed (documents). What was read is well formed, in plain Lean: so what is printed of it is read as it was. Declarations that are printed, in plain Lean: their tokens are read as what was printed; what was read is well formed. Declarations, in plain Lean: two texts, one behind the other, declare what both do (SdlJoins). What sdl.Types hands back, for any text; a fault has a code. What is printed of what was read is not long: each token is printed with at most 500 bytes. Plain. The document's printer: numbers, texts in quotes, types as they are named. The document's printer: types as they are named, values. The document's printer: values. The document's printer: inputs and fields. The document's printer: fields. -/
import Derived.Test.YtgephneppgcnlaaDoorTpn
import Derived.Test.YtgephneppgcnlaaDoorSdP
import Derived.Test.YtgephneppgcnlaaDoorPlS
import Derived.Test.YtgephneppgcnlaaDoorSdY
import Derived.Test.YtgephneppgcnlaaDoorRwc
import Derived.Test.YtgephneppgcnlaaDoorSmv
import Derived.Test.YtgephneppgcnlaaDoorText
import Derived.Laws.IdiomStrings
import Derived.Test.YtgephneppgcnlaaDoorSme
namespace Go.Proofs.YtgephneppgcnlaaDoor
set_option linter.unusedVariables false
set_option linter.unusedSimpArgs false

/-- The digits of a number. -/
def digS (n : Nat) : List UInt8 := if h : n < 10 then [UInt8.ofNat (48 + n)] else digS (n / 10) ++ [UInt8.ofNat (48 + n % 10)]
termination_by n
def numS (n : Int) : List UInt8 := sgn (decide (n < 0)) (digS n.natAbs)
/-- A text as it is written between quotes. -/
def esc1 (c : UInt8) : List UInt8 := if c.toNat = 10 then [92, 110] else if c.toNat = 9 then [92, 116] else if c.toNat = 34 ∨ c.toNat = 92 then [92, c] else [c]
def escS (s : List UInt8) : List UInt8 := s.flatMap esc1
def quoS (s : List UInt8) : List UInt8 := 34 :: (escS s ++ [34])
inductive It where
  | tk (k : Nat) (src t : List UInt8) (n : Int)
  | sp (c : UInt8)
def It.src : It → List UInt8
  | .tk _ s _ _ => s
  | .sp c => [c]
def ren (l : List It) : List UInt8 := l.flatMap It.src
def tok0 : List It → List Tok
  | [] => []
  | .tk k _ t n :: l => ⟨k, t, n, 0⟩ :: tok0 l
  | .sp _ :: l => tok0 l
theorem ren_nil : ren [] = [] := rfl
theorem ren_cons (i : It) (l : List It) : ren (i :: l) = i.src ++ ren l := by unfold ren; rw [List.flatMap_cons]
theorem ren_app (a b : List It) : ren (a ++ b) = ren a ++ ren b := by unfold ren; rw [List.flatMap_append]
theorem tok0_app : ∀ (a b : List It), tok0 (a ++ b) = tok0 a ++ tok0 b
  | [], _ => rfl
  | .tk k s t n :: a, b => by show _ :: tok0 (a ++ b) = _ :: (tok0 a ++ tok0 b); rw [tok0_app a b]
  | .sp c :: a, b => tok0_app a b
def nmI (s : List UInt8) : It := .tk 1 s s 0
def nuI (n : Int) : It := .tk 2 (numS n) (numS n) n
def quI (s : List UInt8) : It := .tk 3 (quoS s) s 0
def sgI (c : UInt8) : It := .tk 4 [c] [c] 0
def doI : It := .tk 4 [46, 46, 46] [46, 46, 46] 0
/-- A name that the lexer reads. -/
structure NameOk (s : List UInt8) : Prop where
  first : ∃ c l, s = c :: l ∧ letB c = true
  all : ∀ c ∈ s, ldB c = true
  len : s.length ≤ 32
/-- A piece is read as it is, where x follows. -/
def OkIt : It → List UInt8 → Prop
  | .tk k s t n, x => ∃ c l, s = c :: l ∧ blkB c = false ∧ c.toNat ≠ 35 ∧ oneP (s ++ x) = .ok k t n s.length
  | .sp c, _ => blkB c = true
def OkF : List It → List UInt8 → Prop
  | [], _ => True
  | i :: l, x => OkIt i (ren l ++ x) ∧ OkF l x
theorem OkF.app : ∀ {a b : List It} {x : List UInt8}, OkF a (ren b ++ x) → OkF b x → OkF (a ++ b) x
  | [], _, _, _, h => h
  | i :: a, b, x, h1, h2 => ⟨by show OkIt i (ren (a ++ b) ++ x); rw [ren_app, List.append_assoc]; exact h1.1, OkF.app h1.2 h2⟩
/-- Alike but for places. -/
def LikeP : List Tok → List Tok → Prop
  | [], [] => True
  | t :: r, u :: q => (t.kind = u.kind ∧ t.text = u.text ∧ t.n = u.n) ∧ LikeP r q
  | _, _ => False
theorem toks_ren : ∀ (l : List It) (a : Nat), OkF l [] → ∃ ts, toksA a (ren l) = .ok (ts ++ [⟨0, [], 0, a + (ren l).length⟩]) ∧ LikeP ts (tok0 l)
  | [], a, _ => ⟨[], by rw [ren_nil, toksA_nil]; rfl, trivial⟩
  | .sp c :: l, a, h => by
    obtain ⟨ts, h1, h2⟩ := toks_ren l (a + 1) h.2
    refine ⟨ts, ?_, h2⟩
    have hb : blkB c = true := h.1
    rw [ren_cons]
    show toksA a (c :: ren l) = _
    rw [toksA_blk a hb, h1]
    show _ = Out.ok (ts ++ [⟨0, [], 0, a + (ren l).length.succ⟩])
    rw [show a + 1 + (ren l).length = a + (ren l).length.succ from by omega]
  | .tk k s t n :: l, a, h => by
    obtain ⟨ts, h1, h2⟩ := toks_ren l (a + s.length) h.2
    obtain ⟨c, s', rfl, hb, hr, ho⟩ := h.1
    refine ⟨⟨k, t, n, a⟩ :: ts, ?_, ⟨⟨rfl, rfl, rfl⟩, h2⟩⟩
    rw [List.append_nil] at ho
    have ho : oneP (c :: (s' ++ ren l)) = .ok k t n (c :: s').length := ho
    rw [ren_cons]
    show toksA a (c :: (s' ++ ren l)) = _
    have hd : (c :: (s' ++ ren l)).drop (c :: s').length = ren l := by
      rw [show c :: (s' ++ ren l) = (c :: s') ++ ren l from rfl, List.drop_left]
    rw [toksA_one a hb hr ho, hd, h1]
    show Out.ok (⟨k, t, n, a⟩ :: (ts ++ [⟨0, [], 0, a + (c :: s').length + (ren l).length⟩])) = Out.ok ((⟨k, t, n, a⟩ :: ts) ++ [⟨0, [], 0, a + ((c :: s') ++ ren l).length⟩])
    rw [List.length_append, Nat.add_assoc]; rfl
/-- No letter, no digit, no point stands first. -/
def Sep (x : List UInt8) : Prop := ∀ g r, x = g :: r → ldB g = false ∧ g.toNat ≠ 46
theorem Sep.nil : Sep [] := fun _ _ h => by cases h
theorem Sep.cons {g : UInt8} (r : List UInt8) (h1 : ldB g = false) (h2 : g.toNat ≠ 46) : Sep (g :: r) := fun _ _ h => by injection h with h _; subst h; exact ⟨h1, h2⟩
theorem letter_misc {c : UInt8} (h : letB c = true) : blkB c = false ∧ c.toNat ≠ 35 := by
  unfold letB at h
  unfold blkB
  simp only [Bool.or_eq_true, Bool.and_eq_true, decide_eq_true_eq] at h
  simp only [Bool.or_eq_false_iff, decide_eq_false_iff_not]
  omega
theorem ok_nm {s x : List UInt8} (h : NameOk s) (hx : Sep x) : OkIt (nmI s) x := by
  obtain ⟨c, l, rfl, hc⟩ := h.first
  refine ⟨c, l, rfl, (letter_misc hc).1, (letter_misc hc).2, ?_⟩
  have hrun : runL ldB ((c :: l) ++ x) = (c :: l).length := by
    rw [runL_cut _ _ (.inr fun hr => ?_), runL_full _ h.all]
    cases x with
    | nil => simp at hr
    | cons g r => exact (hx g r rfl).1
  show oneP (c :: (l ++ x)) = _
  rw [oneP_cons, if_pos hc]
  have e : c :: (l ++ x) = (c :: l) ++ x := rfl
  rw [e, hrun, if_neg (by have := h.len; omega), List.take_left]
theorem digS_lt {n : Nat} (h : n < 10) : digS n = [UInt8.ofNat (48 + n)] := by rw [digS, dif_pos h]
theorem digS_ge {n : Nat} (h : ¬ n < 10) : digS n = digS (n / 10) ++ [UInt8.ofNat (48 + n % 10)] := by rw [digS, dif_neg h]
theorem digS_all : ∀ (n : Nat), (∀ c ∈ digS n, digB c = true) ∧ digS n ≠ [] ∧ decV 0 (digS n) = n ∧ (n = 0 ∧ digS n = [48] ∨ ∃ c r, digS n = c :: r ∧ c.toNat ≠ 48) := by
  intro n
  induction n using Nat.strongRecOn with
  | ind n ih =>
    by_cases h : n < 10
    · rw [digS_lt h]
      have hd := dig_of n h
      refine ⟨fun c hc => by rw [List.mem_singleton] at hc; subst hc; exact hd.1, by simp, ?_, ?_⟩
      · rw [decV_cons, decV_nil, hd.2]; omega
      · by_cases h0 : n = 0
        · subst h0; exact .inl ⟨rfl, rfl⟩
        · exact .inr ⟨_, _, rfl, by rw [hd.2]; omega⟩
    · rw [digS_ge h]
      obtain ⟨i1, i2, i3, i4⟩ := ih (n / 10) (by omega)
      have hd := dig_of (n % 10) (by omega)
      refine ⟨fun c hc => ?_, by simp, ?_, .inr ?_⟩
      · rcases List.mem_append.1 hc with hc | hc
        · exact i1 c hc
        · rw [List.mem_singleton] at hc; subst hc; exact hd.1
      · rw [decV_snoc, i3, hd.2]; omega
      · rcases i4 with ⟨h0, _⟩ | ⟨c, r, e, hc⟩
        · omega
        · exact ⟨c, r ++ [UInt8.ofNat (48 + n % 10)], by rw [e]; rfl, hc⟩
theorem digS_len : ∀ (k n : Nat), n < 10 ^ (k + 1) → (digS n).length ≤ k + 1
  | 0, n, h => by rw [digS_lt (by simpa using h)]; simp
  | k + 1, n, h => by
    by_cases hn : n < 10
    · rw [digS_lt hn]; simp
    · rw [digS_ge hn, List.length_append, List.length_singleton]
      have := digS_len k (n / 10) (by rw [Nat.pow_succ] at h; omega)
      omega
theorem abs_sgn (n : Int) : (if decide (n < 0) = true then -1 else 1) * (n.natAbs : Int) = n := by
  by_cases hn : n < 0
  · rw [decide_eq_true hn, if_pos rfl, Int.ofNat_natAbs_of_nonpos (by omega)]; omega
  · rw [decide_eq_false hn, if_neg (by decide), Int.natAbs_of_nonneg (by omega)]; omega
/-- A number that the lexer reads. -/
def NumOk (n : Int) : Prop := n.natAbs < 1000000000000000000
theorem ok_nu {n : Int} {x : List UInt8} (h : NumOk n) (hx : Sep x) : OkIt (nuI n) x := by
  obtain ⟨h1, h2, h3, h4⟩ := digS_all n.natAbs
  obtain ⟨e1, c, r, e2, b1, b2⟩ := oneP_sgn (neg := decide (n < 0)) x h1 h2
  have hx2 : ∀ h : 0 < x.length, digB x[0] = false := fun hl => by
    cases x with
    | nil => simp at hl
    | cons g r => exact (ldB_no (hx g r rfl).1).2
  have e3 := numP_sgn (neg := decide (n < 0)) x h1 h2 (digS_len 17 _ (by unfold NumOk at h; exact h)) (by rcases h4 with ⟨_, h4⟩ | h4; exact .inl h4; exact .inr h4) hx2
  rw [if_neg (by
    rintro ⟨hl, hb⟩
    cases x with
    | nil => simp at hl
    | cons g r =>
      have hg := hx g r rfl
      have h5 : (g :: r).getD 0 0 = g := rfl
      rw [h5] at hb
      rcases hb with hb | hb
      · rw [(ldB_no hg.1).1] at hb; cases hb
      · exact hg.2 hb), ← e1, h3] at e3
  have hv := abs_sgn n
  rw [hv] at e3
  have hs : ∃ c' l', numS n = c' :: l' := by
    have := len_sgn (decide (n < 0)) (digS n.natAbs)
    have hp : 0 < (digS n.natAbs).length := by cases hd : digS n.natAbs with | nil => exact absurd hd h2 | cons => simp
    unfold numS
    cases hq : sgn (decide (n < 0)) (digS n.natAbs) with
    | nil => rw [hq] at this; simp at this; omega
    | cons c' l' => exact ⟨c', l', rfl⟩
  obtain ⟨c', l', e4⟩ := hs
  have e5 : c' = c := by
    have := congrArg List.head? e2
    rw [show sgn (decide (n < 0)) (digS n.natAbs) = c' :: l' from e4] at this
    simpa using this
  refine ⟨c', l', e4, by rw [e5]; exact b1, by rw [e5]; exact b2, e3⟩
theorem txtP_e1 (acc : List UInt8) (k : Nat) (c : UInt8) (l : List UInt8) : txtP acc k (esc1 c ++ l) = txtP (acc ++ [c]) (k + (esc1 c).length) l := by
  unfold esc1
  by_cases h10 : c.toNat = 10
  · rw [if_pos h10, u8_of (by decide) h10]
    show txtP acc k (92 :: 110 :: l) = _
    rw [txtP_ee acc k 110 l (by decide)]; rfl
  rw [if_neg h10]
  by_cases h9 : c.toNat = 9
  · rw [if_pos h9, u8_of (by decide) h9]
    show txtP acc k (92 :: 116 :: l) = _
    rw [txtP_ee acc k 116 l (by decide)]; rfl
  rw [if_neg h9]
  by_cases h3 : c.toNat = 34 ∨ c.toNat = 92
  · rw [if_pos h3]
    show txtP acc k (92 :: c :: l) = _
    rw [txtP_ee acc k c l (by decide)]
    unfold escY
    rw [if_pos (by omega)]; rfl
  · rw [if_neg h3]
    show txtP acc k (c :: l) = _
    rw [txtP_oo acc k l (by omega) h10 (by omega)]; rfl
theorem escS_cons (c : UInt8) (p : List UInt8) : escS (c :: p) = esc1 c ++ escS p := by unfold escS; rw [List.flatMap_cons]
theorem escS_app (p q : List UInt8) : escS (p ++ q) = escS p ++ escS q := by unfold escS; rw [List.flatMap_append]
theorem txtP_esc : ∀ (p acc : List UInt8) (k : Nat) (l : List UInt8), txtP acc k (escS p ++ l) = txtP (acc ++ p) (k + (escS p).length) l
  | [], acc, k, l => by show txtP acc k l = txtP (acc ++ []) (k + 0) l; rw [List.append_nil, Nat.add_zero]
  | c :: p, acc, k, l => by
    rw [escS_cons, List.append_assoc, txtP_e1, txtP_esc p, List.append_assoc, List.length_append, Nat.add_assoc]; rfl
theorem ok_qu {s x : List UInt8} (h : s.length ≤ 200) : OkIt (quI s) x := by
  refine ⟨34, escS s ++ [34], rfl, by decide, by decide, ?_⟩
  show oneP (34 :: ((escS s ++ [34]) ++ x)) = _
  rw [oneP_cons, if_neg (by decide), if_neg (by decide), if_pos (by decide), List.append_assoc, txtP_esc]
  show txtP ([] ++ s) (1 + (escS s).length) (34 :: x) = _
  rw [List.nil_append, txtP_qq _ _ _ (by decide), if_neg (by omega)]
  unfold quoS
  rw [List.length_cons, List.length_append, List.length_singleton, show 1 + (escS s).length + 1 = (escS s).length + 1 + 1 from by omega]
theorem ok_sg {c : UInt8} {x : List UInt8} (h : signB c = true) : OkIt (sgI c) x := by
  have hm : c.toNat ∈ [33, 36, 40, 41, 58, 61, 64, 91, 93, 123, 124, 125, 38] := of_decide_eq_true h
  have hx : c.toNat = 33 ∨ c.toNat = 36 ∨ c.toNat = 40 ∨ c.toNat = 41 ∨ c.toNat = 58 ∨ c.toNat = 61 ∨ c.toNat = 64 ∨ c.toNat = 91 ∨ c.toNat = 93 ∨ c.toNat = 123 ∨ c.toNat = 124 ∨ c.toNat = 125 ∨ c.toNat = 38 := by simpa using hm
  have hb : blkB c = false := by unfold blkB; simp only [Bool.or_eq_false_iff, decide_eq_false_iff_not]; omega
  have hl : letB c = false := by
    unfold letB
    simp only [Bool.or_eq_false_iff, Bool.and_eq_false_iff, decide_eq_false_iff_not]
    omega
  have hd : digB c = false := by
    unfold digB
    simp only [Bool.and_eq_false_iff, decide_eq_false_iff_not]
    omega
  refine ⟨c, [], rfl, hb, by omega, ?_⟩
  show oneP (c :: x) = _
  rw [oneP_cons, if_neg (by rw [hl]; decide), if_neg (by rw [hd]; simp; omega), if_neg (by omega), if_neg (by rw [dots_first x (by omega)]; decide), if_pos h]; rfl
theorem ok_do {x : List UInt8} : OkIt doI x := by
  refine ⟨46, [46, 46], rfl, by decide, by decide, ?_⟩
  show oneP (46 :: 46 :: 46 :: x) = _
  rw [oneP_cons, if_neg (by decide), if_neg (by decide), if_neg (by decide), if_pos (by unfold dotsB; simp)]; rfl
end Go.Proofs.YtgephneppgcnlaaDoor
namespace Go.Proofs.YtgephneppgcnlaaDoor
set_option linter.unusedVariables false
set_option linter.unusedSimpArgs false

def gapI : List It := [.sp 44, .sp 32]
/-- Parts with something between. -/
def sepI (g : List It) : List (List It) → List It
  | [] => []
  | a :: l => a ++ l.flatMap (fun b => g ++ b)
theorem sepI_snoc (g : List It) (l : List (List It)) (b : List It) : sepI g (l ++ [b]) = if l = [] then b else sepI g l ++ g ++ b := by
  cases l with
  | nil => show b ++ [] = b; exact List.append_nil b
  | cons a l =>
    rw [if_neg (by simp)]
    show a ++ (l ++ [b]).flatMap (fun b => g ++ b) = a ++ l.flatMap (fun b => g ++ b) ++ g ++ b
    rw [List.flatMap_append]; simp
def pairI (k : List UInt8) (l : List It) : List It := nmI k :: sgI 58 :: .sp 32 :: l
mutual
def valI : VT → List It
  | .mk k n s ks vs =>
    if k = 1 then [nuI n] else if k = 2 ∨ k = 8 then [quI s] else if k = 3 then [nmI (if n = 1 then wTrue else wFalse)] else if k = 4 then [nmI s] else if k = 7 then [sgI 36, nmI s]
    else if k = 5 then sgI 91 :: (sepI gapI (valsI vs) ++ [sgI 93])
    else if k = 6 then sgI 123 :: (sepI gapI (List.zipWith pairI ks (valsI vs)) ++ [sgI 125])
    else [nmI wNull]
def valsI : List VT → List (List It)
  | [] => []
  | v :: vs => valI v :: valsI vs
end
theorem valsI_map : ∀ vs, valsI vs = vs.map valI
  | [] => by rw [valsI]; rfl
  | v :: vs => by rw [valsI, valsI_map vs]; rfl
theorem valI_eq (k : Nat) (n : Int) (s : List UInt8) (ks : List (List UInt8)) (vs : List VT) : valI (.mk k n s ks vs) =
    if k = 1 then [nuI n] else if k = 2 ∨ k = 8 then [quI s] else if k = 3 then [nmI (if n = 1 then wTrue else wFalse)] else if k = 4 then [nmI s] else if k = 7 then [sgI 36, nmI s]
    else if k = 5 then sgI 91 :: (sepI gapI (vs.map valI) ++ [sgI 93])
    else if k = 6 then sgI 123 :: (sepI gapI (List.zipWith pairI ks (vs.map valI)) ++ [sgI 125])
    else [nmI wNull] := by rw [valI, valsI_map]
def bangI (b : Bool) : List It := if b then [sgI 33] else []
def typI : TR → List It
  | .nm s b => nmI s :: bangI b
  | .ls t b => sgI 91 :: (typI t ++ sgI 93 :: bangI b)
/-- Things in brackets, if there are any. -/
def parI (l : List (List It)) : List It := if l = [] then [] else sgI 40 :: (sepI gapI l ++ [sgI 41])
def argI (a : AR) : List It := pairI a.name (valI a.v)
def argsI (l : List AR) : List It := parI (l.map argI)
def dirI (d : DR) : List It := .sp 32 :: sgI 64 :: nmI d.name :: argsI d.args
def brI (l : List It) : List It := .sp 32 :: sgI 123 :: (l ++ [.sp 32, sgI 125])
def headI (k : Nat) (al name on_ : List UInt8) (args : List AR) : List It :=
  if k = 1 then (if al = [] then [] else [nmI al, sgI 58, .sp 32]) ++ nmI name :: argsI args
  else if k = 2 then [doI, nmI name]
  else doI :: (if on_ = [] then [] else [.sp 32, nmI wOn, .sp 32, nmI on_])
mutual
def selI : SL → List It
  | .mk k al name on_ args dirs sub => headI k al name on_ args ++ dirs.flatMap dirI ++ (if sub = [] then [] else brI (selsI sub))
def selsI : List SL → List It
  | [] => []
  | x :: l => .sp 32 :: (selI x ++ selsI l)
end
theorem selsI_map : ∀ l, selsI l = l.flatMap fun x => .sp 32 :: selI x
  | [] => by rw [selsI]; rfl
  | x :: l => by rw [selsI, selsI_map l]; rfl
def setI (l : List SL) : List It := brI (selsI l)
theorem selI_eq (k : Nat) (al name on_ : List UInt8) (args : List AR) (dirs : List DR) (sub : List SL) : selI (.mk k al name on_ args dirs sub) = headI k al name on_ args ++ dirs.flatMap dirI ++ (if sub = [] then [] else setI sub) := by rw [selI]; rfl
def inpI (n : List It) (t : TR) (has : Bool) (v : VT) : List It := n ++ sgI 58 :: .sp 32 :: (typI t ++ (if has then .sp 32 :: sgI 61 :: .sp 32 :: valI v else []))
def varI (v : VD) : List It := sgI 36 :: inpI [nmI v.name] v.t v.has v.v
def opI (o : OP) : List It := nmI (if o.mut_ then wMutation else wQuery) :: ((if o.name = [] then [] else [.sp 32, nmI o.name]) ++ parI (o.vars.map varI) ++ setI o.sub)
def frI (f : FR) : List It := nmI wFragment :: .sp 32 :: nmI f.name :: .sp 32 :: nmI wOn :: .sp 32 :: nmI f.on_ :: setI f.sub
def docI (d : DC) : List It := sepI [.sp 32] (d.ops.map opI ++ d.frags.map frI)
def inI (i : IN) : List It := inpI [nmI i.name] i.t i.has i.v
def fdI (f : FD) : List It := inpI (nmI f.name :: parI (f.args.map inI)) f.t f.has f.v
def namI (g : List It) (l : List (List UInt8)) : List It := sepI g (l.map fun s => [nmI s])
def tdI (t : TD) : List It :=
  if t.kind = 3 then nmI wUnion :: .sp 32 :: nmI t.name :: .sp 32 :: sgI 61 :: .sp 32 :: namI [.sp 32, sgI 124, .sp 32] t.names
  else if t.kind = 4 then nmI wEnum :: .sp 32 :: nmI t.name :: .sp 32 :: sgI 123 :: .sp 32 :: (namI [.sp 32] t.names ++ [.sp 32, sgI 125])
  else nmI (if t.kind = 1 then wType else if t.kind = 2 then wInterface else wInput) :: .sp 32 :: nmI t.name ::
    ((if t.kind = 1 ∧ t.names ≠ [] then .sp 32 :: nmI wImplements :: .sp 32 :: namI [.sp 32, sgI 38, .sp 32] t.names else []) ++ brI (t.fields.flatMap fun f => .sp 32 :: fdI f))
def tysI (l : List TD) : List It := sepI [.sp 32] (l.map tdI)

/-! ### What the lexer reads again -/
def OkS (l : List It) : Prop := ∀ x, Sep x → OkF l x
def SepI (l : List It) : Prop := ∀ x, Sep x → Sep (ren l ++ x)
theorem SepI.nil : SepI [] := fun _ h => h
theorem SepI.sp {c : UInt8} {l : List It} (h : blkB c = true) : SepI (.sp c :: l) := fun x _ => by
  rw [ren_cons]
  show Sep (c :: (ren l ++ x))
  unfold blkB at h
  simp only [Bool.or_eq_true, decide_eq_true_eq] at h
  refine Sep.cons _ ?_ (by omega)
  unfold ldB letB digB
  simp only [Bool.or_eq_false_iff, Bool.and_eq_false_iff, decide_eq_false_iff_not]
  omega
theorem SepI.sg {c : UInt8} {l : List It} (h : signB c = true) : SepI (sgI c :: l) := fun x _ => by
  rw [ren_cons]
  show Sep (c :: (ren l ++ x))
  have hm : c.toNat ∈ [33, 36, 40, 41, 58, 61, 64, 91, 93, 123, 124, 125, 38] := of_decide_eq_true h
  have hx : c.toNat = 33 ∨ c.toNat = 36 ∨ c.toNat = 40 ∨ c.toNat = 41 ∨ c.toNat = 58 ∨ c.toNat = 61 ∨ c.toNat = 64 ∨ c.toNat = 91 ∨ c.toNat = 93 ∨ c.toNat = 123 ∨ c.toNat = 124 ∨ c.toNat = 125 ∨ c.toNat = 38 := by simpa using hm
  refine Sep.cons _ ?_ (by omega)
  unfold ldB letB digB
  simp only [Bool.or_eq_false_iff, Bool.and_eq_false_iff, decide_eq_false_iff_not]
  omega
theorem SepI.app {a b : List It} (ha : SepI a) (hb : SepI b) : SepI (a ++ b) := fun x hx => by rw [ren_app, List.append_assoc]; exact ha _ (hb x hx)
theorem OkS.nil : OkS [] := fun _ _ => trivial
theorem OkS.sp {c : UInt8} {l : List It} (h : blkB c = true) (hl : OkS l) : OkS (.sp c :: l) := fun x hx => ⟨h, hl x hx⟩
theorem OkS.sg {c : UInt8} {l : List It} (h : signB c = true) (hl : OkS l) : OkS (sgI c :: l) := fun x hx => ⟨ok_sg h, hl x hx⟩
theorem OkS.dots {l : List It} (hl : OkS l) : OkS (doI :: l) := fun x hx => ⟨ok_do, hl x hx⟩
theorem OkS.qu {s : List UInt8} {l : List It} (h : s.length ≤ 200) (hl : OkS l) : OkS (quI s :: l) := fun x hx => ⟨ok_qu h, hl x hx⟩
theorem OkS.nm {s : List UInt8} {l : List It} (h : NameOk s) (hl : OkS l) (hs : SepI l) : OkS (nmI s :: l) := fun x hx => ⟨ok_nm h (hs x hx), hl x hx⟩
theorem OkS.nu {n : Int} {l : List It} (h : NumOk n) (hl : OkS l) (hs : SepI l) : OkS (nuI n :: l) := fun x hx => ⟨ok_nu h (hs x hx), hl x hx⟩
theorem OkS.app {a b : List It} (ha : OkS a) (hb : OkS b) (hs : SepI b) : OkS (a ++ b) := fun x hx => OkF.app (ha _ (hs x hx)) (hb x hx)
theorem OkS.flat {α : Type} {f : α → List It} : ∀ {l : List α}, (∀ x ∈ l, OkS (f x) ∧ SepI (f x)) → OkS (l.flatMap f) ∧ SepI (l.flatMap f)
  | [], _ => ⟨OkS.nil, SepI.nil⟩
  | x :: l, h => by
    have h1 := h x (by simp)
    have h2 := OkS.flat (l := l) (fun y hy => h y (by simp [hy]))
    rw [List.flatMap_cons]
    exact ⟨h1.1.app h2.1 h2.2, h1.2.app h2.2⟩
/-- Parts with blanks between. -/
theorem OkS.sep {g : List It} {l : List (List It)} (hg : ∀ b, OkS b → OkS (g ++ b)) (hs : ∀ b, SepI (g ++ b)) (h : ∀ b ∈ l, OkS b) : OkS (sepI g l) := by
  cases l with
  | nil => exact OkS.nil
  | cons a l =>
    have h2 := OkS.flat (f := fun b => g ++ b) (l := l) (fun b hb => ⟨hg b (h b (by simp [hb])), hs b⟩)
    exact (h a (by simp)).app h2.1 h2.2
theorem OkS.gap {l : List (List It)} (h : ∀ b ∈ l, OkS b) : OkS (sepI gapI l) := OkS.sep (fun b hb => OkS.sp (by decide) (OkS.sp (by decide) hb)) (fun b => SepI.sp (by decide)) h
theorem OkS.blk {l : List (List It)} (h : ∀ b ∈ l, OkS b) : OkS (sepI [.sp 32] l) := OkS.sep (fun b hb => OkS.sp (by decide) hb) (fun b => SepI.sp (by decide)) h
theorem SepI.par (l : List (List It)) : SepI (parI l) := by
  unfold parI
  split
  · exact SepI.nil
  · exact SepI.sg (by decide)
theorem OkS.par {l : List (List It)} (h : ∀ b ∈ l, OkS b) : OkS (parI l) := by
  unfold parI
  split
  · exact OkS.nil
  · exact OkS.sg (by decide) ((OkS.gap h).app (OkS.sg (by decide) OkS.nil) (SepI.sg (by decide)))
theorem OkS.br {l : List It} (h : OkS l) : OkS (brI l) := OkS.sp (by decide) (OkS.sg (by decide) (h.app (OkS.sp (by decide) (OkS.sg (by decide) OkS.nil)) (SepI.sp (by decide))))
theorem SepI.br (l : List It) : SepI (brI l) := SepI.sp (by decide)
/-! ### What was read -/
theorem nameOk_of {s : List UInt8} (h : (match s with | [] => false | c :: _ => letB c) && s.all ldB && decide (s.length ≤ 32) = true) : NameOk s := by
  simp only [Bool.and_eq_true, decide_eq_true_eq] at h
  obtain ⟨⟨h1, h2⟩, h3⟩ := h
  cases s with
  | nil => cases h1
  | cons c l => exact ⟨⟨c, l, rfl, h1⟩, fun x hx => List.all_eq_true.1 h2 x hx, h3⟩
theorem nameOk_ne {s : List UInt8} (h : NameOk s) : s ≠ [] := by obtain ⟨c, l, rfl, _⟩ := h.first; simp
theorem name_sign {s : List UInt8} (h : NameOk s) {c : UInt8} {l : List UInt8} (hc : letB c = false) : s ≠ c :: l := by
  obtain ⟨d, m, rfl, hd⟩ := h.first
  intro e
  injection e with e _
  rw [e, hc] at hd; cases hd
def GoodV (fx : Bool) : Nat → VT → Prop
  | 0, _ => False
  | d + 1, .mk k n s ks vs =>
    (k = 1 ∧ NumOk n ∧ s = [] ∧ ks = [] ∧ vs = []) ∨ (k = 2 ∧ n = 0 ∧ s.length ≤ 200 ∧ ks = [] ∧ vs = []) ∨ (k = 3 ∧ (n = 0 ∨ n = 1) ∧ s = [] ∧ ks = [] ∧ vs = []) ∨ (k = 0 ∧ n = 0 ∧ s = [] ∧ ks = [] ∧ vs = []) ∨
    (k = 4 ∧ n = 0 ∧ NameOk s ∧ s ≠ wTrue ∧ s ≠ wFalse ∧ s ≠ wNull ∧ ks = [] ∧ vs = []) ∨ (k = 7 ∧ fx = false ∧ n = 0 ∧ NameOk s ∧ ks = [] ∧ vs = []) ∨
    (k = 5 ∧ n = 0 ∧ s = [] ∧ ks = [] ∧ ∀ v ∈ vs, GoodV fx d v) ∨ (k = 6 ∧ n = 0 ∧ s = [] ∧ ∃ ps : List (List UInt8 × VT), ks = ps.map (·.1) ∧ vs = ps.map (·.2) ∧ ∀ p ∈ ps, NameOk p.1 ∧ GoodV fx d p.2)
def GoodT : Nat → TR → Prop
  | 0, _ => False
  | _ + 1, .nm s _ => NameOk s
  | d + 1, .ls t _ => GoodT d t
def GoodA (d : Nat) (a : AR) : Prop := NameOk a.name ∧ GoodV false d a.v
def GoodD (d : Nat) (x : DR) : Prop := NameOk x.name ∧ ∀ a ∈ x.args, GoodA d a
def GoodSel (d : Nat) (G : List SL → Prop) : SL → Prop
  | .mk k al name on_ args dirs sub => (∀ x ∈ dirs, GoodD d x) ∧
    ((k = 1 ∧ on_ = [] ∧ (al = [] ∨ NameOk al) ∧ NameOk name ∧ (∀ a ∈ args, GoodA d a) ∧ (sub = [] ∨ G sub)) ∨
     (k = 2 ∧ al = [] ∧ on_ = [] ∧ NameOk name ∧ name ≠ wOn ∧ args = [] ∧ sub = []) ∨
     (k = 3 ∧ al = [] ∧ name = [] ∧ (on_ = [] ∨ NameOk on_) ∧ args = [] ∧ G sub))
def GoodS : Nat → List SL → Prop
  | 0, _ => False
  | d + 1, l => l ≠ [] ∧ ∀ x ∈ l, GoodSel d (GoodS d) x
def GoodI (n : List UInt8) (t : TR) (has : Bool) (v : VT) : Prop := NameOk n ∧ GoodT 24 t ∧ (has = true ∧ GoodV true 24 v ∨ has = false ∧ v = VT.zero)
def GoodO (o : OP) : Prop := (o.name = [] ∨ NameOk o.name) ∧ (∀ v ∈ o.vars, GoodI v.name v.t v.has v.v) ∧ GoodS 24 o.sub
def GoodF (f : FR) : Prop := NameOk f.name ∧ f.name ≠ wOn ∧ NameOk f.on_ ∧ GoodS 24 f.sub
def GoodDoc (d : DC) : Prop := (∀ o ∈ d.ops, GoodO o) ∧ ∀ f ∈ d.frags, GoodF f
def GoodIn (i : IN) : Prop := GoodI i.name i.t i.has i.v
def GoodFd (f : FD) : Prop := GoodI f.name f.t f.has f.v ∧ ∀ i ∈ f.args, GoodIn i
def GoodTd (t : TD) : Prop := NameOk t.name ∧
  ((t.kind = 3 ∧ t.names ≠ [] ∧ (∀ s ∈ t.names, NameOk s) ∧ t.fields = []) ∨
   (t.kind = 4 ∧ t.names ≠ [] ∧ (∀ s ∈ t.names, NameOk s ∧ s ≠ wTrue ∧ s ≠ wFalse ∧ s ≠ wNull) ∧ t.fields = []) ∨
   (t.kind = 5 ∧ t.names = [] ∧ t.fields ≠ [] ∧ ∀ f ∈ t.fields, GoodFd f ∧ f.args = []) ∨
   ((t.kind = 1 ∨ t.kind = 2 ∧ t.names = []) ∧ (∀ s ∈ t.names, NameOk s) ∧ t.fields ≠ [] ∧ ∀ f ∈ t.fields, GoodFd f ∧ f.has = false))
theorem ok_val (fx : Bool) : ∀ (d : Nat) (v : VT), GoodV fx d v → OkS (valI v)
  | 0, _, h => h.elim
  | d + 1, .mk k n s ks vs, h => by
    rw [valI_eq]
    rcases h with ⟨rfl, h, -⟩ | ⟨rfl, -, h, -⟩ | ⟨rfl, h, -⟩ | ⟨rfl, -⟩ | ⟨rfl, -, h, -⟩ | ⟨rfl, -, -, h, -⟩ | ⟨rfl, -, -, -, h⟩ | ⟨rfl, -, -, ps, rfl, rfl, h⟩
    · exact OkS.nu h OkS.nil SepI.nil
    · exact OkS.qu h OkS.nil
    · refine OkS.nm ?_ OkS.nil SepI.nil
      split <;> exact nameOk_of (by decide)
    · exact OkS.nm (nameOk_of (by decide)) OkS.nil SepI.nil
    · exact OkS.nm h OkS.nil SepI.nil
    · exact OkS.sg (by decide) (OkS.nm h OkS.nil SepI.nil)
    · refine OkS.sg (by decide) ((OkS.gap fun b hb => ?_).app (OkS.sg (by decide) OkS.nil) (SepI.sg (by decide)))
      obtain ⟨v, hv, rfl⟩ := List.mem_map.1 hb
      exact ok_val fx d v (h v hv)
    · refine OkS.sg (by decide) ((OkS.gap fun b hb => ?_).app (OkS.sg (by decide) OkS.nil) (SepI.sg (by decide)))
      rw [List.map_map, List.zipWith_map, List.zipWith_self] at hb
      obtain ⟨p, hp, rfl⟩ := List.mem_map.1 hb
      exact OkS.nm (h p hp).1 (OkS.sg (by decide) (OkS.sp (by decide) (ok_val fx d p.2 (h p hp).2))) (SepI.sg (by decide))
theorem ok_bang (b : Bool) : OkS (bangI b) ∧ SepI (bangI b) := by
  cases b
  · exact ⟨OkS.nil, SepI.nil⟩
  · exact ⟨OkS.sg (by decide) OkS.nil, SepI.sg (by decide)⟩
theorem ok_typ : ∀ (d : Nat) (t : TR), GoodT d t → OkS (typI t)
  | 0, _, h => h.elim
  | d + 1, .nm s b, h => by rw [typI]; exact OkS.nm h (ok_bang b).1 (ok_bang b).2
  | d + 1, .ls t b, h => by rw [typI]; exact OkS.sg (by decide) ((ok_typ d t h).app (OkS.sg (by decide) (ok_bang b).1) (SepI.sg (by decide)))
theorem ok_inp {n : List It} {t : TR} {has : Bool} {v : VT} (hn : OkS n) (ht : GoodT 24 t) (hv : has = true ∧ GoodV true 24 v ∨ has = false ∧ v = VT.zero) : OkS (inpI n t has v) := by
  refine hn.app (OkS.sg (by decide) (OkS.sp (by decide) ((ok_typ _ _ ht).app ?_ ?_))) (SepI.sg (by decide))
  · rcases hv with ⟨rfl, hv⟩ | ⟨rfl, -⟩
    · exact OkS.sp (by decide) (OkS.sg (by decide) (OkS.sp (by decide) (ok_val _ _ _ hv)))
    · exact OkS.nil
  · cases has
    · exact SepI.nil
    · exact SepI.sp (by decide)
theorem ok_nam {g : List It} {l : List (List UInt8)} (hg : ∀ b, OkS b → OkS (g ++ b)) (hs : ∀ b, SepI (g ++ b)) (h : ∀ s ∈ l, NameOk s) : OkS (namI g l) := OkS.sep hg hs fun b hb => by
  obtain ⟨s, hs, rfl⟩ := List.mem_map.1 hb
  exact OkS.nm (h s hs) OkS.nil SepI.nil
theorem ok_in {i : IN} (h : GoodIn i) : OkS (inI i) := ok_inp (OkS.nm h.1 OkS.nil SepI.nil) h.2.1 h.2.2
theorem ok_fd {f : FD} (h : GoodFd f) : OkS (fdI f) := by
  refine ok_inp (OkS.nm h.1.1 (OkS.par fun b hb => ?_) (SepI.par _)) h.1.2.1 h.1.2.2
  obtain ⟨i, hi, rfl⟩ := List.mem_map.1 hb
  exact ok_in (h.2 i hi)
theorem ok_fields {l : List FD} (h : ∀ f ∈ l, GoodFd f) : OkS (brI (l.flatMap fun f => .sp 32 :: fdI f)) := OkS.br (OkS.flat fun f hf => ⟨OkS.sp (by decide) (ok_fd (h f hf)), SepI.sp (by decide)⟩).1
theorem ok_td {t : TD} (h : GoodTd t) : OkS (tdI t) := by
  obtain ⟨hn, h⟩ := h
  unfold tdI
  have hw : NameOk (if t.kind = 1 then wType else if t.kind = 2 then wInterface else wInput) := by
    split
    · exact nameOk_of (by decide)
    · split <;> exact nameOk_of (by decide)
  rcases h with ⟨hk, -, hs, -⟩ | ⟨hk, -, hs, -⟩ | ⟨hk, h0, -, hf⟩ | ⟨hk, hs, -, hf⟩
  · rw [if_pos hk]
    exact OkS.nm (nameOk_of (by decide)) (OkS.sp (by decide) (OkS.nm hn (OkS.sp (by decide) (OkS.sg (by decide) (OkS.sp (by decide) (ok_nam (fun b hb => OkS.sp (by decide) (OkS.sg (by decide) (OkS.sp (by decide) hb))) (fun b => SepI.sp (by decide)) hs)))) (SepI.sp (by decide)))) (SepI.sp (by decide))
  · rw [if_neg (show ¬ t.kind = 3 by omega), if_pos hk]
    exact OkS.nm (nameOk_of (by decide)) (OkS.sp (by decide) (OkS.nm hn (OkS.sp (by decide) (OkS.sg (by decide) (OkS.sp (by decide) ((ok_nam (fun b hb => OkS.sp (by decide) hb) (fun b => SepI.sp (by decide)) (fun s h => (hs s h).1)).app (OkS.sp (by decide) (OkS.sg (by decide) OkS.nil)) (SepI.sp (by decide)))))) (SepI.sp (by decide)))) (SepI.sp (by decide))
  · rw [if_neg (show ¬ t.kind = 3 by omega), if_neg (show ¬ t.kind = 4 by omega), if_neg (show ¬ (t.kind = 1 ∧ t.names ≠ []) by rintro ⟨h1, _⟩; omega)]
    exact OkS.nm hw (OkS.sp (by decide) (OkS.nm hn (OkS.nil.app (ok_fields fun f h => (hf f h).1) (SepI.br _)) (SepI.nil.app (SepI.br _)))) (SepI.sp (by decide))
  · have hk3 : ¬ t.kind = 3 := by rcases hk with hk | hk <;> omega
    have hk4 : ¬ t.kind = 4 := by rcases hk with hk | hk <;> omega
    rw [if_neg hk3, if_neg hk4]
    have h1 : OkS (if t.kind = 1 ∧ t.names ≠ [] then .sp 32 :: nmI wImplements :: .sp 32 :: namI [.sp 32, sgI 38, .sp 32] t.names else []) ∧ SepI (if t.kind = 1 ∧ t.names ≠ [] then .sp 32 :: nmI wImplements :: .sp 32 :: namI [.sp 32, sgI 38, .sp 32] t.names else []) := by
      split
      · exact ⟨OkS.sp (by decide) (OkS.nm (nameOk_of (by decide)) (OkS.sp (by decide) (ok_nam (fun b hb => OkS.sp (by decide) (OkS.sg (by decide) (OkS.sp (by decide) hb))) (fun b => SepI.sp (by decide)) hs)) (SepI.sp (by decide))), SepI.sp (by decide)⟩
      · exact ⟨OkS.nil, SepI.nil⟩
    exact OkS.nm hw (OkS.sp (by decide) (OkS.nm hn (h1.1.app (ok_fields fun f h => (hf f h).1) (SepI.br _)) (h1.2.app (SepI.br _)))) (SepI.sp (by decide))
theorem ok_tys {l : List TD} (h : ∀ t ∈ l, GoodTd t) : OkS (tysI l) := OkS.blk fun b hb => by
  obtain ⟨t, ht, rfl⟩ := List.mem_map.1 hb
  exact ok_td (h t ht)
end Go.Proofs.YtgephneppgcnlaaDoor
namespace Go.Proofs.YtgephneppgcnlaaDoor
set_option linter.unusedVariables false
set_option linter.unusedSimpArgs false

abbrev sgT (c : UInt8) : Tok := ⟨4, [c], 0, 0⟩
abbrev nmT (s : List UInt8) : Tok := ⟨1, s, 0, 0⟩
abbrev doT : Tok := ⟨4, [46, 46, 46], 0, 0⟩
theorem isT_sg (s : List UInt8) (c : UInt8) (r : List Tok) : isT s (sgT c :: r) = decide ([c] = s) := by simp [isT, isS, isW]
theorem isT_nm (s t : List UInt8) (r : List Tok) : isT s (nmT t :: r) = decide (t = s) := by simp [isT, isS, isW]
theorem isT_do (s : List UInt8) (r : List Tok) : isT s (doT :: r) = decide ([46, 46, 46] = s) := by simp [isT, isS, isW]
theorem isS_sg (s : List UInt8) (c : UInt8) (r : List Tok) : isS s (sgT c :: r) = decide ([c] = s) := by simp [isS]
theorem isS_nm (s t : List UInt8) (r : List Tok) : isS s (nmT t :: r) = false := by simp [isS]
theorem isS_do (s : List UInt8) (r : List Tok) : isS s (doT :: r) = decide ([46, 46, 46] = s) := by simp [isS]
theorem wantP_sg (c : UInt8) (r : List Tok) : wantP [c] (sgT c :: r) = .ok () r := by unfold wantP; rw [isT_sg, if_pos (by simp)]; rfl
theorem wantP_nm (s : List UInt8) (r : List Tok) : wantP s (nmT s :: r) = .ok () r := by unfold wantP; rw [isT_nm, if_pos (by simp)]; rfl
theorem okb {α β : Type} (x : α) (r : List Tok) (f : α → List Tok → PR β) : (PR.ok x r).bind f = f x r := rfl
theorem nameP_nm (s : List UInt8) (r : List Tok) : nameP (nmT s :: r) = .ok s r := rfl
theorem nm_no {s : List UInt8} (h : NameOk s) (c : UInt8) (l : List UInt8) (r : List Tok) (hc : letB c = false) : isT (c :: l) (nmT s :: r) = false := by
  rw [isT_nm, decide_eq_false (name_sign h hc)]
theorem tok0_flat {α : Type} (f : α → List It) : ∀ l : List α, tok0 (l.flatMap f) = l.flatMap fun x => tok0 (f x)
  | [] => rfl
  | x :: l => by rw [List.flatMap_cons, tok0_app, tok0_flat f l, List.flatMap_cons]
theorem tok0_sep {g : List It} (hg : tok0 g = []) (l : List (List It)) : tok0 (sepI g l) = l.flatMap tok0 := by
  cases l with
  | nil => rfl
  | cons a l =>
    show tok0 (a ++ l.flatMap fun b => g ++ b) = _
    rw [tok0_app, tok0_flat, List.flatMap_cons]
    congr 1
    congr 1
    funext b
    rw [tok0_app, hg, List.nil_append]
theorem tok0_par (l : List (List It)) : tok0 (parI l) = if l = [] then [] else sgT 40 :: (l.flatMap tok0 ++ [sgT 41]) := by
  unfold parI
  split
  · rfl
  · show sgT 40 :: tok0 (sepI gapI l ++ [sgI 41]) = _
    rw [tok0_app, tok0_sep rfl]; rfl
theorem tok0_br (l : List It) : tok0 (brI l) = sgT 123 :: (tok0 l ++ [sgT 125]) := by
  show sgT 123 :: tok0 (l ++ [.sp 32, sgI 125]) = _
  rw [tok0_app]; rfl
theorem tk_pos {α : Type} {f : List Tok → PR α} (hf : Takes f) {T : List Tok} {x : α} {q : List Tok} (h : f (T ++ q) = .ok x q) : 0 < T.length := by
  have := hf _ _ _ h
  rw [List.length_append] at this; omega
theorem rd_any {α : Type} {f : List Tok → PR α} (hf : Takes f) {T : α → List Tok} {c : UInt8} : ∀ (xs : List α), (∀ x ∈ xs, (∀ q, f (T x ++ q) = .ok x q) ∧ ∀ q, isT [c] (T x ++ q) = false) → ∀ (n : Nat) (acc : List α) (rest : List Tok), (xs.flatMap T).length < n → anyP f [c] n acc (xs.flatMap T ++ sgT c :: rest) = .ok (acc ++ xs) rest
  | _, _, 0, _, _, h => by omega
  | [], _, n + 1, acc, rest, _ => by
    show anyP f [c] (n + 1) acc (sgT c :: rest) = _
    rw [anyP, if_pos (by rw [isT_sg]; simp), List.append_nil]; rfl
  | x :: xs, h, n + 1, acc, rest, hn => by
    have hx := h x (by simp)
    have hp := tk_pos hf (hx.1 [])
    rw [List.flatMap_cons, List.length_append] at hn
    rw [List.flatMap_cons, List.append_assoc, anyP, if_neg (by rw [hx.2]; decide), hx.1]
    show anyP f [c] n (acc ++ [x]) (xs.flatMap T ++ sgT c :: rest) = _
    rw [rd_any hf xs (fun y hy => h y (by simp [hy])) n (acc ++ [x]) rest (by omega)]
    simp
theorem rd_many {α : Type} {f : List Tok → PR α} (hf : Takes f) {T : α → List Tok} {c : UInt8} {Stp : List Tok → Prop} (h3 : ∀ q, Stp (sgT c :: q)) : ∀ (xs : List α), xs ≠ [] → (∀ x ∈ xs, (∀ q, Stp q → f (T x ++ q) = .ok x q) ∧ ∀ q, isT [c] (T x ++ q) = false ∧ Stp (T x ++ q)) → ∀ (n : Nat) (acc : List α) (rest : List Tok), (xs.flatMap T).length ≤ n → manyP f [c] n acc (xs.flatMap T ++ sgT c :: rest) = .ok (acc ++ xs) rest
  | [], h, _, _, _, _, _ => absurd rfl h
  | x :: xs, _, h, 0, acc, rest, hn => by
    have hx := h x (by simp)
    have hp := tk_pos hf (hx.1 _ (h3 []))
    rw [List.flatMap_cons, List.length_append] at hn; omega
  | [x], _, h, n + 1, acc, rest, hn => by
    have hx := h x (by simp)
    rw [List.flatMap_cons, List.flatMap_nil, List.append_nil, manyP, hx.1 _ (h3 rest)]
    show (if isT [c] (sgT c :: rest) then PR.ok (acc ++ [x]) rest else _) = _
    rw [if_pos (by rw [isT_sg]; simp)]
  | x :: y :: ys, _, h, n + 1, acc, rest, hn => by
    have hx := h x (by simp)
    have hy := h y (by simp)
    have hp := tk_pos hf (hx.1 _ (h3 []))
    have e : (y :: ys).flatMap T ++ sgT c :: rest = T y ++ (ys.flatMap T ++ sgT c :: rest) := by rw [List.flatMap_cons, List.append_assoc]
    rw [List.flatMap_cons, List.length_append] at hn
    rw [List.flatMap_cons, List.append_assoc, manyP, hx.1 _ (by rw [e]; exact (hy.2 _).2)]
    show (if isT [c] ((y :: ys).flatMap T ++ sgT c :: rest) then _ else manyP f [c] n (acc ++ [x]) ((y :: ys).flatMap T ++ sgT c :: rest)) = _
    rw [if_neg (by rw [e, (hy.2 _).1]; decide), rd_many hf h3 (y :: ys) (by simp) (fun z hz => h z (by simp [List.mem_cons.1 hz])) n (acc ++ [x]) rest (by omega)]
    simp
/-! ### Values, types -/
theorem fst_val {fx : Bool} {c : UInt8} (hc : letB c = false) (h36 : c ≠ 36) (h91 : c ≠ 91) (h123 : c ≠ 123) : ∀ {d : Nat} {v : VT}, GoodV fx d v → ∀ q, isT [c] (tok0 (valI v) ++ q) = false
  | 0, _, h, _ => h.elim
  | d + 1, .mk k n s ks vs, h, q => by
    rw [valI_eq]
    rcases h with ⟨rfl, h, -⟩ | ⟨rfl, -, h, -⟩ | ⟨rfl, h, -⟩ | ⟨rfl, -⟩ | ⟨rfl, -, h, -⟩ | ⟨rfl, -, -, h, -⟩ | ⟨rfl, -, -, -, h⟩ | ⟨rfl, -, -, ps, rfl, rfl, h⟩
    · rfl
    · rfl
    · show isT [c] (nmT (if n = 1 then wTrue else wFalse) :: q) = false
      refine nm_no ?_ c [] q hc
      split <;> exact nameOk_of (by decide)
    · exact nm_no (nameOk_of (by decide)) c [] q hc
    · exact nm_no h c [] q hc
    · show isT [c] (sgT 36 :: _) = false
      rw [isT_sg]; simp; exact fun e => h36 e.symm
    · show isT [c] (sgT 91 :: _) = false
      rw [isT_sg]; simp; exact fun e => h91 e.symm
    · show isT [c] (sgT 123 :: _) = false
      rw [isT_sg]; simp; exact fun e => h123 e.symm
theorem vB_cons (fixed : Bool) (f : List Tok → PR VT) (t : Tok) (r : List Tok) : valueB fixed f (t :: r) =
    if t.kind = 2 then .ok (.mk 1 t.n [] [] []) r
    else if t.kind = 3 then .ok (.mk 2 0 t.text [] []) r
    else if isT wTrue (t :: r) then .ok (.mk 3 1 [] [] []) r
    else if isT wFalse (t :: r) then .ok (.mk 3 0 [] [] []) r
    else if isT wNull (t :: r) then .ok VT.zero r
    else if t.kind = 1 then .ok (.mk 4 0 t.text [] []) r
    else if !fixed && isT [36] (t :: r) then (nameP r).bind fun s r1 => .ok (.mk 7 0 s [] []) r1
    else if isT [91] (t :: r) then (anyP f [93] (r.length + 1) [] r).bind fun vs r1 => .ok (.mk 5 0 [] [] vs) r1
    else if isT [123] (t :: r) then (anyP (pairP f) [125] (r.length + 1) [] r).bind fun ps r1 => .ok (.mk 6 0 [] (ps.map (·.1)) (ps.map (·.2))) r1
    else .bad t.at_ 4 := rfl
theorem rd_val (fx : Bool) : ∀ (d : Nat) (v : VT), GoodV fx d v → ∀ q, valueP fx d (tok0 (valI v) ++ q) = .ok v q
  | 0, _, h, _ => h.elim
  | d + 1, .mk k n s ks vs, h, q => by
    rw [valI_eq, valueP]
    rcases h with ⟨rfl, h, rfl, rfl, rfl⟩ | ⟨rfl, rfl, h, rfl, rfl⟩ | ⟨rfl, h, rfl, rfl, rfl⟩ | ⟨rfl, rfl, rfl, rfl, rfl⟩ | ⟨rfl, rfl, h, h1, h2, h3, rfl, rfl⟩ | ⟨rfl, hx, rfl, h, rfl, rfl⟩ | ⟨rfl, rfl, rfl, rfl, h⟩ | ⟨rfl, rfl, rfl, ps, rfl, rfl, h⟩
    · show valueB fx _ (⟨2, numS n, n, 0⟩ :: q) = _
      rw [vB_cons, if_pos rfl]
    · show valueB fx _ (⟨3, s, 0, 0⟩ :: q) = _
      rw [vB_cons, if_neg (by simp), if_pos rfl]
    · show valueB fx _ (nmT (if n = 1 then wTrue else wFalse) :: q) = _
      rw [vB_cons, if_neg (by simp), if_neg (by simp)]
      rcases h with rfl | rfl
      · rw [if_neg (by rw [isT_nm]; decide), if_pos (by rw [isT_nm]; decide)]
      · rw [if_pos (by rw [isT_nm]; decide)]
    · show valueB fx _ (nmT wNull :: q) = _
      rw [vB_cons, if_neg (by simp), if_neg (by simp), if_neg (by rw [isT_nm]; decide), if_neg (by rw [isT_nm]; decide), if_pos (by rw [isT_nm]; decide)]; rfl
    · show valueB fx _ (nmT s :: q) = _
      rw [vB_cons, if_neg (by simp), if_neg (by simp), if_neg (by rw [isT_nm, decide_eq_false h1]; decide), if_neg (by rw [isT_nm, decide_eq_false h2]; decide), if_neg (by rw [isT_nm, decide_eq_false h3]; decide), if_pos rfl]
    · show valueB fx _ (sgT 36 :: nmT s :: q) = _
      rw [vB_cons, if_neg (by simp), if_neg (by simp), if_neg (by rw [isT_sg]; decide), if_neg (by rw [isT_sg]; decide), if_neg (by rw [isT_sg]; decide), if_neg (by decide), if_pos (by rw [isT_sg, hx]; decide)]; rfl
    · have e : tok0 (sgI 91 :: (sepI gapI (vs.map valI) ++ [sgI 93])) ++ q = sgT 91 :: (vs.flatMap (fun v => tok0 (valI v)) ++ sgT 93 :: q) := by
        show sgT 91 :: (tok0 (sepI gapI (vs.map valI) ++ [sgI 93]) ++ q) = _
        rw [tok0_app, tok0_sep rfl, List.append_assoc, List.flatMap_map]; rfl
      show valueB fx _ (tok0 (sgI 91 :: (sepI gapI (vs.map valI) ++ [sgI 93])) ++ q) = _
      rw [e, vB_cons, if_neg (by simp), if_neg (by simp), if_neg (by rw [isT_sg]; decide), if_neg (by rw [isT_sg]; decide), if_neg (by rw [isT_sg]; decide), if_neg (by decide), if_neg (by rw [isT_sg]; simp), if_pos (by rw [isT_sg]; decide),
        rd_any (valueP_takes fx d) (T := fun v => tok0 (valI v)) vs (fun v hv => ⟨rd_val fx d v (h v hv), fst_val (by decide) (by decide) (by decide) (by decide) (h v hv)⟩) _ [] q (by rw [List.length_append, List.length_cons]; omega)]
      rfl
    · have e : tok0 (sgI 123 :: (sepI gapI (List.zipWith pairI (ps.map (·.1)) ((ps.map (·.2)).map valI)) ++ [sgI 125])) ++ q = sgT 123 :: (ps.flatMap (fun p => nmT p.1 :: sgT 58 :: tok0 (valI p.2)) ++ sgT 125 :: q) := by
        show sgT 123 :: (tok0 (sepI gapI (List.zipWith pairI (ps.map (·.1)) ((ps.map (·.2)).map valI)) ++ [sgI 125]) ++ q) = _
        rw [tok0_app, tok0_sep rfl, List.append_assoc, List.map_map, List.zipWith_map, List.zipWith_self, List.flatMap_map]; rfl
      show valueB fx _ (tok0 (sgI 123 :: (sepI gapI (List.zipWith pairI (ps.map (·.1)) ((ps.map (·.2)).map valI)) ++ [sgI 125])) ++ q) = _
      rw [e, vB_cons, if_neg (by simp), if_neg (by simp), if_neg (by rw [isT_sg]; decide), if_neg (by rw [isT_sg]; decide), if_neg (by rw [isT_sg]; decide), if_neg (by decide), if_neg (by rw [isT_sg]; simp), if_neg (by rw [isT_sg]; decide), if_pos (by rw [isT_sg]; decide),
        rd_any (pairP_takes (valueP_takes fx d)) (T := fun p : List UInt8 × VT => nmT p.1 :: sgT 58 :: tok0 (valI p.2)) ps (fun p hp => ⟨fun q => ?_, fun q => nm_no (h p hp).1 125 [] _ (by decide)⟩) _ [] q (by rw [List.length_append, List.length_cons]; omega)]
      · rfl
      · show ((nameP (nmT p.1 :: sgT 58 :: (tok0 (valI p.2) ++ q))).bind fun s r1 => (wantP [58] r1).bind fun _ r2 => (valueP fx d r2).bind fun v r3 => .ok (s, v) r3) = _
        rw [nameP_nm]
        show ((wantP [58] (sgT 58 :: (tok0 (valI p.2) ++ q))).bind fun _ r2 => (valueP fx d r2).bind fun v r3 => .ok (p.1, v) r3) = _
        rw [wantP_sg]
        show ((valueP fx d (tok0 (valI p.2) ++ q)).bind fun v r3 => .ok (p.1, v) r3) = _
        rw [rd_val fx d p.2 (h p hp).2 q]; rfl
theorem rd_bang (mk : Bool → TR) (b : Bool) {q : List Tok} (h : isT [33] q = false) : bangP mk (tok0 (bangI b) ++ q) = .ok (mk b) q := by
  unfold bangP
  cases b
  · show (if isT [33] q then _ else _) = _
    rw [if_neg (by rw [h]; decide)]; rfl
  · show (if isT [33] (sgT 33 :: q) then PR.ok (mk true) q else _) = _
    rw [if_pos (by rw [isT_sg]; decide)]
theorem rd_typ : ∀ (d : Nat) (t : TR), GoodT d t → ∀ q, isT [33] q = false → typP d (tok0 (typI t) ++ q) = .ok t q
  | 0, _, h, _, _ => h.elim
  | d + 1, .nm s b, h, q, hq => by
    rw [typI, typP]
    show (if isT [91] (nmT s :: (tok0 (bangI b) ++ q)) then _ else (nameP (nmT s :: (tok0 (bangI b) ++ q))).bind fun s r1 => bangP (.nm s) r1) = _
    rw [if_neg (by rw [nm_no h 91 [] _ (by decide)]; decide), nameP_nm]
    exact rd_bang _ b hq
  | d + 1, .ls t b, h, q, hq => by
    rw [typI, typP]
    have e : tok0 (sgI 91 :: (typI t ++ sgI 93 :: bangI b)) ++ q = sgT 91 :: (tok0 (typI t) ++ (sgT 93 :: (tok0 (bangI b) ++ q))) := by
      show sgT 91 :: (tok0 (typI t ++ sgI 93 :: bangI b) ++ q) = _
      rw [tok0_app, List.append_assoc]; rfl
    rw [e, if_pos (by rw [isT_sg]; decide)]
    show ((typP d (tok0 (typI t) ++ (sgT 93 :: (tok0 (bangI b) ++ q)))).bind fun t r1 => (wantP [93] r1).bind fun _ r2 => bangP (.ls t) r2) = _
    rw [rd_typ d t h _ (by rw [isT_sg]; decide)]
    show ((wantP [93] (sgT 93 :: (tok0 (bangI b) ++ q))).bind fun _ r2 => bangP (.ls t) r2) = _
    rw [wantP_sg]
    exact rd_bang _ b hq
/-! ### Arguments, directives, selections -/
/-! ### Definitions -/
/-- What may follow a type, or what something is else. -/
structure StpI (q : List Tok) : Prop where
  c33 : isT [33] q = false
  c61 : isT [61] q = false
theorem StpI.nm {s : List UInt8} (h : NameOk s) (q : List Tok) : StpI (nmT s :: q) := ⟨nm_no h _ _ _ (by decide), nm_no h _ _ _ (by decide)⟩
theorem rd_inp {n : List It} {t : TR} {has : Bool} {v : VT} (ht : GoodT 24 t) (hv : has = true ∧ GoodV true 24 v ∨ has = false ∧ v = VT.zero) {q : List Tok} (hq : StpI q) {β : Type} (mk : TR → Bool → VT → β) :
    ∃ R, tok0 (inpI n t has v) ++ q = tok0 n ++ sgT 58 :: R ∧
    ((typP 24 R).bind fun t r4 => if isT [61] r4 then (valueP true 24 r4.tail).bind fun v r5 => .ok (mk t true v) r5 else .ok (mk t false VT.zero) r4) = .ok (mk t has v) q := by
  refine ⟨tok0 (typI t) ++ (tok0 (if has then .sp 32 :: sgI 61 :: .sp 32 :: valI v else []) ++ q), ?_, ?_⟩
  · unfold inpI
    rw [tok0_app, List.append_assoc]
    show tok0 n ++ (sgT 58 :: (tok0 (typI t ++ _) ++ q)) = _
    rw [tok0_app, List.append_assoc]
  · rcases hv with ⟨rfl, hv⟩ | ⟨rfl, rfl⟩
    · rw [if_pos rfl, rd_typ _ _ ht _ (isT_sg _ _ _)]
      show (if isT [61] (sgT 61 :: (tok0 (valI v) ++ q)) then (valueP true 24 (tok0 (valI v) ++ q)).bind fun v r5 => .ok (mk t true v) r5 else .ok (mk t false VT.zero) (sgT 61 :: (tok0 (valI v) ++ q))) = _
      rw [if_pos (by rw [isT_sg]; decide), rd_val _ _ _ hv]; rfl
    · rw [if_neg (by decide), show tok0 ([] : List It) ++ q = q from rfl, rd_typ _ _ ht _ (show isT [33] q = false from hq.c33)]
      show (if isT [61] q then (valueP true 24 q.tail).bind fun v r5 => .ok (mk t true v) r5 else .ok (mk t false VT.zero) q) = _
      rw [if_neg (by rw [hq.c61]; decide)]
end Go.Proofs.YtgephneppgcnlaaDoor
namespace Go.Proofs.YtgephneppgcnlaaDoor
set_option linter.unusedVariables false
set_option linter.unusedSimpArgs false

def GTok (t : Tok) : Prop := (t.kind = 1 → NameOk t.text) ∧ (t.kind = 2 → NumOk t.n) ∧ (t.kind = 3 → t.text.length ≤ 200)
def GT (r : List Tok) : Prop := ∀ t ∈ r, GTok t
theorem oneP_good {l : List UInt8} {k : Nat} {t : List UInt8} {n : Int} {len : Nat} (h : oneP l = .ok k t n len) (a : Nat) : GTok ⟨k, t, n, a⟩ := by
  cases l with
  | nil => cases h
  | cons c l =>
    rw [oneP_cons] at h
    split at h
    · rename_i hc
      split at h
      · cases h
      · rename_i hl
        injection h with h1 h2 h3 h4
        subst h1; subst h2
        refine ⟨fun _ => ?_, fun h => absurd h (by simp), fun h => absurd h (by simp)⟩
        have hp : 1 ≤ runL ldB (c :: l) := runL_pos (by unfold ldB; rw [hc]; rfl)
        have hle := runL_le ldB (c :: l)
        refine ⟨⟨c, l.take (runL ldB (c :: l) - 1), ?_, hc⟩, runL_take_all (c :: l), ?_⟩
        · obtain ⟨m, hm⟩ : ∃ m, runL ldB (c :: l) = m + 1 := ⟨runL ldB (c :: l) - 1, by omega⟩
          show List.take (runL ldB (c :: l)) (c :: l) = _
          rw [hm]; rfl
        · show (List.take (runL ldB (c :: l)) (c :: l)).length ≤ 32
          rw [List.length_take]; omega
    · split at h
      · obtain ⟨D, h1, h2, h3, h4, h5, h6, h7, -⟩ := numP_ok h
        subst h4
        refine ⟨fun h => absurd h (by simp), fun _ => ?_, fun h => absurd h (by simp)⟩
        have hall : ∀ x ∈ ((c :: l).drop (numFrom (c :: l))).take D, digB x = true := by
          rw [← h6]; exact runL_take_all _
        have hv := decV_lt (((c :: l).drop (numFrom (c :: l))).take D) 0 0 hall (by decide)
        have hll : (((c :: l).drop (numFrom (c :: l))).take D).length ≤ 18 := by rw [List.length_take]; omega
        have hp := pow18 _ hll
        have hn : n.natAbs = decV 0 (((c :: l).drop (numFrom (c :: l))).take D) := by rw [h7]; split <;> omega
        unfold NumOk
        rw [hn]
        simp only [Nat.add_zero] at hv
        have : 10 ^ 18 = 1000000000000000000 := by decide
        omega
      · split at h
        · have := txtP_len _ _ _ h
          refine ⟨fun h => absurd h (by show ¬ k = 1; omega), fun h => absurd h (by show ¬ k = 2; omega), fun _ => this.2.2.2.2⟩
        · split at h
          · injection h with h1 h2 h3 h4
            subst h1
            exact ⟨fun h => absurd h (by simp), fun h => absurd h (by simp), fun h => absurd h (by simp)⟩
          · split at h
            · injection h with h1 h2 h3 h4
              subst h1
              exact ⟨fun h => absurd h (by simp), fun h => absurd h (by simp), fun h => absurd h (by simp)⟩
            · cases h
theorem toksA_good : ∀ (a : Nat) (l : List UInt8), ∀ ts, toksA a l = .ok ts → GT ts := by
  refine toksA_ind ?_ ?_ ?_ ?_ ?_
  · intro a ts h
    rw [toksA_nil] at h; injection h with h; subst h
    intro t ht
    rw [List.mem_singleton] at ht; subst ht
    exact ⟨fun h => absurd h (by simp), fun h => absurd h (by simp), fun h => absurd h (by simp)⟩
  · intro a c l hb ih ts h
    rw [toksA_blk a hb] at h; exact ih ts h
  · intro a c l hr ih ts h
    rw [toksA_rem a hr] at h; exact ih ts h
  · intro a c l off e hb hr hx ts h
    rw [toksA_bad a hb hr hx] at h; cases h
  · intro a c l k t n len hb hr ho ih ts h
    rw [toksA_one a hb hr ho] at h
    obtain ⟨us, h1, rfl⟩ := Out.cons_ok h
    intro u hu
    rcases List.mem_cons.1 hu with rfl | hu
    · exact oneP_good ho a
    · exact ih us h1 u hu
theorem toks_good {s : List UInt8} {ts : List Tok} (h : toks s = .ok ts) : GT ts := toksA_good 0 s ts (toks_ok h).2
/-! ### What is read out of such tokens -/
def Gd {α : Type} (f : List Tok → PR α) (P : α → Prop) : Prop := ∀ r x r1, GT r → f r = .ok x r1 → P x ∧ GT r1
theorem GT.tail {r : List Tok} (h : GT r) : GT r.tail := fun t ht => h t (List.mem_of_mem_tail ht)
theorem Gd.ok {α : Type} {P : α → Prop} (x : α) (h : P x) : Gd (fun r => .ok x r) P := fun r y r1 hg e => by
  injection e with e1 e2; subst e1; subst e2; exact ⟨h, hg⟩
theorem Gd.bad {α : Type} {P : α → Prop} (a : List Tok → Nat) (e : Nat) : Gd (fun r => (.bad (a r) e : PR α)) P := fun r y r1 hg e => by cases e
theorem Gd.bind {α β : Type} {f : List Tok → PR α} {g : α → List Tok → PR β} {P : α → Prop} {Q : β → Prop} (hf : Gd f P) (hg : ∀ x, P x → Gd (g x) Q) : Gd (fun r => (f r).bind g) Q := fun r y r1 h e => by
  obtain ⟨x, r2, h1, h2⟩ := bind_inv e
  obtain ⟨k1, k2⟩ := hf r x r2 h h1
  exact hg x k1 r2 y r1 k2 h2
theorem Gd.ite {α : Type} {c : List Tok → Bool} {f g : List Tok → PR α} {P : α → Prop} (hf : Gd f P) (hg : Gd g P) : Gd (fun r => if c r then f r else g r) P := fun r y r1 h e => by
  have e : (if c r then f r else g r) = .ok y r1 := e
  split at e
  · exact hf r y r1 h e
  · exact hg r y r1 h e
theorem Gd.tl {α : Type} {f : List Tok → PR α} {P : α → Prop} (hf : Gd f P) : Gd (fun r => f r.tail) P := fun r y r1 h e => hf r.tail y r1 h.tail e
theorem Gd.mono {α : Type} {f : List Tok → PR α} {P Q : α → Prop} (hf : Gd f P) (h : ∀ x, P x → Q x) : Gd f Q := fun r y r1 hg e => ⟨h y (hf r y r1 hg e).1, (hf r y r1 hg e).2⟩
theorem gd_name : Gd nameP NameOk := fun r x r1 h e => by
  cases r with
  | nil => cases e
  | cons t r =>
    have e : (if t.kind = 1 then PR.ok t.text r else .bad t.at_ 4) = .ok x r1 := e
    split at e
    · rename_i hk
      injection e with e1 e2; subst e1; subst e2
      exact ⟨(h t (by simp)).1 hk, fun u hu => h u (by simp [hu])⟩
    · cases e
theorem gd_want (s : List UInt8) : Gd (wantP s) (fun _ => True) := fun r x r1 h e => by
  unfold wantP at e
  split at e
  · injection e with e1 e2; subst e2; exact ⟨trivial, h.tail⟩
  · cases e
theorem gd_many {α : Type} {f : List Tok → PR α} {P : α → Prop} (hf : Gd f P) (c : List UInt8) : ∀ (n : Nat) (acc : List α), (∀ x ∈ acc, P x) → Gd (manyP f c n acc) (fun l => l ≠ [] ∧ ∀ x ∈ l, P x)
  | 0, acc, _ => fun r x r1 h e => by cases e
  | n + 1, acc, ha => fun r x r1 h e => by
    rw [manyP] at e
    obtain ⟨y, r2, h1, h2⟩ := bind_inv e
    obtain ⟨k1, k2⟩ := hf r y r2 h h1
    have ha2 : ∀ z ∈ acc ++ [y], P z := fun z hz => by
      rcases List.mem_append.1 hz with hz | hz
      · exact ha z hz
      · rw [List.mem_singleton] at hz; subst hz; exact k1
    split at h2
    · injection h2 with e1 e2; subst e1; subst e2; exact ⟨⟨by simp, ha2⟩, k2.tail⟩
    · exact gd_many hf c n _ ha2 r2 x r1 k2 h2
theorem gd_any {α : Type} {f : List Tok → PR α} {P : α → Prop} (hf : Gd f P) (c : List UInt8) : ∀ (n : Nat) (acc : List α), (∀ x ∈ acc, P x) → Gd (anyP f c n acc) (fun l => ∀ x ∈ l, P x)
  | 0, acc, _ => fun r x r1 h e => by cases e
  | n + 1, acc, ha => fun r x r1 h e => by
    rw [anyP] at e
    split at e
    · injection e with e1 e2; subst e1; subst e2; exact ⟨ha, h.tail⟩
    · obtain ⟨y, r2, h1, h2⟩ := bind_inv e
      obtain ⟨k1, k2⟩ := hf r y r2 h h1
      exact gd_any hf c n _ (fun z hz => by
        rcases List.mem_append.1 hz with hz | hz
        · exact ha z hz
        · rw [List.mem_singleton] at hz; subst hz; exact k1) r2 x r1 k2 h2
theorem Gd.fuel {α : Type} {F : Nat → List Tok → PR α} {P : α → Prop} (h : ∀ n, Gd (F n) P) (m : List Tok → Nat) : Gd (fun r => F (m r) r) P := fun r y r1 hg e => h (m r) r y r1 hg e
theorem gd_pair {f : List Tok → PR VT} {P : VT → Prop} (hf : Gd f P) : Gd (pairP f) (fun p => NameOk p.1 ∧ P p.2) :=
  gd_name.bind fun s hs => (gd_want _).bind fun _ _ => hf.bind fun v hv => Gd.ok _ ⟨hs, hv⟩
theorem gd_val (fx : Bool) : ∀ d, Gd (valueP fx d) (GoodV fx d)
  | 0 => fun r x r1 h e => by cases e
  | d + 1 => fun r x r1 h e => by
    have ih := gd_val fx d
    cases r with
    | nil => cases e
    | cons t r =>
      rw [valueP, vB_cons] at e
      have ht := h t (by simp)
      have hr : GT r := fun u hu => h u (by simp [hu])
      split at e
      · rename_i hk
        injection e with e1 e2; subst e1; subst e2
        exact ⟨.inl ⟨rfl, ht.2.1 hk, rfl, rfl, rfl⟩, hr⟩
      split at e
      · rename_i hk
        injection e with e1 e2; subst e1; subst e2
        exact ⟨.inr (.inl ⟨rfl, rfl, ht.2.2 hk, rfl, rfl⟩), hr⟩
      split at e
      · injection e with e1 e2; subst e1; subst e2
        exact ⟨.inr (.inr (.inl ⟨rfl, .inr rfl, rfl, rfl, rfl⟩)), hr⟩
      rename_i h1
      split at e
      · injection e with e1 e2; subst e1; subst e2
        exact ⟨.inr (.inr (.inl ⟨rfl, .inl rfl, rfl, rfl, rfl⟩)), hr⟩
      rename_i h2
      split at e
      · injection e with e1 e2; subst e1; subst e2
        exact ⟨.inr (.inr (.inr (.inl ⟨rfl, rfl, rfl, rfl, rfl⟩))), hr⟩
      rename_i h3
      split at e
      · rename_i hk
        injection e with e1 e2; subst e1; subst e2
        have hw : ∀ s, isT s (t :: r) = true ↔ t.text = s := fun s => by simp [isT, isS, isW, hk]
        exact ⟨.inr (.inr (.inr (.inr (.inl ⟨rfl, rfl, ht.1 hk, fun q => h1 ((hw _).2 q), fun q => h2 ((hw _).2 q), fun q => h3 ((hw _).2 q), rfl, rfl⟩)))), hr⟩
      split at e
      · rename_i hf
        rw [Bool.and_eq_true] at hf
        obtain ⟨s, r2, k1, k2⟩ := bind_inv e
        obtain ⟨g1, g2⟩ := gd_name r s r2 hr k1
        injection k2 with e1 e2; subst e1; subst e2
        exact ⟨.inr (.inr (.inr (.inr (.inr (.inl ⟨rfl, by simpa using hf.1, rfl, g1, rfl, rfl⟩))))), g2⟩
      split at e
      · obtain ⟨vs, r2, k1, k2⟩ := bind_inv e
        obtain ⟨g1, g2⟩ := gd_any ih _ _ [] (by simp) r vs r2 hr k1
        injection k2 with e1 e2; subst e1; subst e2
        exact ⟨.inr (.inr (.inr (.inr (.inr (.inr (.inl ⟨rfl, rfl, rfl, rfl, g1⟩)))))), g2⟩
      split at e
      · obtain ⟨ps, r2, k1, k2⟩ := bind_inv e
        obtain ⟨g1, g2⟩ := gd_any (gd_pair ih) _ _ [] (by simp) r ps r2 hr k1
        injection k2 with e1 e2; subst e1; subst e2
        exact ⟨.inr (.inr (.inr (.inr (.inr (.inr (.inr ⟨rfl, rfl, rfl, ps, rfl, rfl, g1⟩)))))), g2⟩
      · cases e
theorem gd_bang {P : TR → Prop} {mk : Bool → TR} (h : ∀ b, P (mk b)) : Gd (bangP mk) P := Gd.ite (c := fun r => isT [33] r) (Gd.tl (Gd.ok _ (h true))) (Gd.ok _ (h false))
theorem gd_typ : ∀ d, Gd (typP d) (GoodT d)
  | 0 => fun r x r1 h e => by cases e
  | d + 1 => Gd.ite (c := fun r => isT [91] r) (Gd.tl ((gd_typ d).bind fun t ht => (gd_want [93]).bind (Q := GoodT (d + 1)) fun _ _ => gd_bang (mk := TR.ls t) fun b => ht)) (gd_name.bind fun s hs => gd_bang (P := GoodT (d + 1)) (mk := TR.nm s) fun b => hs)
/-! ### And back -/
theorem LikeP.rel : ∀ {ts us : List Tok}, LikeP ts us → ∀ (E F : Tok), E.kind = F.kind → E.text = F.text → E.n = F.n → RelT (fun _ _ => True) (us ++ [F]) (ts ++ [E])
  | [], [], _, E, F, h1, h2, h3 => ⟨⟨h1.symm, h2.symm, h3.symm, trivial⟩, trivial⟩
  | [], _ :: _, h, _, _, _, _, _ => h.elim
  | _ :: _, [], h, _, _, _, _, _ => h.elim
  | t :: ts, u :: us, h, E, F, h1, h2, h3 => ⟨⟨h.1.1.symm, h.1.2.1.symm, h.1.2.2.symm, trivial⟩, LikeP.rel h.2 E F h1 h2 h3⟩
theorem LikeP.len : ∀ {ts us : List Tok}, LikeP ts us → ts.length = us.length
  | [], [], _ => rfl
  | [], _ :: _, h => h.elim
  | _ :: _, [], h => h.elim
  | t :: ts, u :: us, h => by simp only [List.length_cons]; rw [LikeP.len h.2]
theorem flat_len {α : Type} {T : α → List Tok} : ∀ {l : List α}, (∀ x ∈ l, 0 < (T x).length) → l.length ≤ (l.flatMap T).length
  | [], _ => by simp
  | x :: l, h => by
    have h1 := h x (by simp)
    have h2 := flat_len (l := l) (fun y hy => h y (by simp [hy]))
    rw [List.flatMap_cons, List.length_append, List.length_cons]; omega
end Go.Proofs.YtgephneppgcnlaaDoor
namespace Go.Proofs.YtgephneppgcnlaaDoor
set_option linter.unusedVariables false
set_option linter.unusedSimpArgs false

theorem rd_in {i : IN} (h : GoodIn i) {q : List Tok} (hq : StpI q) : inP (tok0 (inI i) ++ q) = .ok i q := by
  obtain ⟨R, e, hr⟩ := rd_inp (n := [nmI i.name]) h.2.1 h.2.2 hq (fun t b x => (⟨i.name, t, b, x⟩ : IN))
  show inP (tok0 (inpI [nmI i.name] i.t i.has i.v) ++ q) = _
  rw [e]
  show inP (nmT i.name :: sgT 58 :: R) = _
  unfold inP
  rw [nameP_nm]
  show ((wantP [58] (sgT 58 :: R)).bind fun _ r3 => (typP 24 r3).bind fun t r4 => if isT [61] r4 then (valueP true 24 r4.tail).bind fun x r5 => .ok (IN.mk i.name t true x) r5 else .ok (IN.mk i.name t false VT.zero) r4) = _
  rw [wantP_sg]
  exact hr
theorem fst_in {i : IN} (h : GoodIn i) (q : List Tok) : ∃ r, tok0 (inI i) ++ q = nmT i.name :: r := ⟨_, rfl⟩
theorem ins_par {l : List IN} (h : ∀ i ∈ l, GoodIn i) (S : List Tok) (hS : isT [40] S = false) : (if isT [40] (tok0 (parI (l.map inI)) ++ S) then manyP inP [41] ((tok0 (parI (l.map inI)) ++ S).length + 1) [] (tok0 (parI (l.map inI)) ++ S).tail else .ok [] (tok0 (parI (l.map inI)) ++ S)) = .ok l S := by
  rw [tok0_par]
  by_cases hv : l = []
  · subst hv
    show (if isT [40] S then manyP inP [41] (S.length + 1) [] S.tail else PR.ok ([] : List IN) S) = _
    rw [if_neg (by rw [hS]; decide)]
  · rw [if_neg (show ¬ l.map inI = [] by simpa using hv)]
    have e : (sgT 40 :: ((l.map inI).flatMap tok0 ++ [sgT 41]) ++ S) = sgT 40 :: (l.flatMap (fun x => tok0 (inI x)) ++ sgT 41 :: S) := by
      rw [List.flatMap_map, List.cons_append, List.append_assoc]; rfl
    rw [e, if_pos (by rw [isT_sg]; decide)]
    exact rd_many inP_takes (Stp := StpI) (fun q => ⟨by rw [isT_sg]; decide, by rw [isT_sg]; decide⟩) l hv (fun x hx => ⟨fun q hq => rd_in (h x hx) hq, fun q => by
      obtain ⟨r, er⟩ := fst_in (h x hx) q
      rw [er]; exact ⟨nm_no (h x hx).1 _ _ _ (by decide), StpI.nm (h x hx).1 _⟩⟩) _ [] S (by simp only [List.length_cons, List.length_append]; omega)
theorem rd_fd {f : FD} (h : GoodFd f) (hh : f.has = false) {q : List Tok} (hq : StpI q) : fdP (tok0 (fdI f) ++ q) = .ok f q := by
  obtain ⟨name, gs, t, has, v⟩ := f
  obtain ⟨⟨h1, h2, h3⟩, h4⟩ := h
  have hh : has = false := hh
  subst hh
  have hv : v = VT.zero := by rcases h3 with ⟨h3, _⟩ | ⟨_, h3⟩; cases h3; exact h3
  subst hv
  have e : tok0 (fdI ⟨name, gs, t, false, VT.zero⟩) ++ q = nmT name :: (tok0 (parI (gs.map inI)) ++ (sgT 58 :: (tok0 (typI t) ++ q))) := by
    show tok0 (inpI (nmI name :: parI (gs.map inI)) t false VT.zero) ++ q = _
    unfold inpI
    rw [tok0_app, List.append_assoc]
    show nmT name :: (tok0 (parI (gs.map inI)) ++ (sgT 58 :: (tok0 (typI t ++ []) ++ q))) = _
    rw [List.append_nil]
  rw [e]
  unfold fdP
  rw [nameP_nm, okb, ins_par h4 _ (by rw [isT_sg]; decide), okb, wantP_sg, okb, rd_typ _ _ h2 _ hq.c33, okb]
theorem rd_plain {s : List UInt8} (h : NameOk s ∧ s ≠ wTrue ∧ s ≠ wFalse ∧ s ≠ wNull) (q : List Tok) : plainP (nmT s :: q) = .ok s q := by
  unfold plainP
  rw [isT_nm, isT_nm, isT_nm, decide_eq_false h.2.1, decide_eq_false h.2.2.1, decide_eq_false h.2.2.2, if_neg (by decide)]; rfl
theorem rd_more {c : UInt8} : ∀ (l : List (List UInt8)) {q : List Tok}, isT [c] q = false → ∀ (n : Nat) (acc : List (List UInt8)), l.length < n → moreP [c] n acc ((l.flatMap fun s => [sgT c, nmT s]) ++ q) = .ok (acc ++ l) q
  | _, _, _, 0, _, h => by omega
  | [], q, hq, n + 1, acc, _ => by
    show moreP [c] (n + 1) acc q = _
    rw [moreP, if_neg (by rw [hq]; decide), List.append_nil]
  | s :: l, q, hq, n + 1, acc, hn => by
    simp only [List.length_cons] at hn
    show moreP [c] (n + 1) acc (sgT c :: nmT s :: ((l.flatMap fun s => [sgT c, nmT s]) ++ q)) = _
    rw [moreP, if_pos (by rw [isT_sg]; simp)]
    show ((nameP (nmT s :: ((l.flatMap fun s => [sgT c, nmT s]) ++ q))).bind fun s r1 => moreP [c] n (acc ++ [s]) r1) = _
    rw [nameP_nm]
    show moreP [c] n (acc ++ [s]) ((l.flatMap fun s => [sgT c, nmT s]) ++ q) = _
    rw [rd_more l hq n _ (by omega)]; simp
theorem tok0_nam (c : UInt8) (l : List (List UInt8)) : tok0 (namI [.sp 32, sgI c, .sp 32] l) = match l with | [] => [] | s :: l => nmT s :: l.flatMap fun s => [sgT c, nmT s] := by
  unfold namI
  cases l with
  | nil => rfl
  | cons s l =>
    show tok0 (nmI s :: (l.map fun s => [nmI s]).flatMap fun b => [.sp 32, sgI c, .sp 32] ++ b) = _
    show nmT s :: tok0 ((l.map fun s => [nmI s]).flatMap fun b => [.sp 32, sgI c, .sp 32] ++ b) = _
    rw [tok0_flat, List.flatMap_map]; rfl
theorem rd_names {c : UInt8} (hc : letB c = false) {l : List (List UInt8)} (hl : l ≠ []) (h : ∀ s ∈ l, NameOk s) {q : List Tok} (hq : isT [c] q = false) : namesP [c] (tok0 (namI [.sp 32, sgI c, .sp 32] l) ++ q) = .ok l q := by
  rw [tok0_nam]
  cases l with
  | nil => exact absurd rfl hl
  | cons s l =>
    show namesP [c] (nmT s :: ((l.flatMap fun s => [sgT c, nmT s]) ++ q)) = _
    unfold namesP
    rw [if_neg (by rw [nm_no (h s (by simp)) _ _ _ hc]; decide), nameP_nm]
    show moreP [c] _ [s] ((l.flatMap fun s => [sgT c, nmT s]) ++ q) = _
    rw [rd_more l hq _ [s] (by
      have := flat_len (T := fun s => [sgT c, nmT s]) (l := l) (fun _ _ => by simp)
      rw [List.length_append]; omega)]; rfl
theorem rd_obj {k : Nat} {s : List UInt8} {l : List (List UInt8)} {fs : List FD} (hf : fs ≠ []) (h : ∀ f ∈ fs, GoodFd f ∧ f.has = false) (q : List Tok) : objP k s l (tok0 (brI (fs.flatMap fun f => .sp 32 :: fdI f)) ++ q) = .ok ⟨k, s, fs, l⟩ q := by
  rw [tok0_br, tok0_flat]
  have e : (sgT 123 :: ((fs.flatMap fun f => tok0 (.sp 32 :: fdI f)) ++ [sgT 125])) ++ q = sgT 123 :: ((fs.flatMap fun f => tok0 (fdI f)) ++ sgT 125 :: q) := by rw [List.cons_append, List.append_assoc]; rfl
  rw [e]
  unfold objP
  rw [wantP_sg, okb, rd_many fdP_takes (Stp := StpI) (fun q => ⟨by rw [isT_sg]; decide, by rw [isT_sg]; decide⟩) fs hf (fun x hx => ⟨fun q hq => rd_fd (h x hx).1 (h x hx).2 hq, fun q => by
      show isT [125] (nmT x.name :: _) = false ∧ StpI (nmT x.name :: _)
      exact ⟨nm_no (h x hx).1.1.1 _ _ _ (by decide), StpI.nm (h x hx).1.1.1 _⟩⟩) _ [] q (by rw [List.length_append]; omega), okb]
  rfl
theorem map_of {l : List FD} (h : ∀ f ∈ l, GoodFd f ∧ f.args = []) : ∃ is : List IN, l = is.map FD.of ∧ ∀ i ∈ is, GoodIn i := by
  induction l with
  | nil => exact ⟨[], rfl, by simp⟩
  | cons f l ih =>
    obtain ⟨is, rfl, h2⟩ := ih (fun g hg => h g (by simp [hg]))
    obtain ⟨h3, h4⟩ := h f (by simp)
    obtain ⟨name, gs, t, has, v⟩ := f
    have h4 : gs = [] := h4
    subst h4
    refine ⟨⟨name, t, has, v⟩ :: is, rfl, fun i hi => ?_⟩
    rcases List.mem_cons.1 hi with rfl | hi
    · exact h3.1
    · exact h2 i hi
theorem tdI_eq (k : Nat) (name : List UInt8) (fs : List FD) (names : List (List UInt8)) : tdI ⟨k, name, fs, names⟩ =
  if k = 3 then nmI wUnion :: .sp 32 :: nmI name :: .sp 32 :: sgI 61 :: .sp 32 :: namI [.sp 32, sgI 124, .sp 32] names
  else if k = 4 then nmI wEnum :: .sp 32 :: nmI name :: .sp 32 :: sgI 123 :: .sp 32 :: (namI [.sp 32] names ++ [.sp 32, sgI 125])
  else nmI (if k = 1 then wType else if k = 2 then wInterface else wInput) :: .sp 32 :: nmI name ::
    ((if k = 1 ∧ names ≠ [] then .sp 32 :: nmI wImplements :: .sp 32 :: namI [.sp 32, sgI 38, .sp 32] names else []) ++ brI (fs.flatMap fun f => .sp 32 :: fdI f)) := rfl
theorem rd_td {t : TD} (h : GoodTd t) {q : List Tok} (h1 : isT [124] q = false) : tdP (tok0 (tdI t) ++ q) = .ok t q := by
  obtain ⟨k, name, fs, names⟩ := t
  obtain ⟨hn, h⟩ := h
  have hn : NameOk name := hn
  have h : (k = 3 ∧ names ≠ [] ∧ (∀ s ∈ names, NameOk s) ∧ fs = []) ∨ (k = 4 ∧ names ≠ [] ∧ (∀ s ∈ names, NameOk s ∧ s ≠ wTrue ∧ s ≠ wFalse ∧ s ≠ wNull) ∧ fs = []) ∨ (k = 5 ∧ names = [] ∧ fs ≠ [] ∧ ∀ f ∈ fs, GoodFd f ∧ f.args = []) ∨ ((k = 1 ∨ k = 2 ∧ names = []) ∧ (∀ s ∈ names, NameOk s) ∧ fs ≠ [] ∧ ∀ f ∈ fs, GoodFd f ∧ f.has = false) := h
  rw [tdI_eq]
  have go : ∀ (w : List UInt8) (r : List Tok) (j : Nat), kindN (nmT w :: nmT name :: r) = j → j ≠ 0 → tdP (nmT w :: nmT name :: r) = bodyP j name r := fun w r j hk h0 => by
    unfold tdP
    rw [hk, if_neg h0]; rfl
  rcases h with ⟨hk, h2, h3, h4⟩ | ⟨hk, h2, h3, h4⟩ | ⟨hk, h2, h3, h4⟩ | ⟨hk, h2, h3, h4⟩
  · have hk : k = 3 := hk
    subst hk
    subst h4
    rw [if_pos rfl]
    show tdP (nmT wUnion :: nmT name :: sgT 61 :: (tok0 (namI [.sp 32, sgI 124, .sp 32] names) ++ q)) = _
    rw [go wUnion _ 3 (by unfold kindN; simp only [isT_nm]; decide) (by decide)]
    unfold bodyP
    rw [if_pos rfl]
    unfold unionP
    rw [wantP_sg, okb, rd_names (by decide) h2 h3 h1, okb]
  · have hk : k = 4 := hk
    subst hk
    subst h4
    rw [if_neg (by decide), if_pos rfl]
    have e : tok0 (namI [.sp 32] names ++ [.sp 32, sgI 125]) ++ q = (names.flatMap fun s => [nmT s]) ++ sgT 125 :: q := by
      unfold namI
      rw [tok0_app, tok0_sep rfl, List.append_assoc, List.flatMap_map]; rfl
    show tdP (nmT wEnum :: nmT name :: sgT 123 :: (tok0 (namI [.sp 32] names ++ [.sp 32, sgI 125]) ++ q)) = _
    rw [e, go wEnum _ 4 (by unfold kindN; simp only [isT_nm]; decide) (by decide)]
    unfold bodyP
    rw [if_neg (by decide), if_pos rfl]
    unfold enumP
    rw [wantP_sg, okb, rd_many plainP_takes (Stp := fun _ => True) (fun _ => trivial) names h2 (fun x hx => ⟨fun q _ => rd_plain (h3 x hx) q, fun q => ⟨nm_no (h3 x hx).1 _ _ _ (by decide), trivial⟩⟩) _ [] q (by rw [List.length_append]; omega)]
    rfl
  · have hk : k = 5 := hk
    subst hk
    subst h2
    obtain ⟨is, rfl, hi⟩ := map_of h4
    have h3 : is ≠ [] := by rintro rfl; exact h3 rfl
    rw [if_neg (by decide), if_neg (by decide), if_neg (by decide), if_neg (by decide), if_neg (show ¬ (5 = 1 ∧ ([] : List (List UInt8)) ≠ []) by decide)]
    have e : tok0 (brI ((is.map FD.of).flatMap fun f => .sp 32 :: fdI f)) ++ q = sgT 123 :: ((is.flatMap fun i => tok0 (inI i)) ++ sgT 125 :: q) := by
      rw [tok0_br, tok0_flat, List.flatMap_map, List.cons_append, List.append_assoc]; rfl
    show tdP (nmT wInput :: nmT name :: (tok0 (brI ((is.map FD.of).flatMap fun f => .sp 32 :: fdI f)) ++ q)) = _
    rw [e, go wInput _ 5 (by unfold kindN; simp only [isT_nm]; decide) (by decide)]
    unfold bodyP
    rw [if_neg (by decide), if_neg (by decide), if_pos rfl]
    unfold inputP
    rw [wantP_sg, okb, rd_many inP_takes (Stp := StpI) (fun q => ⟨by rw [isT_sg]; decide, by rw [isT_sg]; decide⟩) is h3 (fun x hx => ⟨fun q hq => rd_in (hi x hx) hq, fun q => by
        show isT [125] (nmT x.name :: _) = false ∧ StpI (nmT x.name :: _)
        exact ⟨nm_no (hi x hx).1 _ _ _ (by decide), StpI.nm (hi x hx).1 _⟩⟩) _ [] q (by rw [List.length_append]; omega)]
    rfl
  · have hk3 : ¬ k = 3 := by rcases hk with hk | hk <;> omega
    have hk4 : ¬ k = 4 := by rcases hk with hk | hk <;> omega
    have hk5 : ¬ k = 5 := by rcases hk with hk | hk <;> omega
    rw [if_neg hk3, if_neg hk4]
    obtain ⟨S, hS⟩ : ∃ S, tok0 (brI (fs.flatMap fun f => .sp 32 :: fdI f)) ++ q = S := ⟨_, rfl⟩
    have hobj : ∀ l, objP k name l S = .ok ⟨k, name, fs, l⟩ q := fun l => by rw [← hS]; exact rd_obj h3 h4 q
    have s1 : ∃ r, S = sgT 123 :: r := by rw [← hS, tok0_br]; exact ⟨_, rfl⟩
    obtain ⟨sr, s1⟩ := s1
    rcases hk with hk | hk
    · have hk : k = 1 := hk
      subst hk
      by_cases hnm : names = []
      · subst hnm
        rw [if_neg (show ¬ (1 = 1 ∧ ([] : List (List UInt8)) ≠ []) by simp), if_pos (show 1 = 1 from rfl)]
        show tdP (nmT wType :: nmT name :: (tok0 (brI (fs.flatMap fun f => .sp 32 :: fdI f)) ++ q)) = _
        rw [hS, go wType _ 1 (by unfold kindN; simp only [isT_nm]; decide) (by decide)]
        unfold bodyP
        rw [if_neg (by decide), if_neg (by decide), if_neg (by decide), if_neg (by rw [s1, isT_sg]; decide)]
        exact hobj []
      · rw [if_pos (show 1 = 1 ∧ names ≠ [] from ⟨rfl, hnm⟩), if_pos (show 1 = 1 from rfl)]
        have e : tok0 ((.sp 32 :: nmI wImplements :: .sp 32 :: namI [.sp 32, sgI 38, .sp 32] names) ++ brI (fs.flatMap fun f => .sp 32 :: fdI f)) ++ q = nmT wImplements :: (tok0 (namI [.sp 32, sgI 38, .sp 32] names) ++ S) := by
          rw [tok0_app, List.append_assoc, hS]; rfl
        show tdP (nmT wType :: nmT name :: (tok0 ((.sp 32 :: nmI wImplements :: .sp 32 :: namI [.sp 32, sgI 38, .sp 32] names) ++ brI (fs.flatMap fun f => .sp 32 :: fdI f)) ++ q)) = _
        rw [e, go wType _ 1 (by unfold kindN; simp only [isT_nm]; decide) (by decide)]
        unfold bodyP
        rw [if_neg (by decide), if_neg (by decide), if_neg (by decide), if_pos (by rw [isT_nm]; decide)]
        show ((namesP [38] (tok0 (namI [.sp 32, sgI 38, .sp 32] names) ++ S)).bind fun l r1 => objP 1 name l r1) = _
        rw [rd_names (by decide) hnm h2 (by rw [s1, isT_sg]; decide)]
        exact hobj names
    · obtain ⟨hk, hnm⟩ := hk
      have hk : k = 2 := hk
      subst hk
      subst hnm
      rw [if_neg (show ¬ (2 = 1 ∧ ([] : List (List UInt8)) ≠ []) by simp), if_neg (show ¬ 2 = 1 by decide), if_pos (show 2 = 2 from rfl)]
      show tdP (nmT wInterface :: nmT name :: (tok0 (brI (fs.flatMap fun f => .sp 32 :: fdI f)) ++ q)) = _
      rw [hS, go wInterface _ 2 (by unfold kindN; simp only [isT_nm]; decide) (by decide)]
      unfold bodyP
      rw [if_neg (by decide), if_neg (by decide), if_neg (by decide), if_neg (by simp)]
      exact hobj []
theorem fst_td {t : TD} (h : GoodTd t) (q : List Tok) : ∃ w r, tok0 (tdI t) ++ q = nmT w :: r ∧ NameOk w := by
  unfold tdI
  split
  · exact ⟨wUnion, _, rfl, nameOk_of (by decide)⟩
  · split
    · exact ⟨wEnum, _, rfl, nameOk_of (by decide)⟩
    · refine ⟨_, _, rfl, ?_⟩
      split
      · exact nameOk_of (by decide)
      · split <;> exact nameOk_of (by decide)
theorem rd_tys {E : Tok} (h0 : E.kind = 0) : ∀ (l : List TD), l ≠ [] → (∀ t ∈ l, GoodTd t) → ∀ (n : Nat) (acc : List TD), l.length ≤ n → tysF n acc ((l.flatMap fun t => tok0 (tdI t)) ++ [E]) = .ok (acc ++ l) [E]
  | [], h, _, _, _, _ => absurd rfl h
  | t :: l, _, h, 0, _, hn => by simp at hn
  | [t], _, h, n + 1, acc, _ => by
    rw [List.flatMap_cons, List.flatMap_nil, List.append_nil, tysF, rd_td (h t (by simp)) (by simp [isT, isS, isW, h0])]
    show (if isK 0 [E] then _ else _) = _
    rw [if_pos (by unfold isK; exact decide_eq_true h0)]
  | t :: t2 :: l, _, h, n + 1, acc, hn => by
    obtain ⟨w, r, e, hw⟩ := fst_td (h t2 (by simp)) ((l.flatMap fun t => tok0 (tdI t)) ++ [E])
    have e2 : ((t2 :: l).flatMap fun t => tok0 (tdI t)) ++ [E] = nmT w :: r := by rw [List.flatMap_cons, List.append_assoc, e]
    rw [List.flatMap_cons, List.append_assoc, tysF, rd_td (h t (by simp)) (by rw [e2]; exact nm_no hw _ _ _ (by decide)), okb, if_neg (by rw [e2]; simp [isK]), rd_tys h0 (t2 :: l) (by simp) (fun g hg => h g (by simp [List.mem_cons.1 hg])) n _ (by simp only [List.length_cons] at hn ⊢; omega)]
    simp
/-! ### What is read is well formed -/
theorem gd_in : Gd inP GoodIn :=
  gd_name.bind fun s hs => (gd_want _).bind fun _ _ => (gd_typ 24).bind fun t ht =>
    Gd.ite (c := fun r => isT [61] r) (Gd.tl ((gd_val true 24).bind fun v hv => Gd.ok _ ⟨hs, ht, .inl ⟨rfl, hv⟩⟩)) (Gd.ok _ ⟨hs, ht, .inr ⟨rfl, rfl⟩⟩)
theorem gd_fd : Gd fdP (fun f => GoodFd f ∧ f.has = false) :=
  gd_name.bind fun s hs => Gd.bind (P := fun l => ∀ i ∈ l, GoodIn i) (Gd.ite (c := fun r => isT [40] r) (fun r x r1 h e => by have := gd_many gd_in _ _ [] (by simp) _ x r1 h.tail e; exact ⟨this.1.2, this.2⟩) (Gd.ok _ (by simp))) fun gs hgs =>
    (gd_want _).bind fun _ _ => (gd_typ 24).bind fun t ht => Gd.ok _ ⟨⟨⟨hs, ht, .inr ⟨rfl, rfl⟩⟩, hgs⟩, rfl⟩
theorem gd_plain : Gd plainP (fun s => NameOk s ∧ s ≠ wTrue ∧ s ≠ wFalse ∧ s ≠ wNull) := fun r x r1 h e => by
  unfold plainP at e
  split at e
  · cases e
  · rename_i hn
    obtain ⟨k, q⟩ := gd_name r x r1 h e
    simp only [Bool.or_eq_true, not_or] at hn
    have hx : ∀ s, x = s → isT s r = true := fun s hs => by
      cases r with
      | nil => cases e
      | cons t r =>
        have e : (if t.kind = 1 then PR.ok t.text r else .bad t.at_ 4) = .ok x r1 := e
        split at e
        · rename_i hk
          injection e with e _
          simp [isT, isS, isW, hk, e, hs]
        · cases e
    exact ⟨⟨k, fun hs => hn.1.1 (hx _ hs), fun hs => hn.1.2 (hx _ hs), fun hs => hn.2 (hx _ hs)⟩, q⟩
theorem gd_more (c : List UInt8) : ∀ (n : Nat) (acc : List (List UInt8)), acc ≠ [] → (∀ s ∈ acc, NameOk s) → Gd (moreP c n acc) (fun l => l ≠ [] ∧ ∀ s ∈ l, NameOk s)
  | 0, acc, _, _ => fun r x r1 h e => by cases e
  | n + 1, acc, h0, ha => fun r x r1 h e => by
    rw [moreP] at e
    split at e
    · obtain ⟨y, r2, h1, h2⟩ := bind_inv e
      obtain ⟨k1, k2⟩ := gd_name _ y r2 h.tail h1
      exact gd_more c n _ (by simp) (fun z hz => by
        rcases List.mem_append.1 hz with hz | hz
        · exact ha z hz
        · rw [List.mem_singleton] at hz; subst hz; exact k1) r2 x r1 k2 h2
    · injection e with e1 e2; subst e1; subst e2; exact ⟨⟨h0, ha⟩, h⟩
theorem gd_names (c : List UInt8) : Gd (namesP c) (fun l => l ≠ [] ∧ ∀ s ∈ l, NameOk s) := fun r x r1 h e => by
  unfold namesP at e
  obtain ⟨y, r2, h1, h2⟩ := bind_inv e
  have hr : GT (if isT c r then r.tail else r) := by split; exact h.tail; exact h
  obtain ⟨k1, k2⟩ := gd_name _ y r2 hr h1
  exact gd_more c _ [y] (by simp) (fun z hz => by rw [List.mem_singleton] at hz; subst hz; exact k1) r2 x r1 k2 h2
theorem gd_obj {k : Nat} (hk : k = 1 ∨ k = 2) {s : List UInt8} (hs : NameOk s) {l : List (List UInt8)} (hl : ∀ s ∈ l, NameOk s) (hl2 : k = 2 → l = []) : Gd (objP k s l) GoodTd :=
  (gd_want _).bind fun _ _ => Gd.bind (P := fun fs => fs ≠ [] ∧ ∀ f ∈ fs, GoodFd f ∧ f.has = false) (fun r x r1 h e => gd_many gd_fd _ _ [] (by simp) r x r1 h e) fun fs hf => Gd.ok _ ⟨hs, .inr (.inr (.inr ⟨hk.imp id fun h => ⟨h, hl2 h⟩, hl, hf.1, hf.2⟩))⟩
theorem gd_td : Gd tdP GoodTd := fun r x r1 h e => by
  unfold tdP at e
  split at e
  · cases e
  · rename_i hk0
    obtain ⟨s, r2, h1, e⟩ := bind_inv e
    obtain ⟨hs, q1⟩ := gd_name _ _ _ h.tail h1
    have hk5 : kindN r ≤ 5 := by unfold kindN; repeat' split
                                 all_goals omega
    unfold bodyP at e
    split at e
    · exact ((gd_want _).bind (Q := GoodTd) fun _ _ => (gd_names _).bind fun l hl => Gd.ok _ ⟨hs, .inl ⟨rfl, hl.1, hl.2, rfl⟩⟩) r2 x r1 q1 e
    · split at e
      · exact ((gd_want _).bind (Q := GoodTd) fun _ _ => Gd.bind (P := fun l => l ≠ [] ∧ ∀ s ∈ l, NameOk s ∧ s ≠ wTrue ∧ s ≠ wFalse ∧ s ≠ wNull) (fun r x r1 h e => gd_many gd_plain _ _ [] (by simp) r x r1 h e) fun l hl => Gd.ok _ ⟨hs, .inr (.inl ⟨rfl, hl.1, hl.2, rfl⟩)⟩) r2 x r1 q1 e
      · split at e
        · refine ((gd_want _).bind (Q := GoodTd) fun _ _ => Gd.bind (P := fun l => l ≠ [] ∧ ∀ i ∈ l, GoodIn i) (fun r x r1 h e => gd_many gd_in _ _ [] (by simp) r x r1 h e) fun l hl => Gd.ok _ ⟨hs, .inr (.inr (.inl ⟨rfl, rfl, by simpa using hl.1, fun f hf => ?_⟩))⟩) r2 x r1 q1 e
          obtain ⟨i, hi, rfl⟩ := List.mem_map.1 hf
          exact ⟨⟨hl.2 i hi, by simp [FD.of]⟩, rfl⟩
        · rename_i n3 n4 n5
          split at e
          · rename_i hb
            rw [Bool.and_eq_true] at hb
            obtain ⟨l, r3, h2, e⟩ := bind_inv e
            obtain ⟨hl, q2⟩ := gd_names _ _ _ _ q1.tail h2
            have hk1 : kindN r = 1 := of_decide_eq_true hb.1
            exact gd_obj (.inl hk1) hs hl.2 (fun h => by omega) r3 x r1 q2 e
          · exact gd_obj (by omega) hs (by simp) (fun _ => rfl) r2 x r1 q1 e
theorem gd_tys : ∀ (n : Nat) (acc : List TD), (∀ t ∈ acc, GoodTd t) → Gd (tysF n acc) (fun l => l ≠ [] ∧ ∀ t ∈ l, GoodTd t)
  | 0, acc, _ => fun r x r1 h e => by cases e
  | n + 1, acc, ha => fun r x r1 h e => by
    rw [tysF] at e
    obtain ⟨y, r2, h1, h2⟩ := bind_inv e
    obtain ⟨k1, k2⟩ := gd_td r y r2 h h1
    have ha2 : ∀ z ∈ acc ++ [y], GoodTd z := fun z hz => by
      rcases List.mem_append.1 hz with hz | hz
      · exact ha z hz
      · rw [List.mem_singleton] at hz; subst hz; exact k1
    split at h2
    · injection h2 with e1 e2; subst e1; subst e2; exact ⟨⟨by simp, ha2⟩, k2⟩
    · exact gd_tys n _ ha2 r2 x r1 k2 h2
theorem tysP_good {s : List UInt8} {l : List TD} (h : tysP s = .ok l) : l ≠ [] ∧ ∀ t ∈ l, GoodTd t := by
  unfold tysP at h
  cases ht : toks s with
  | bad a e => rw [ht] at h; cases h
  | ok ts =>
    rw [ht] at h
    have h : (match tysF (ts.length + 1) [] ts with | .ok d _ => TR1.ok d | .bad a e => .bad a e) = .ok l := h
    cases hd : tysF (ts.length + 1) [] ts with
    | bad a e => rw [hd] at h; cases h
    | ok d1 r1 =>
      rw [hd] at h; injection h with h; subst h
      exact (gd_tys _ [] (by simp) ts d1 r1 (toks_good ht) hd).1
/-! ### Places change nothing -/
theorem in_sim : Sim inP := fun S r r' h e => by
  unfold inP
  refine sim_bind (name_sim S _ _ h e) fun s r2 r2' h e => sim_bind (want_sim _ S _ _ h e) fun _ r3 r3' h e => sim_bind (typ_sim _ S _ _ h e) fun t r4 r4' h e => sim_if (relT_isT h e _) (fun hs => ?_) (fun _ => ⟨rfl, h, e⟩)
  obtain ⟨h, e⟩ := relT_tail h e (isT_k0 hs)
  exact sim_bind (value_sim _ _ S _ _ h e) fun v r5 r5' h e => ⟨rfl, h, e⟩
theorem fd_sim : Sim fdP := fun S r r' h e => by
  unfold fdP
  refine sim_bind (name_sim S _ _ h e) fun s r2 r2' h e => sim_bind ?_ fun gs r3 r3' h e => sim_bind (want_sim _ S _ _ h e) fun _ r3 r3' h e => sim_bind (typ_sim _ S _ _ h e) fun t r4 r4' h e => ⟨rfl, h, e⟩
  rw [h.len]
  refine sim_if (relT_isT h e _) (fun hs => ?_) (fun _ => ⟨rfl, h, e⟩)
  obtain ⟨h, e⟩ := relT_tail h e (isT_k0 hs)
  exact many_sim in_sim _ _ _ S _ _ h e
theorem plain_sim : Sim plainP := fun S r r' h e => by
  unfold plainP
  rw [relT_isT h e, relT_isT h e, relT_isT h e]
  exact sim_if rfl (fun _ => ⟨rfl, relT_at h e⟩) (fun _ => name_sim S _ _ h e)
theorem more_sim (c : List UInt8) : ∀ (n : Nat) (acc : List (List UInt8)), Sim (moreP c n acc)
  | 0, acc => fun S r r' h e => ⟨rfl, relT_at h e⟩
  | n + 1, acc => fun S r r' h e => by
    rw [moreP, moreP]
    refine sim_if (relT_isT h e _) (fun hs => ?_) (fun _ => ⟨rfl, h, e⟩)
    obtain ⟨h1, h2⟩ := relT_tail h e (isT_k0 hs)
    exact sim_bind (name_sim S _ _ h1 h2) fun x r1 r1' h e => more_sim c n _ S _ _ h e
theorem names_sim (c : List UInt8) : Sim (namesP c) := fun S r r' h e => by
  unfold namesP
  rw [relT_isT h e]
  have hh : RelT S (if isT c r then r.tail else r) (if isT c r then r'.tail else r') ∧ EndR (if isT c r then r.tail else r) := by
    by_cases hs : isT c r = true
    · rw [if_pos hs, if_pos hs]; exact relT_tail h e (isT_k0 hs)
    · rw [if_neg hs, if_neg hs]; exact ⟨h, e⟩
  exact sim_bind (name_sim S _ _ hh.1 hh.2) fun s r1 r1' h e => by rw [h.len]; exact more_sim c _ _ S _ _ h e
theorem obj_sim (k : Nat) (s : List UInt8) (l : List (List UInt8)) : Sim (objP k s l) := fun S r r' h e => by
  unfold objP
  exact sim_bind (want_sim _ S _ _ h e) fun _ r1 r1' h e => sim_bind (by rw [h.len]; exact many_sim fd_sim _ _ _ S _ _ h e) fun fs r2 r2' h e => ⟨rfl, h, e⟩
theorem kind_sim {S : Nat → Nat → Prop} {r r' : List Tok} (h : RelT S r r') (he : EndR r) : kindN r' = kindN r := by
  unfold kindN
  rw [relT_isT h he, relT_isT h he, relT_isT h he, relT_isT h he, relT_isT h he]
theorem kind_k0 {r : List Tok} (h : kindN r ≠ 0) : isK 0 r = false := by
  unfold kindN at h
  split at h
  · rename_i h2; exact isT_k0 h2
  split at h
  · rename_i h2; exact isT_k0 h2
  split at h
  · rename_i h2; exact isT_k0 h2
  split at h
  · rename_i h2; exact isT_k0 h2
  split at h
  · rename_i h2; exact isT_k0 h2
  · exact absurd rfl h
theorem td_sim : Sim tdP := fun S r r' h e => by
  unfold tdP
  rw [kind_sim h e]
  by_cases hk : kindN r = 0
  · rw [if_pos hk, if_pos hk]; exact ⟨rfl, relT_at h e⟩
  · rw [if_neg hk, if_neg hk]
    obtain ⟨h, e⟩ := relT_tail h e (kind_k0 hk)
    refine sim_bind (name_sim S _ _ h e) fun s r1 r1' h e => ?_
    obtain ⟨k, hk⟩ : ∃ k, kindN r = k := ⟨_, rfl⟩
    rw [hk]
    unfold bodyP
    split
    · unfold unionP
      exact sim_bind (want_sim _ S _ _ h e) fun _ r1 r1' h e => sim_bind (names_sim _ S _ _ h e) fun l r2 r2' h e => ⟨rfl, h, e⟩
    split
    · unfold enumP
      exact sim_bind (want_sim _ S _ _ h e) fun _ r1 r1' h e => sim_bind (by rw [h.len]; exact many_sim plain_sim _ _ _ S _ _ h e) fun l r2 r2' h e => ⟨rfl, h, e⟩
    split
    · unfold inputP
      exact sim_bind (want_sim _ S _ _ h e) fun _ r1 r1' h e => sim_bind (by rw [h.len]; exact many_sim in_sim _ _ _ S _ _ h e) fun l r2 r2' h e => ⟨rfl, h, e⟩
    · rw [relT_isT h e]
      refine sim_if rfl (fun hs => ?_) (fun _ => obj_sim _ _ _ S _ _ h e)
      rw [Bool.and_eq_true] at hs
      obtain ⟨h, e⟩ := relT_tail h e (isT_k0 hs.2)
      exact sim_bind (names_sim _ S _ _ h e) fun l r2 r2' h e => obj_sim _ _ _ S _ _ h e
theorem tys_sim : ∀ (n : Nat) (acc : List TD), Sim (tysF n acc)
  | 0, d => fun S r r' h e => ⟨rfl, relT_at h e⟩
  | n + 1, d => fun S r r' h e => by
    rw [tysF, tysF]
    exact sim_bind (td_sim S _ _ h e) fun d1 r1 r1' h e => sim_if (relT_isK h e _) (fun _ => ⟨rfl, h, e⟩) (fun _ => tys_sim n _ S _ _ h e)
/-! ### And back -/
theorem endR_snoc (l : List Tok) {E : Tok} (h : E.kind = 0) : EndR (l ++ [E]) := by
  induction l with
  | nil => exact h
  | cons t l ih => cases l with
    | nil => exact ih
    | cons u l => exact ih
/-- What is printed of declarations is read as these declarations. -/
theorem tys_again {l : List TD} (h : ∀ t ∈ l, GoodTd t) (hne : l ≠ []) : ∃ ts, toksA 0 (ren (tysI l)) = .ok ts ∧ ∃ r, tysF (ts.length + 1) [] ts = .ok l r := by
  obtain ⟨ts, h1, h2⟩ := toks_ren (tysI l) 0 (ok_tys h [] Sep.nil)
  obtain ⟨E, hE⟩ : ∃ E : Tok, (⟨0, [], 0, 0 + (ren (tysI l)).length⟩ : Tok) = E := ⟨_, rfl⟩
  rw [hE] at h1
  refine ⟨_, h1, ?_⟩
  have hr := h2.rel E ⟨0, [], 0, 0⟩ (by rw [← hE]) (by rw [← hE]) (by rw [← hE])
  have hs := tys_sim ((ts ++ [E]).length + 1) [] _ _ _ hr (endR_snoc _ rfl)
  have e : tok0 (tysI l) = l.flatMap fun t => tok0 (tdI t) := by unfold tysI; rw [tok0_sep rfl, List.flatMap_map]
  have hl : l.length ≤ (tok0 (tysI l)).length := by
    rw [e]
    refine flat_len fun t ht => ?_
    obtain ⟨w, r, e2, _⟩ := fst_td (h t ht) []
    rw [List.append_nil] at e2
    rw [e2]; simp
  have h3 := rd_tys (E := ⟨0, [], 0, 0⟩) rfl l hne h ((ts ++ [E]).length + 1) [] (by rw [List.length_append, h2.len]; omega)
  rw [← e] at h3
  rw [h3] at hs
  cases hq : tysF ((ts ++ [E]).length + 1) [] (ts ++ [E]) with
  | ok x r =>
    rw [hq] at hs
    have := hs.1
    exact ⟨r, by rw [← this]; rfl⟩
  | bad a e => rw [hq] at hs; exact hs.elim
theorem tysP_back {s : List UInt8} {l : List TD} (h : tysP s = .ok l) : tysP (ren (tysI l)) = .ok l ∨ tysP (ren (tysI l)) = .bad 0 2 := by
  obtain ⟨hne, hg⟩ := tysP_good h
  obtain ⟨ts, h1, r, h2⟩ := tys_again hg hne
  by_cases hl : 2000 < (ren (tysI l)).length
  · right
    unfold tysP toks
    rw [if_pos hl]
  · left
    unfold tysP
    rw [toks_short (by omega), h1]
    show (match tysF (ts.length + 1) [] ts with | .ok d _ => TR1.ok d | .bad a e => .bad a e) = _
    rw [h2]
end Go.Proofs.YtgephneppgcnlaaDoor
namespace Go.Proofs.YtgephneppgcnlaaDoor
set_option linter.unusedVariables false
set_option linter.unusedSimpArgs false

variable {E : Tok} {tl : List Tok}
/-- The same, where tl begins with nothing that is looked for at the end. -/
def JeP {α : Type} (E : Tok) (tl pre : List Tok) (p p' : PR α) : Prop := match p with
  | .bad _ _ => True
  | .ok x r1 => ∃ u, u <:+ pre ∧ r1 = u ++ [E] ∧ p' = .ok x (u ++ tl)
theorem JcP.je {α : Type} {pre : List Tok} {p p' : PR α} (h : JcP E tl pre p p') : JeP E tl pre p p' := by
  cases p with
  | bad a e => trivial
  | ok x r => obtain ⟨u, h1, h2, h3, h4⟩ := h; exact ⟨u, h1, h3, h4⟩
theorem JeP.weak {α : Type} {a b : List Tok} (hs : a <:+ b) {p p' : PR α} (h : JeP E tl a p p') : JeP E tl b p p' := by
  cases p with
  | bad a e => trivial
  | ok x r => obtain ⟨u, h1, h3, h4⟩ := h; exact ⟨u, h1.trans hs, h3, h4⟩
theorem JeP.ok {α : Type} (x : α) (pre : List Tok) : JeP E tl pre (.ok x (pre ++ [E])) (.ok x (pre ++ tl)) := ⟨pre, List.suffix_refl _, rfl, rfl⟩
theorem je_bind {α β : Type} {pre : List Tok} {p p' : PR α} {f g : α → List Tok → PR β} (h : JeP E tl pre p p') (hf : ∀ x u, JeP E tl u (f x (u ++ [E])) (g x (u ++ tl))) : JeP E tl pre (p.bind f) (p'.bind g) := by
  cases p with
  | bad a e => trivial
  | ok x r1 =>
    obtain ⟨u, h1, rfl, rfl⟩ := h
    exact JeP.weak h1 (hf x u)
theorem je_if {α : Type} {τ : List Tok → Bool} (T : Tst E τ) (ht : τ tl = false) {pre : List Tok} {p p' q q' : PR α} (h1 : ∀ a u, pre = a :: u → τ (pre ++ [E]) = true → JeP E tl pre p p') (h2 : JeP E tl pre q q') : JeP E tl pre (if τ (pre ++ [E]) then p else q) (if τ (pre ++ tl) then p' else q') := by
  cases pre with
  | nil =>
    rw [List.nil_append, List.nil_append, if_neg (by rw [T.no]; decide), if_neg (by rw [ht]; decide)]
    exact h2
  | cons a u =>
    rw [List.cons_append, List.cons_append, T.hd a (u ++ tl) (u ++ [E])]
    split
    · rename_i hc; exact h1 a u rfl hc
    · exact h2
theorem more_jn (h0 : E.kind = 0) (c : List UInt8) : ∀ (n : Nat) (acc : List (List UInt8)) (pre : List Tok) (m : Nat), (pre ++ [E]).length < n → (pre ++ tl).length < m → JnP E tl pre (moreP c n acc (pre ++ [E])) (moreP c m acc (pre ++ tl))
  | 0, _, _, _, h, _ => absurd h (by omega)
  | _ + 1, _, _, 0, _, h => absurd h (by omega)
  | n + 1, acc, pre, m + 1, h1, h2 => by
    rw [moreP, moreP]
    refine jn_if (tst_T h0 _) (fun a u e _ => ?_) (.ok _ _)
    subst e
    refine JnP.weak (List.suffix_cons _ _) ?_
    show JnP E tl u ((nameP (u ++ [E])).bind _) ((nameP (u ++ tl)).bind _)
    have hq := name_jc h0 (tl := tl) u
    cases hn : nameP (u ++ [E]) with
    | bad a e => trivial
    | ok x r1 =>
      rw [hn] at hq
      obtain ⟨v, k1, k2, rfl, k4⟩ := hq
      rw [k4]
      refine JnP.weak k1 (more_jn h0 c n (acc ++ [x]) v m ?_ ?_)
      · simp only [List.length_append, List.length_cons] at h1 ⊢; have := k1.length_le; omega
      · simp only [List.length_append, List.length_cons] at h2 ⊢; have := k1.length_le; omega
theorem more_je (h0 : E.kind = 0) (c : List UInt8) (hc : isT c tl = false) : ∀ (n : Nat) (acc : List (List UInt8)) (pre : List Tok) (m : Nat), (pre ++ [E]).length < n → (pre ++ tl).length < m → JeP E tl pre (moreP c n acc (pre ++ [E])) (moreP c m acc (pre ++ tl))
  | 0, _, _, _, h, _ => absurd h (by omega)
  | _ + 1, _, _, 0, _, h => absurd h (by omega)
  | n + 1, acc, pre, m + 1, h1, h2 => by
    rw [moreP, moreP]
    refine je_if (tst_T h0 _) hc (fun a u e _ => ?_) (.ok _ _)
    subst e
    refine JeP.weak (List.suffix_cons _ _) ?_
    show JeP E tl u ((nameP (u ++ [E])).bind _) ((nameP (u ++ tl)).bind _)
    have hq := name_jc h0 (tl := tl) u
    cases hn : nameP (u ++ [E]) with
    | bad a e => trivial
    | ok x r1 =>
      rw [hn] at hq
      obtain ⟨v, k1, k2, rfl, k4⟩ := hq
      rw [k4]
      refine JeP.weak k1 (more_je h0 c hc n (acc ++ [x]) v m ?_ ?_)
      · simp only [List.length_append, List.length_cons] at h1 ⊢; have := k1.length_le; omega
      · simp only [List.length_append, List.length_cons] at h2 ⊢; have := k1.length_le; omega
theorem names_fst (h0 : E.kind = 0) (c : List UInt8) (pre : List Tok) : JcP E tl pre (nameP (if isT c (pre ++ [E]) then (pre ++ [E]).tail else pre ++ [E])) (nameP (if isT c (pre ++ tl) then (pre ++ tl).tail else pre ++ tl)) := by
  rw [apply_ite nameP, apply_ite nameP]
  refine jc_if (tst_T h0 _) (fun a u e _ => ?_) (name_jc h0 pre)
  subst e
  exact JcP.weak (List.suffix_cons _ _) (name_jc h0 u)
theorem names_jn (h0 : E.kind = 0) (c : List UInt8) (pre : List Tok) : JnP E tl pre (namesP c (pre ++ [E])) (namesP c (pre ++ tl)) := by
  unfold namesP
  exact jn_bind (names_fst h0 c pre).jn fun s u => more_jn h0 c _ _ u _ (by omega) (by omega)
theorem names_je (h0 : E.kind = 0) (c : List UInt8) (hc : isT c tl = false) (pre : List Tok) : JeP E tl pre (namesP c (pre ++ [E])) (namesP c (pre ++ tl)) := by
  unfold namesP
  exact je_bind (names_fst h0 c pre).je fun s u => more_je h0 c hc _ _ u _ (by omega) (by omega)
theorem in_jn (h0 : E.kind = 0) (pre : List Tok) : JnP E tl pre (inP (pre ++ [E])) (inP (pre ++ tl)) := by
  unfold inP
  refine jn_bind (name_jc h0 pre).jn fun s u => jn_bind (want_jc h0 _ u).jn fun _ u => jn_bind (typ_jn h0 _ u) fun t u => jn_if (tst_T h0 _) (fun a w e _ => ?_) (.ok _ _)
  subst e
  exact JnP.weak (List.suffix_cons _ _) (jn_map (value_jc h0 _ _ w).jn)
theorem fd_jn (h0 : E.kind = 0) (pre : List Tok) : JnP E tl pre (fdP (pre ++ [E])) (fdP (pre ++ tl)) := by
  unfold fdP
  refine jn_bind (name_jc h0 pre).jn fun s u => jn_bind (jn_if (tst_T h0 _) (fun a w e _ => ?_) (.ok _ _)) fun gs u => jn_bind (want_jc h0 _ u).jn fun _ u => jn_map (typ_jn h0 _ u)
  subst e
  exact JnP.weak (List.suffix_cons _ _) (many_jc h0 (in_jn h0) inP_takes _ _ _ w _ (by simp <;> omega) (by simp <;> omega)).jn
theorem plain_jc (h0 : E.kind = 0) (pre : List Tok) : JcP E tl pre (plainP (pre ++ [E])) (plainP (pre ++ tl)) := by
  unfold plainP
  exact jc_if (τ := fun r => isT wTrue r || isT wFalse r || isT wNull r) ⟨by simp [isT, isS, isW, h0], fun _ _ _ => rfl⟩ (fun _ _ _ _ => trivial) (name_jc h0 pre)
theorem obj_jc (h0 : E.kind = 0) (k : Nat) (s : List UInt8) (l : List (List UInt8)) (pre : List Tok) : JcP E tl pre (objP k s l (pre ++ [E])) (objP k s l (pre ++ tl)) := by
  unfold objP
  exact jc_bind (want_jc h0 _ pre).jn fun _ u => jc_map (many_jc h0 (fd_jn h0) fdP_takes _ _ _ u _ (by omega) (by omega))
theorem body_je (h0 : E.kind = 0) (hc : isT [124] tl = false) (k : Nat) (s : List UInt8) (pre : List Tok) : JeP E tl pre (bodyP k s (pre ++ [E])) (bodyP k s (pre ++ tl)) := by
  unfold bodyP
  by_cases h3 : k = 3
  · rw [if_pos h3, if_pos h3]
    unfold unionP
    exact je_bind (want_jc h0 _ pre).je fun _ u => je_bind (names_je h0 _ hc u) fun l u => .ok _ _
  rw [if_neg h3, if_neg h3]
  by_cases h4 : k = 4
  · rw [if_pos h4, if_pos h4]
    unfold enumP
    exact (jc_bind (want_jc h0 _ pre).jn fun _ u => jc_map (many_jc h0 (fun u => (plain_jc h0 u).jn) plainP_takes _ _ _ u _ (by omega) (by omega))).je
  rw [if_neg h4, if_neg h4]
  by_cases h5 : k = 5
  · rw [if_pos h5, if_pos h5]
    unfold inputP
    exact (jc_bind (want_jc h0 _ pre).jn fun _ u => jc_map (many_jc h0 (in_jn h0) inP_takes _ _ _ u _ (by omega) (by omega))).je
  rw [if_neg h5, if_neg h5]
  refine JcP.je (jc_if (τ := fun r => decide (k = 1) && isT wImplements r) ⟨by rw [(tst_T h0 _).no, Bool.and_false], fun _ _ _ => rfl⟩ (fun a u e _ => ?_) (obj_jc h0 _ _ _ pre))
  subst e
  exact JcP.weak (List.suffix_cons _ _) (jc_bind (names_jn h0 _ u) fun l u => obj_jc h0 _ _ _ u)
theorem td_je (h0 : E.kind = 0) (hc : isT [124] tl = false) (pre : List Tok) : JeP E tl pre (tdP (pre ++ [E])) (tdP (pre ++ tl)) := by
  cases pre with
  | nil =>
    have : kindN [E] = 0 := by unfold kindN; simp [isT, isS, isW, h0]
    unfold tdP
    rw [List.nil_append, if_pos this]; trivial
  | cons a u =>
    have hk : kindN (a :: u ++ tl) = kindN (a :: u ++ [E]) := rfl
    unfold tdP
    rw [hk]
    split
    · trivial
    · exact JeP.weak (List.suffix_cons _ _) (je_bind (name_jc h0 u).je fun s u => body_je h0 hc _ s u)
theorem tys_join (h0 : E.kind = 0) (hk : isK 0 tl = false) (hc : isT [124] tl = false) : ∀ (n : Nat) (acc : List TD) (pre : List Tok) (m : Nat), (pre ++ [E]).length < n → (pre ++ tl).length < m → (∀ t ∈ pre, t.kind ≠ 0) → ∀ d r1, tysF n acc (pre ++ [E]) = .ok d r1 → tysF m acc (pre ++ tl) = tysF m d tl
  | 0, _, _, _, h, _, _, _, _, _ => absurd h (by omega)
  | _ + 1, _, _, 0, _, h, _, _, _, _ => absurd h (by omega)
  | n + 1, acc, pre, m + 1, h1, h2, hu, d, r1, h => by
    rw [tysF] at h
    obtain ⟨d1, r2, k1, h⟩ := bind_inv h
    have hl := tdP_takes _ _ _ k1
    have hq := td_je h0 hc pre
    rw [k1] at hq
    obtain ⟨u, q1, rfl, q4⟩ := hq
    have hl2 := tdP_takes _ _ _ q4
    rw [tysF, q4]
    show (if isK 0 (u ++ tl) then PR.ok (acc ++ [d1]) (u ++ tl) else tysF m (acc ++ [d1]) (u ++ tl)) = _
    have htl : tl.length < m := by rw [List.length_append, List.length_append] at hl2; rw [List.length_append] at h2; omega
    cases u with
    | nil =>
      rw [List.nil_append, if_pos (by simp [isK, h0])] at h
      injection h with e1 e2; subst e1
      rw [List.nil_append, if_neg (by rw [hk]; decide)]
      exact tysF_fuel _ _ _ _ htl (by omega)
    | cons a u =>
      have ha : a.kind ≠ 0 := hu a (by obtain ⟨c, hc⟩ := q1; rw [← hc]; simp)
      rw [if_neg (by simp [isK, ha])] at h ⊢
      rw [tys_join h0 hk hc n (acc ++ [d1]) (a :: u) m (by omega) (by omega) (fun t ht => hu t (q1.subset ht)) d r1 h]
      exact tysF_fuel _ _ _ _ htl (by omega)
theorem tys_app (d : List TD) : ∀ (n : Nat) (m : List TD) (r : List Tok), tysF n (d ++ m) r = (tysF n m r).map (d ++ ·)
  | 0, m, r => rfl
  | n + 1, m, r => by
    rw [tysF, tysF]
    cases tdP r with
    | bad a e => rfl
    | ok t r1 =>
      show (if isK 0 r1 then PR.ok (d ++ m ++ [t]) r1 else tysF n (d ++ m ++ [t]) r1) = (if isK 0 r1 then PR.ok (m ++ [t]) r1 else tysF n (m ++ [t]) r1).map (d ++ ·)
      rw [List.append_assoc, tys_app d n, map_if]; rfl
theorem kind_bar {r : List Tok} (h : kindN r ≠ 0) : isT [124] r = false := by
  cases r with
  | nil => rfl
  | cons t r =>
    cases hb : isT [124] (t :: r) with
    | false => rfl
    | true =>
      exfalso
      have ht : t.text = [124] := by
        simp [isT, isS, isW] at hb
        rcases hb with ⟨_, hb⟩ | ⟨_, hb⟩ <;> exact hb
      apply h
      simp [kindN, isT, isS, isW, ht, wType, wInterface, wUnion, wEnum, wInput]
theorem tysP_join {a b : List UInt8} {l m : List TD} (ha : tysP a = .ok l) (hb : tysP b = .ok m) (hl : a.length + b.length ≤ 1999) : tysP (a ++ 10 :: b) = .ok (l ++ m) := by
  unfold tysP at ha hb
  cases hta : toks a with
  | bad x e => rw [hta] at ha; cases ha
  | ok ts =>
    cases htb : toks b with
    | bad x e => rw [htb] at hb; cases hb
    | ok tb =>
      rw [hta] at ha; rw [htb] at hb
      have ha : (match tysF (ts.length + 1) [] ts with | .ok d _ => TR1.ok d | .bad a e => .bad a e) = .ok l := ha
      have hb : (match tysF (tb.length + 1) [] tb with | .ok d _ => TR1.ok d | .bad a e => .bad a e) = .ok m := hb
      have hj := toks_join hta hl
      obtain ⟨pre, e0, hk⟩ := toks_last hta
      cases hd : tysF (ts.length + 1) [] ts with
      | bad x e => rw [hd] at ha; cases ha
      | ok d' r1 =>
        rw [hd] at ha
        injection ha with ha; subst ha
        cases hd2 : tysF (tb.length + 1) [] tb with
        | bad x e => rw [hd2] at hb; cases hb
        | ok m' r2 =>
          rw [hd2] at hb
          injection hb with hb; subst hb
          have hkn : kindN tb ≠ 0 := by
            intro h
            have h' := hd2
            rw [tysF] at h'
            unfold tdP at h'
            rw [if_pos h] at h'
            cases h'
          have hdl : ts.dropLast = pre := by rw [e0, List.dropLast_concat]
          have hsim := tys_sim (tb.length + 1) [] (fun a' b' => b' = a' + (a.length + 1)) tb _ (relT_up _ tb) (toks_end htb).1
          have hkn2 : kindN (tb.map (Tok.upp (a.length + 1))) ≠ 0 := by rw [kind_sim (relT_up (a.length + 1) tb) (toks_end htb).1]; exact hkn
          rw [e0] at hd
          have h3 := tys_join (E := ⟨0, [], 0, a.length⟩) (tl := tb.map (Tok.upp (a.length + 1))) rfl (kind_k0 hkn2) (kind_bar hkn2) _ [] pre ((pre ++ tb.map (Tok.upp (a.length + 1))).length + 1) (by omega) (by omega) hk d' r1 hd
          unfold tysP
          rw [hj, htb]
          show (match tysF ((ts.dropLast ++ tb.map (Tok.upp (a.length + 1))).length + 1) [] (ts.dropLast ++ tb.map (Tok.upp (a.length + 1))) with | .ok d _ => TR1.ok d | .bad a e => .bad a e) = .ok (d' ++ m')
          rw [hdl, h3, tysF_fuel _ (tb.length + 1) _ _ (by rw [List.length_append]; omega) (by rw [List.length_map]; omega)]
          have h4 := tys_app d' (tb.length + 1) [] (tb.map (Tok.upp (a.length + 1)))
          rw [List.append_nil] at h4
          rw [h4]
          rw [hd2] at hsim
          cases h5 : tysF (tb.length + 1) [] (tb.map (Tok.upp (a.length + 1))) with
          | ok m2 r3 => rw [h5] at hsim; obtain ⟨rfl, -⟩ := hsim; rfl
          | bad x e => rw [h5] at hsim; exact hsim.elim
end Go.Proofs.YtgephneppgcnlaaDoor
namespace Go.Proofs.YtgephneppgcnlaaDoor
open Go Go.RowKit
set_option linter.unusedVariables false
set_option linter.unusedSimpArgs false

theorem nz_4 {α : Type} (a : Nat) : NZ (.bad a 4 : PR α) := by show (4 : Nat) ≠ 0; decide
theorem nz_in (r : List Tok) : NZ (inP r) := nz_bind (nz_name _) fun _ _ => nz_bind (nz_want _ _) fun _ _ => nz_bind (nz_typ _ _) fun _ _ => nz_if (nz_bind (nz_value _ _ _) fun _ _ => trivial) trivial
theorem nz_fd (r : List Tok) : NZ (fdP r) := nz_bind (nz_name _) fun _ _ => nz_bind (nz_if (nz_many nz_in _ _ _ _) trivial) fun _ _ => nz_bind (nz_want _ _) fun _ _ => nz_bind (nz_typ _ _) fun _ _ => trivial
theorem nz_plain (r : List Tok) : NZ (plainP r) := nz_if (nz_4 _) (nz_name _)
theorem nz_more (c : List UInt8) : ∀ (n : Nat) (acc : List (List UInt8)) (r : List Tok), NZ (moreP c n acc r)
  | 0, _, _ => nz_4 _
  | n + 1, acc, r => by rw [moreP]; exact nz_if (nz_bind (nz_name _) fun _ _ => nz_more c n _ _) trivial
theorem nz_names (c : List UInt8) (r : List Tok) : NZ (namesP c r) := nz_bind (nz_name _) fun _ _ => nz_more c _ _ _
theorem nz_obj (k : Nat) (s : List UInt8) (l : List (List UInt8)) (r : List Tok) : NZ (objP k s l r) := nz_bind (nz_want _ _) fun _ _ => nz_bind (nz_many nz_fd _ _ _ _) fun _ _ => trivial
theorem nz_body (k : Nat) (s : List UInt8) (r : List Tok) : NZ (bodyP k s r) := by
  unfold bodyP
  exact nz_if (nz_bind (nz_want _ _) fun _ _ => nz_bind (nz_names _ _) fun _ _ => trivial) (nz_if (nz_bind (nz_want _ _) fun _ _ => nz_bind (nz_many nz_plain _ _ _ _) fun _ _ => trivial) (nz_if (nz_bind (nz_want _ _) fun _ _ => nz_bind (nz_many nz_in _ _ _ _) fun _ _ => trivial) (nz_if (nz_bind (nz_names _ _) fun _ _ => nz_obj _ _ _ _) (nz_obj _ _ _ _))))
theorem nz_td (r : List Tok) : NZ (tdP r) := nz_if (nz_4 _) (nz_bind (nz_name _) fun _ _ => nz_body _ _ _)
theorem nz_tys : ∀ (n : Nat) (d : List TD) (r : List Tok), NZ (tysF n d r)
  | 0, _, _ => nz_4 _
  | n + 1, d, r => by rw [tysF]; exact nz_bind (nz_td r) fun _ _ => nz_if trivial (nz_tys n _ _)
theorem tysP_bad {s : List UInt8} {a e : Nat} (h : tysP s = .bad a e) : e ≠ 0 := by
  unfold tysP at h
  cases ht : toks s with
  | bad x c =>
    rw [ht] at h
    have h : TR1.bad x c = .bad a e := h
    injection h with _ h; subst h; exact toks_bad ht
  | ok ts =>
    rw [ht] at h
    have h : (match tysF (ts.length + 1) [] ts with | .ok d _ => TR1.ok d | .bad a e => .bad a e) = .bad a e := h
    have hn := nz_tys (ts.length + 1) [] ts
    cases hd : tysF (ts.length + 1) [] ts with
    | ok d r => rw [hd] at h; cases h
    | bad x c => rw [hd] at h hn; injection h with _ h; subst h; exact hn
theorem tysP_few {s : List UInt8} {d : List TD} (h : tysP s = .ok d) : d.length ≤ 2001 := by
  unfold tysP at h
  cases ht : toks s with
  | bad a e => rw [ht] at h; cases h
  | ok ts =>
    rw [ht] at h
    have h : (match tysF (ts.length + 1) [] ts with | .ok d _ => TR1.ok d | .bad a e => .bad a e) = .ok d := h
    cases hd : tysF (ts.length + 1) [] ts with
    | bad a e => rw [hd] at h; cases h
    | ok d1 r1 =>
      rw [hd] at h; injection h with h; subst h
      have h1 := tysF_few _ _ _ _ _ hd
      have h2 := (toks_end ht).2
      simp at h1; omega
theorem stypes_b (s : ByteArray) (w : World) (hs : s.size ≤ maxLen) : Calls Tryd.prog 20 #[.string s] w (TysRes w (tysP s.data.toList)) := stypes_any s.data.toList w hs
def TysIs (w w' : World) (a1 : Option Addr) (n1 c1 x c : Nat) : TR1 → Prop
  | .ok d => x = 0 ∧ c = 0 ∧ n1 = d.length ∧ CellAt w' (fun q => w.heap.size ≤ q) (.row 4 (d.map tdC)) (.slice a1 n1 c1)
  | .bad y f => x = y ∧ c = f
/-- What sdl.Types hands back, whatever it comes to. -/
theorem TysRes.any {w w' : World} {P : TR1} {e : Ending} (h : TysRes w P e w') : ∃ (a1 : Option Addr) (n1 c1 : Nat) (x c : Nat), e = .returned (.tuple #[.slice a1 n1 c1, .int .i64 (x : Int), .int .i64 (c : Int)]) ∧ Only (fun _ => False) w w' ∧ TysIs w w' a1 n1 c1 x c P := by
  cases P with
  | ok d =>
    obtain ⟨a1, c1, rfl, h1, h2⟩ := h
    exact ⟨a1, _, c1, 0, 0, rfl, h2, rfl, rfl, rfl, h1⟩
  | bad y f =>
    obtain ⟨rfl, h2⟩ := h
    exact ⟨none, 0, 0, y, f, rfl, h2, rfl, rfl⟩
end Go.Proofs.YtgephneppgcnlaaDoor
namespace Go.Proofs.YtgephneppgcnlaaDoor
set_option linter.unusedVariables false
set_option linter.unusedSimpArgs false

def rl (l : List It) : Nat := (ren l).length
theorem rl_nil : rl [] = 0 := rfl
theorem rl_app (a b : List It) : rl (a ++ b) = rl a + rl b := by unfold rl; rw [ren_app, List.length_append]
theorem rl_cons (i : It) (b : List It) : rl (i :: b) = i.src.length + rl b := by unfold rl; rw [ren_cons, List.length_append]
theorem rl_nm (s : List UInt8) : (nmI s).src.length = s.length := rfl
theorem rl_sg (c : UInt8) : (sgI c).src.length = 1 := rfl
theorem rl_sp (c : UInt8) : (It.sp c).src.length = 1 := rfl
def sumB {α : Type} (μ : α → Nat) : List α → Nat
  | [] => 0
  | x :: l => μ x + sumB μ l
theorem sumB_app {α : Type} (μ : α → Nat) : ∀ (l m : List α), sumB μ (l ++ m) = sumB μ l + sumB μ m
  | [], m => by simp [sumB]
  | x :: l, m => by show μ x + sumB μ (l ++ m) = μ x + sumB μ l + sumB μ m; rw [sumB_app μ l m]; omega
theorem sumB_le {α : Type} {μ ν : α → Nat} (h : ∀ x, μ x ≤ ν x) : ∀ l : List α, sumB μ l ≤ sumB ν l
  | [] => Nat.le_refl _
  | x :: l => Nat.add_le_add (h x) (sumB_le h l)
theorem sumB_map {α β : Type} (μ : β → Nat) (f : α → β) : ∀ l : List α, sumB μ (l.map f) = sumB (fun x => μ (f x)) l
  | [] => rfl
  | x :: l => by show μ (f x) + sumB μ (l.map f) = _; rw [sumB_map μ f l]; rfl
theorem flat_sum {α : Type} (f : α → List It) : ∀ l : List α, rl (l.flatMap f) = sumB (fun x => rl (f x)) l
  | [] => rfl
  | x :: l => by rw [List.flatMap_cons, rl_app, flat_sum f l]; rfl
theorem sep_sum (g : List It) (l : List (List It)) : rl (sepI g l) ≤ sumB (fun b => rl b + rl g) l := by
  cases l with
  | nil => exact Nat.le_refl _
  | cons a l =>
    show rl (a ++ l.flatMap fun b => g ++ b) ≤ (rl a + rl g) + sumB _ l
    rw [rl_app, flat_sum]
    have : sumB (fun x => rl (g ++ x)) l = sumB (fun b => rl b + rl g) l := by
      congr 1; funext x; rw [rl_app]; omega
    omega
theorem isT_tl {s : List UInt8} {r : List Tok} (h : isT s r = true) : r.tail.length + 1 = r.length := by
  cases r with
  | nil => simp [isT, isS, isW] at h
  | cons t r => rfl
theorem sz_name {r : List Tok} {x : List UInt8} {r1 : List Tok} (h : GT r) (e : nameP r = .ok x r1) : x.length ≤ 32 ∧ r1.length + 1 = r.length ∧ GT r1 := by
  obtain ⟨h1, h2⟩ := gd_name r x r1 h e
  refine ⟨h1.len, ?_, h2⟩
  cases r with
  | nil => cases e
  | cons t r =>
    have e : (if t.kind = 1 then PR.ok t.text r else .bad t.at_ 4) = .ok x r1 := e
    split at e
    · injection e with e1 e2; subst e2; rfl
    · cases e
theorem sz_want {s : List UInt8} {r : List Tok} {u : Unit} {r1 : List Tok} (h : GT r) (e : wantP s r = .ok u r1) : r1.length + 1 = r.length ∧ GT r1 := by
  refine ⟨?_, (gd_want s r u r1 h e).2⟩
  unfold wantP at e
  split at e
  · rename_i hc
    injection e with e1 e2; subst e2; exact isT_tl hc
  · cases e
def Sz {α : Type} (f : List Tok → PR α) (μ : α → Nat) : Prop := ∀ r x r1, GT r → f r = .ok x r1 → μ x + 500 * r1.length ≤ 500 * r.length ∧ GT r1
theorem sz_any {α : Type} {f : List Tok → PR α} {μ : α → Nat} (hf : Sz f μ) (c : List UInt8) : ∀ (n : Nat) (acc : List α) r l r1, GT r → anyP f c n acc r = .ok l r1 → sumB μ l + 500 * r1.length + 500 ≤ sumB μ acc + 500 * r.length ∧ GT r1
  | 0, acc, r, l, r1, h, e => by cases e
  | n + 1, acc, r, l, r1, h, e => by
    rw [anyP] at e
    split at e
    · rename_i hc
      have := isT_tl hc
      injection e with e1 e2; subst e1; subst e2; exact ⟨by omega, h.tail⟩
    · obtain ⟨y, r2, h1, h2⟩ := bind_inv e
      obtain ⟨k1, k2⟩ := hf r y r2 h h1
      obtain ⟨k3, k4⟩ := sz_any hf c n _ r2 l r1 k2 h2
      rw [sumB_app] at k3
      have : sumB μ [y] = μ y := by simp [sumB]
      exact ⟨by omega, k4⟩
theorem sz_many {α : Type} {f : List Tok → PR α} {μ : α → Nat} (hf : Sz f μ) (c : List UInt8) : ∀ (n : Nat) (acc : List α) r l r1, GT r → manyP f c n acc r = .ok l r1 → sumB μ l + 500 * r1.length + 500 ≤ sumB μ acc + 500 * r.length ∧ GT r1
  | 0, acc, r, l, r1, h, e => by cases e
  | n + 1, acc, r, l, r1, h, e => by
    rw [manyP] at e
    obtain ⟨y, r2, h1, h2⟩ := bind_inv e
    obtain ⟨k1, k2⟩ := hf r y r2 h h1
    have hy : sumB μ [y] = μ y := by simp [sumB]
    split at h2
    · rename_i hc
      have := isT_tl hc
      injection h2 with e1 e2; subst e1; subst e2
      rw [sumB_app]
      exact ⟨by omega, k2.tail⟩
    · obtain ⟨k3, k4⟩ := sz_many hf c n _ r2 l r1 k2 h2
      rw [sumB_app] at k3
      exact ⟨by omega, k4⟩
theorem num_rl {n : Int} (h : NumOk n) : (numS n).length ≤ 20 := by
  have := digS_len 17 n.natAbs (by unfold NumOk at h; omega)
  unfold numS sgn
  split <;> simp <;> omega
theorem esc_rl : ∀ l : List UInt8, (escS l).length ≤ 2 * l.length
  | [] => by simp [escS]
  | c :: l => by
    have := esc_rl l
    have h1 : (esc1 c).length ≤ 2 := by unfold esc1; repeat' split
                                        all_goals simp
    rw [escS_cons, List.length_append, List.length_cons]; omega
theorem zip_map (ps : List (List UInt8 × VT)) : List.zipWith pairI (ps.map (·.1)) ((ps.map (·.2)).map valI) = ps.map fun p => pairI p.1 (valI p.2) := by
  induction ps with
  | nil => rfl
  | cons p ps ih => simp only [List.map_cons, List.zipWith_cons_cons, ih]
theorem rl_gap : rl gapI = 2 := rfl
theorem sz_val (fx : Bool) : ∀ d, Sz (valueP fx d) (fun v => rl (valI v) + 8)
  | 0 => fun r x r1 h e => by cases e
  | d + 1 => fun r x r1 h e => by
    have ih := sz_val fx d
    have hgd := (gd_val fx (d + 1) r x r1 h e).2
    refine ⟨?_, hgd⟩
    cases r with
    | nil => cases e
    | cons t r =>
      rw [valueP, vB_cons] at e
      have ht := h t (by simp)
      have hr : GT r := fun u hu => h u (by simp [hu])
      simp only [List.length_cons]
      split at e
      · rename_i hk
        injection e with e1 e2; subst e1; subst e2
        have := num_rl (ht.2.1 hk)
        rw [valI_eq, if_pos rfl, rl_cons, rl_nil]
        show (numS t.n).length + 0 + 8 + _ ≤ _; (try dsimp only at *); omega
      split at e
      · rename_i hk
        injection e with e1 e2; subst e1; subst e2
        have h1 := esc_rl t.text
        have h2 := ht.2.2 hk
        rw [valI_eq, if_neg (by decide), if_pos (by decide), rl_cons, rl_nil]
        show (34 :: (escS t.text ++ [34])).length + 0 + 8 + _ ≤ _
        simp only [List.length_cons, List.length_append, List.length_nil]; (try dsimp only at *); omega
      split at e
      · injection e with e1 e2; subst e1; subst e2
        show 4 + 8 + _ ≤ _; (try dsimp only at *); omega
      split at e
      · injection e with e1 e2; subst e1; subst e2
        show 5 + 8 + _ ≤ _; (try dsimp only at *); omega
      split at e
      · injection e with e1 e2; subst e1; subst e2
        show 4 + 8 + _ ≤ _; (try dsimp only at *); omega
      split at e
      · rename_i hk
        injection e with e1 e2; subst e1; subst e2
        have := (ht.1 hk).len
        rw [valI_eq, if_neg (by decide), if_neg (by decide), if_neg (by decide), if_pos rfl, rl_cons, rl_nil, rl_nm]; (try dsimp only at *); omega
      split at e
      · obtain ⟨s, r2, k1, k2⟩ := bind_inv e
        obtain ⟨g1, g2, g3⟩ := sz_name hr k1
        injection k2 with e1 e2; subst e1; subst e2
        rw [valI_eq, if_neg (by decide), if_neg (by decide), if_neg (by decide), if_neg (by decide), if_pos rfl, rl_cons, rl_cons, rl_nil, rl_nm, rl_sg]; (try dsimp only at *); omega
      split at e
      · obtain ⟨vs, r2, k1, k2⟩ := bind_inv e
        obtain ⟨g1, g2⟩ := sz_any ih _ _ [] r vs r2 hr k1
        injection k2 with e1 e2; subst e1; subst e2
        have h1 := sep_sum gapI (vs.map valI)
        rw [sumB_map, rl_gap] at h1
        have h2 := sumB_le (μ := fun v => rl (valI v) + 2) (ν := fun v => rl (valI v) + 8) (fun v => by omega) vs
        have h3 : sumB (fun v => rl (valI v) + 8) [] = 0 := rfl
        rw [valI_eq, if_neg (by decide), if_neg (by decide), if_neg (by decide), if_neg (by decide), if_neg (by decide), if_pos rfl, rl_cons, rl_app, rl_cons, rl_nil, rl_sg, rl_sg]; (try dsimp only at *); omega
      split at e
      · obtain ⟨ps, r2, k1, k2⟩ := bind_inv e
        have hpair : Sz (pairP (valueP fx d)) (fun p => rl (pairI p.1 (valI p.2)) + 8) := fun r x r1 h e => by
          obtain ⟨s, q1, j1, e⟩ := bind_inv e
          obtain ⟨u, q2, j2, e⟩ := bind_inv e
          obtain ⟨v, q3, j3, e⟩ := bind_inv e
          injection e with e1 e2; subst e1; subst e2
          obtain ⟨g1, g2, g3⟩ := sz_name h j1
          obtain ⟨g4, g5⟩ := sz_want g3 j2
          obtain ⟨g6, g7⟩ := ih _ _ _ g5 j3
          refine ⟨?_, g7⟩
          show rl (nmI s :: sgI 58 :: .sp 32 :: valI v) + 8 + _ ≤ _
          rw [rl_cons, rl_cons, rl_cons, rl_nm, rl_sg, rl_sp]; (try dsimp only at *); omega
        obtain ⟨g1, g2⟩ := sz_any hpair _ _ [] r ps r2 hr k1
        injection k2 with e1 e2; subst e1; subst e2
        have h1 := sep_sum gapI (ps.map fun p => pairI p.1 (valI p.2))
        rw [sumB_map, rl_gap] at h1
        have h2 := sumB_le (μ := fun p : List UInt8 × VT => rl (pairI p.1 (valI p.2)) + 2) (ν := fun p => rl (pairI p.1 (valI p.2)) + 8) (fun v => by omega) ps
        have h3 : sumB (fun p : List UInt8 × VT => rl (pairI p.1 (valI p.2)) + 8) [] = 0 := rfl
        rw [valI_eq, if_neg (by decide), if_neg (by decide), if_neg (by decide), if_neg (by decide), if_neg (by decide), if_neg (by decide), if_pos rfl, zip_map, rl_cons, rl_app, rl_cons, rl_nil, rl_sg, rl_sg]; (try dsimp only at *); omega
      · cases e
theorem rl_bang (b : Bool) : rl (bangI b) ≤ 1 := by cases b <;> decide
theorem sz_bang (mk : Bool → TR) {r : List Tok} {x : TR} {r1 : List Tok} (h : GT r) (e : bangP mk r = .ok x r1) : ∃ b, x = mk b ∧ r1.length ≤ r.length ∧ GT r1 := by
  unfold bangP at e
  split at e
  · injection e with e1 e2; subst e1; subst e2; exact ⟨true, rfl, by rw [List.length_tail]; omega, h.tail⟩
  · injection e with e1 e2; subst e1; subst e2; exact ⟨false, rfl, Nat.le_refl _, h⟩
theorem sz_typ : ∀ d, Sz (typP d) (fun t => rl (typI t) + 8)
  | 0 => fun r x r1 h e => by cases e
  | d + 1 => fun r x r1 h e => by
    rw [typP] at e
    split at e
    · rename_i hc
      have hl := isT_tl hc
      obtain ⟨t, q1, j1, e⟩ := bind_inv e
      obtain ⟨u, q2, j2, e⟩ := bind_inv e
      obtain ⟨g1, g2⟩ := sz_typ d _ _ _ h.tail j1
      obtain ⟨g3, g4⟩ := sz_want g2 j2
      obtain ⟨b, rfl, g5, g6⟩ := sz_bang _ g4 e
      refine ⟨?_, g6⟩
      have hb := rl_bang b
      show rl (typI (.ls t b)) + 8 + _ ≤ _
      rw [typI, rl_cons, rl_app, rl_cons, rl_sg, rl_sg]; (try dsimp only at *); omega
    · obtain ⟨s, q1, j1, e⟩ := bind_inv e
      obtain ⟨g1, g2, g3⟩ := sz_name h j1
      obtain ⟨b, rfl, g5, g6⟩ := sz_bang _ g3 e
      refine ⟨?_, g6⟩
      have hb := rl_bang b
      show rl (typI (.nm s b)) + 8 + _ ≤ _
      rw [typI, rl_cons, rl_nm]; (try dsimp only at *); omega
theorem sz_in : Sz inP (fun i => rl (inI i) + 8) := fun r x r1 h e => by
  unfold inP at e
  obtain ⟨s, q1, j1, e⟩ := bind_inv e
  obtain ⟨u, q2, j2, e⟩ := bind_inv e
  obtain ⟨t, q3, j3, e⟩ := bind_inv e
  obtain ⟨g1, g2, g3⟩ := sz_name h j1
  obtain ⟨g4, g5⟩ := sz_want g3 j2
  obtain ⟨g6, g7⟩ := sz_typ 24 _ _ _ g5 j3
  split at e
  · rename_i hc
    have hl := isT_tl hc
    obtain ⟨v, q4, j4, e⟩ := bind_inv e
    obtain ⟨g8, g9⟩ := sz_val true 24 _ _ _ g7.tail j4
    injection e with e1 e2; subst e1; subst e2
    refine ⟨?_, g9⟩
    show rl (nmI s :: sgI 58 :: .sp 32 :: (typI t ++ .sp 32 :: sgI 61 :: .sp 32 :: valI v)) + 8 + _ ≤ _
    rw [rl_cons, rl_cons, rl_cons, rl_app, rl_cons, rl_cons, rl_cons, rl_nm, rl_sg, rl_sg, rl_sp]; (try dsimp only at *); omega
  · injection e with e1 e2; subst e1; subst e2
    refine ⟨?_, g7⟩
    show rl (nmI s :: sgI 58 :: .sp 32 :: (typI t ++ [])) + 8 + _ ≤ _
    rw [rl_cons, rl_cons, rl_cons, List.append_nil, rl_nm, rl_sg, rl_sp]; (try dsimp only at *); omega
theorem rl_par {α : Type} (f : α → List It) (l : List α) : rl (parI (l.map f)) ≤ 2 + sumB (fun x => rl (f x) + 8) l := by
  unfold parI
  split
  · rw [rl_nil]; (try dsimp only at *); omega
  · have h1 := sep_sum gapI (l.map f)
    rw [sumB_map, rl_gap] at h1
    have h2 := sumB_le (μ := fun x => rl (f x) + 2) (ν := fun x => rl (f x) + 8) (fun v => by omega) l
    rw [rl_cons, rl_app, rl_cons, rl_nil, rl_sg, rl_sg]; (try dsimp only at *); omega
theorem sz_fd : Sz fdP (fun f => rl (fdI f) + 8) := fun r x r1 h e => by
  unfold fdP at e
  obtain ⟨s, q1, j1, e⟩ := bind_inv e
  obtain ⟨gs, q2, j2, e⟩ := bind_inv e
  obtain ⟨u, q3, j3, e⟩ := bind_inv e
  obtain ⟨t, q4, j4, e⟩ := bind_inv e
  obtain ⟨g1, g2, g3⟩ := sz_name h j1
  have hg : sumB (fun i => rl (inI i) + 8) gs + 500 * q2.length ≤ 500 * q1.length ∧ GT q2 := by
    split at j2
    · rename_i hc
      have hl := isT_tl hc
      obtain ⟨k1, k2⟩ := sz_many sz_in _ _ [] _ _ _ g3.tail j2
      have h3 : sumB (fun i => rl (inI i) + 8) [] = 0 := rfl
      exact ⟨by (try dsimp only at *); omega, k2⟩
    · injection j2 with e1 e2; subst e1; subst e2
      exact ⟨by show 0 + _ ≤ _; omega, g3⟩
  obtain ⟨hg1, hg2⟩ := hg
  obtain ⟨g4, g5⟩ := sz_want hg2 j3
  obtain ⟨g6, g7⟩ := sz_typ 24 _ _ _ g5 j4
  injection e with e1 e2; subst e1; subst e2
  refine ⟨?_, g7⟩
  have hp := rl_par inI gs
  show rl ((nmI s :: parI (gs.map inI)) ++ sgI 58 :: .sp 32 :: (typI t ++ [])) + 8 + _ ≤ _
  rw [rl_app, rl_cons, rl_cons, rl_cons, List.append_nil, rl_nm, rl_sg, rl_sp]; (try dsimp only at *); omega
theorem sz_plain : Sz plainP (fun s => s.length + 8) := fun r x r1 h e => by
  unfold plainP at e
  split at e
  · cases e
  · obtain ⟨g1, g2, g3⟩ := sz_name h e
    exact ⟨by show x.length + 8 + _ ≤ _; omega, g3⟩
theorem sz_more (c : List UInt8) : ∀ (n : Nat) (acc : List (List UInt8)) r l r1, GT r → moreP c n acc r = .ok l r1 → sumB (fun s => s.length + 8) l + 500 * r1.length ≤ sumB (fun s => s.length + 8) acc + 500 * r.length ∧ GT r1
  | 0, acc, r, l, r1, h, e => by cases e
  | n + 1, acc, r, l, r1, h, e => by
    rw [moreP] at e
    split at e
    · rename_i hc
      have hl := isT_tl hc
      obtain ⟨y, r2, h1, h2⟩ := bind_inv e
      obtain ⟨g1, g2, g3⟩ := sz_name h.tail h1
      obtain ⟨k3, k4⟩ := sz_more c n _ r2 l r1 g3 h2
      rw [sumB_app] at k3
      have : sumB (fun s : List UInt8 => s.length + 8) [y] = y.length + 8 := by simp [sumB]
      exact ⟨by (try dsimp only at *); omega, k4⟩
    · injection e with e1 e2; subst e1; subst e2; exact ⟨Nat.le_refl _, h⟩
theorem sz_names (c : List UInt8) : Sz (namesP c) (fun l => sumB (fun s => s.length + 8) l) := fun r x r1 h e => by
  unfold namesP at e
  obtain ⟨y, r2, h1, h2⟩ := bind_inv e
  have hr : GT (if isT c r then r.tail else r) ∧ (if isT c r then r.tail else r).length ≤ r.length := by
    split
    · exact ⟨h.tail, by rw [List.length_tail]; omega⟩
    · exact ⟨h, Nat.le_refl _⟩
  obtain ⟨g1, g2, g3⟩ := sz_name hr.1 h1
  obtain ⟨k3, k4⟩ := sz_more c _ [y] r2 x r1 g3 h2
  have : sumB (fun s : List UInt8 => s.length + 8) [y] = y.length + 8 := by simp [sumB]
  have := hr.2
  exact ⟨by show sumB _ x + _ ≤ _; omega, k4⟩
theorem rl_names (g : List It) (hg : rl g ≤ 3) (l : List (List UInt8)) : rl (namI g l) ≤ sumB (fun s => s.length + 8) l := by
  unfold namI
  have h1 := sep_sum g (l.map fun s => [nmI s])
  rw [sumB_map] at h1
  have h2 := sumB_le (μ := fun s : List UInt8 => rl [nmI s] + rl g) (ν := fun s => s.length + 8) (fun s => by show rl [nmI s] + rl g ≤ _; rw [rl_cons, rl_nil, rl_nm]; omega) l
  (try dsimp only at *); omega
theorem rl_br (fs : List FD) : rl (brI (fs.flatMap fun f => .sp 32 :: fdI f)) ≤ 4 + sumB (fun f => rl (fdI f) + 8) fs := by
  unfold brI
  have h1 := flat_sum (fun f => It.sp 32 :: fdI f) fs
  have h2 := sumB_le (μ := fun f => rl (It.sp 32 :: fdI f)) (ν := fun f => rl (fdI f) + 8) (fun f => by show rl (It.sp 32 :: fdI f) ≤ _; rw [rl_cons, rl_sp]; omega) fs
  rw [rl_cons, rl_cons, rl_app, rl_cons, rl_cons, rl_nil, rl_sp, rl_sg, rl_sg]; (try dsimp only at *); omega
theorem sz_obj (k : Nat) (s : List UInt8) (l : List (List UInt8)) {r : List Tok} {x : TD} {r1 : List Tok} (h : GT r) (e : objP k s l r = .ok x r1) : ∃ fs, x = ⟨k, s, fs, l⟩ ∧ sumB (fun f => rl (fdI f) + 8) fs + 500 * r1.length + 1000 ≤ 500 * r.length ∧ GT r1 := by
  unfold objP at e
  obtain ⟨u, q1, j1, e⟩ := bind_inv e
  obtain ⟨fs, q2, j2, e⟩ := bind_inv e
  obtain ⟨g1, g2⟩ := sz_want h j1
  obtain ⟨k1, k2⟩ := sz_many sz_fd _ _ [] _ _ _ g2 j2
  have h3 : sumB (fun f => rl (fdI f) + 8) [] = 0 := rfl
  injection e with e1 e2; subst e1; subst e2
  exact ⟨fs, rfl, by (try dsimp only at *); omega, k2⟩
theorem sumB_of (l : List IN) : sumB (fun f => rl (fdI f) + 8) (l.map FD.of) = sumB (fun i => rl (inI i) + 8) l := by
  rw [sumB_map]; congr 1
theorem sz_td : Sz tdP (fun t => rl (tdI t) + 8) := fun r x r1 h e => by
  have hgd := gd_td r x r1 h e
  refine ⟨?_, hgd.2⟩
  unfold tdP at e
  split at e
  · cases e
  · rename_i hk0
    have hkl := kindN_len hk0
    have hk5 : kindN r ≤ 5 := by unfold kindN; repeat' split
                                 all_goals omega
    obtain ⟨s, r2, h1, e⟩ := bind_inv e
    obtain ⟨g1, g2, g3⟩ := sz_name h.tail h1
    have hsp3 : ∀ c : UInt8, rl [.sp 32, sgI c, .sp 32] ≤ 3 := fun c => Nat.le_refl 3
    unfold bodyP at e
    split at e
    · unfold unionP at e
      obtain ⟨u, q1, j1, e⟩ := bind_inv e
      obtain ⟨l, q2, j2, e⟩ := bind_inv e
      obtain ⟨g4, g5⟩ := sz_want g3 j1
      obtain ⟨k1, k2⟩ := sz_names _ _ _ _ g5 j2
      injection e with e1 e2; subst e1; subst e2
      have hn := rl_names [.sp 32, sgI 124, .sp 32] (hsp3 _) l
      show rl (nmI wUnion :: .sp 32 :: nmI s :: .sp 32 :: sgI 61 :: .sp 32 :: namI [.sp 32, sgI 124, .sp 32] l) + 8 + _ ≤ _
      rw [rl_cons, rl_cons, rl_cons, rl_cons, rl_cons, rl_cons, rl_nm, rl_nm, rl_sp, rl_sg]
      have : wUnion.length = 5 := rfl
      (try dsimp only at *); omega
    · split at e
      · unfold enumP at e
        obtain ⟨u, q1, j1, e⟩ := bind_inv e
        obtain ⟨l, q2, j2, e⟩ := bind_inv e
        obtain ⟨g4, g5⟩ := sz_want g3 j1
        obtain ⟨k1, k2⟩ := sz_many sz_plain _ _ [] _ _ _ g5 j2
        have h3 : sumB (fun s : List UInt8 => s.length + 8) [] = 0 := rfl
        injection e with e1 e2; subst e1; subst e2
        have hn := rl_names [.sp 32] (by decide) l
        show rl (nmI wEnum :: .sp 32 :: nmI s :: .sp 32 :: sgI 123 :: .sp 32 :: (namI [.sp 32] l ++ [.sp 32, sgI 125])) + 8 + _ ≤ _
        rw [rl_cons, rl_cons, rl_cons, rl_cons, rl_cons, rl_cons, rl_app, rl_cons, rl_cons, rl_nil, rl_nm, rl_nm, rl_sp, rl_sg, rl_sg]
        have : wEnum.length = 4 := rfl
        (try dsimp only at *); omega
      · split at e
        · unfold inputP at e
          obtain ⟨u, q1, j1, e⟩ := bind_inv e
          obtain ⟨l, q2, j2, e⟩ := bind_inv e
          obtain ⟨g4, g5⟩ := sz_want g3 j1
          obtain ⟨k1, k2⟩ := sz_many sz_in _ _ [] _ _ _ g5 j2
          have h3 : sumB (fun i => rl (inI i) + 8) [] = 0 := rfl
          injection e with e1 e2; subst e1; subst e2
          have hb := rl_br (l.map FD.of)
          rw [sumB_of] at hb
          show rl (nmI wInput :: .sp 32 :: nmI s :: ([] ++ brI ((l.map FD.of).flatMap fun f => .sp 32 :: fdI f))) + 8 + _ ≤ _
          rw [rl_cons, rl_cons, rl_cons, List.nil_append, rl_nm, rl_nm, rl_sp]
          have : wInput.length = 5 := rfl
          (try dsimp only at *); omega
        · rename_i n3 n4 n5
          split at e
          · rename_i hb
            rw [Bool.and_eq_true] at hb
            have hl1 := isT_tl hb.2
            have hk1 : kindN r = 1 := of_decide_eq_true hb.1
            obtain ⟨l, q1, j1, e⟩ := bind_inv e
            obtain ⟨k1, k2⟩ := sz_names _ _ _ _ g3.tail j1
            obtain ⟨fs, rfl, k3, k4⟩ := sz_obj _ _ _ k2 e
            have hn := rl_names [.sp 32, sgI 38, .sp 32] (hsp3 _) l
            have hbr := rl_br fs
            rw [hk1]
            have hle : rl (tdI ⟨1, s, fs, l⟩) ≤ rl (nmI wType :: .sp 32 :: nmI s :: (.sp 32 :: nmI wImplements :: .sp 32 :: namI [.sp 32, sgI 38, .sp 32] l ++ brI (fs.flatMap fun f => .sp 32 :: fdI f))) := by
              rw [tdI_eq, if_neg (by decide), if_neg (by decide), if_pos rfl]
              simp only [rl_cons, rl_app]
              split
              · simp only [rl_cons, rl_app]; (try dsimp only at *); omega
              · rw [rl_nil]; (try dsimp only at *); omega
            refine Nat.le_trans (Nat.add_le_add_right (Nat.add_le_add_right hle 8) _) ?_
            rw [rl_cons, rl_cons, rl_cons, List.cons_append, List.cons_append, List.cons_append, rl_cons, rl_cons, rl_cons, rl_app, rl_nm, rl_nm, rl_nm, rl_sp]
            have : wType.length = 4 := rfl
            have : wImplements.length = 10 := rfl
            (try dsimp only at *); omega
          · obtain ⟨fs, rfl, k3, k4⟩ := sz_obj _ _ _ g3 e
            have hbr := rl_br fs
            have hle : rl (tdI ⟨kindN r, s, fs, []⟩) ≤ 9 + (1 + (s.length + rl (brI (fs.flatMap fun f => .sp 32 :: fdI f)))) := by
              rw [tdI_eq, if_neg n3, if_neg n4]
              have hw : (if kindN r = 1 then wType else if kindN r = 2 then wInterface else wInput).length ≤ 9 := by
                split
                · decide
                · split <;> decide
              rw [if_neg (show ¬ (kindN r = 1 ∧ ([] : List (List UInt8)) ≠ []) from fun h => h.2 rfl), List.nil_append, rl_cons, rl_cons, rl_cons, rl_nm, rl_nm, rl_sp]; (try dsimp only at *); omega
            refine Nat.le_trans (Nat.add_le_add_right (Nat.add_le_add_right hle 8) _) ?_
            (try dsimp only at *); omega
theorem sz_tys : ∀ (n : Nat) (acc : List TD) r l r1, GT r → tysF n acc r = .ok l r1 → sumB (fun t => rl (tdI t) + 8) l + 500 * r1.length ≤ sumB (fun t => rl (tdI t) + 8) acc + 500 * r.length
  | 0, acc, r, l, r1, h, e => by cases e
  | n + 1, acc, r, l, r1, h, e => by
    rw [tysF] at e
    obtain ⟨y, r2, h1, h2⟩ := bind_inv e
    obtain ⟨k1, k2⟩ := sz_td r y r2 h h1
    have hy : sumB (fun t => rl (tdI t) + 8) [y] = rl (tdI y) + 8 := by simp [sumB]
    split at h2
    · injection h2 with e1 e2; subst e1; subst e2
      rw [sumB_app]; (try dsimp only at *); omega
    · have k3 := sz_tys n _ r2 l r1 k2 h2
      rw [sumB_app] at k3; (try dsimp only at *); omega
/-- What is printed of declarations that were read is not long. -/
theorem tysP_size {s : List UInt8} {l : List TD} (h : tysP s = .ok l) : (ren (tysI l)).length ≤ 2000000 := by
  unfold tysP at h
  cases ht : toks s with
  | bad a e => rw [ht] at h; cases h
  | ok ts =>
    rw [ht] at h
    have h : (match tysF (ts.length + 1) [] ts with | .ok d _ => TR1.ok d | .bad a e => .bad a e) = .ok l := h
    cases hd : tysF (ts.length + 1) [] ts with
    | bad a e => rw [hd] at h; cases h
    | ok d1 r1 =>
      rw [hd] at h; injection h with h; subst h
      have h1 := sz_tys _ [] ts d1 r1 (toks_good ht) hd
      have h2 := (toks_end ht).2
      have h3 := sep_sum [.sp 32] (d1.map tdI)
      rw [sumB_map] at h3
      have h4 := sumB_le (μ := fun t => rl (tdI t) + rl [.sp 32]) (ν := fun t => rl (tdI t) + 8) (fun t => by show rl (tdI t) + 1 ≤ _; omega) d1
      have h5 : sumB (fun t => rl (tdI t) + 8) [] = 0 := rfl
      show rl (sepI [.sp 32] (d1.map tdI)) ≤ _
      (try dsimp only at *); omega
end Go.Proofs.YtgephneppgcnlaaDoor
namespace Go.Proofs.YtgephneppgcnlaaDoor
open Go Go.RowKit
set_option linter.unusedVariables false
set_option linter.unusedSimpArgs false

theorem digS_l20 {n : Nat} (h : n < 18446744073709551616) : (digS n).length ≤ 20 := digS_len 19 n (by omega)
set_option maxRecDepth 100000 in
set_option maxHeartbeats 4000000 in
theorem digits_any : ∀ (m n : Nat), n ≤ m → n < 18446744073709551616 → ∀ (w : World), Calls Tryd.prog 100 #[.int .u64 (n : Int)] w (fun e w' => e = .returned (.string ⟨(digS n).toArray⟩) ∧ Only (fun _ => False) w w')
  | m, n, hm, hn, w => by
    by_cases hl : n < 10
    · have t1 : decide ((n : Int) < 10) = true := decide_eq_true (by omega)
      have e1 := digS_lt hl
      obtain ⟨c, hc⟩ : ∃ c, UInt8.ofNat (48 + n) = c := ⟨_, rfl⟩
      have hcv : (c.toNat : Int) = 48 + (n : Int) := by rw [← hc, UInt8.toNat_ofNat', Nat.mod_eq_of_lt (by omega)]; omega
      rw [hc] at e1
      obtain ⟨gb, hgb⟩ : ∃ gb, w.heap.size = gb := ⟨_, rfl⟩
      have hbx := heap_new w (.cells #[.int .u8 (48 + (n : Int))] 5)
      rw [hgb] at hbx
      have cA : (convert 55 9 (.slice (some ⟨gb, 0, none⟩) 1 1)).run Tryd.prog (w.alloc (.cells #[.int .u8 (48 + (n : Int))] 5)) = .ok (.string ⟨#[c]⟩) (w.alloc (.cells #[.int .u8 (48 + (n : Int))] 5)) := by
        refine run_convert_bytes_back _ _ _ 5 _ 1 [c] (by kernel_rfl) (by kernel_rfl) (by kernel_rfl) (fun j hj => ?_)
        rw [addr_add]
        match j, hj with
        | 0, _ => simp [World.cell?, hbx]; exact hcv.symm
      rw [← hgb] at cA
      have HA := Lib.hid ((Only.refl (fun _ => False) w).alloc (.cells #[.int .u8 (48 + (n : Int))] 5))
      rw [e1]
      clear hbx hgb hcv hc e1
      go_enter Tryd.func100, Tryd.ntmps100
      go_wp2_with fail
      clear cA
      go_ret
      exact ⟨rfl, HA.out⟩
    · have t1 : decide ((n : Int) < 10) = false := decide_eq_false (by omega)
      have e1 := digS_ge hl
      have e2 := digS_lt (n := n % 10) (by omega)
      rw [← e2] at e1
      have HQ := Lib.hid (fun wx => digits_any (n / 10) (n / 10) (Nat.le_refl _) (by omega) wx)
      have HR := Lib.hid (fun wx => digits_any (n % 10) (n % 10) (Nat.le_refl _) (by omega) wx)
      have l1 := digS_l20 (n := n / 10) (by omega)
      have l2 := digS_l20 (n := n % 10) (by omega)
      have q1 : (n : Int) / 10 = ((n / 10 : Nat) : Int) := by omega
      have q2 : (n : Int) % 10 = ((n % 10 : Nat) : Int) := by omega
      rw [e1]
      have Q1 := Lib.hid q1; have Q2 := Lib.hid q2
      clear e1 e2 q1 q2
      go_enter Tryd.func100, Tryd.ntmps100
      go_wp2_with fail
      rw [Q1.out]
      refine (HQ.out w).mono ?_
      rintro e w2 ⟨rfl, O2⟩
      have HO2 := Lib.hid O2; clear O2
      go_wp2_with fail
      rw [Q2.out]
      refine (HR.out w2).mono ?_
      rintro e w3 ⟨rfl, O3⟩
      have HO3 := Lib.hid (HO2.out.trans O3); clear O3
      go_wp2_with fail
      go_ret
      rw [cat_list]
      exact ⟨rfl, HO3.out⟩
termination_by _ n => n
decreasing_by all_goals omega
set_option maxRecDepth 100000 in
set_option maxHeartbeats 4000000 in
theorem num_any (n : Int) (h0 : -9223372036854775808 ≤ n) (h1 : n ≤ 9223372036854775807) (w : World) : Calls Tryd.prog 86 #[.int .i64 n] w (fun e w' => e = .returned (.string ⟨(numS n).toArray⟩) ∧ Only (fun _ => False) w w') := by
  have HD := Lib.hid (fun wx => digits_any n.natAbs n.natAbs (Nat.le_refl _) (by omega) wx)
  have hl := digS_l20 (n := n.natAbs) (by omega)
  by_cases hn : n < 0
  · have t1 : decide (n < 0) = true := decide_eq_true hn
    have e1 : -(n + 1) + 1 = ((n.natAbs : Nat) : Int) := by omega
    have e2 : numS n = [45] ++ digS n.natAbs := by unfold numS; rw [t1]; rfl
    have E1 := Lib.hid e1; have E2 := Lib.hid e2
    clear e1 e2
    go_enter Tryd.func86, Tryd.ntmps86
    go_wp2_with fail
    rw [E1.out]
    refine (HD.out w).mono ?_
    rintro e w2 ⟨rfl, O2⟩
    have HO2 := Lib.hid O2; clear O2
    go_wp2_with fail
    go_ret
    rw [E2.out, ← cat_list]
    exact ⟨rfl, HO2.out⟩
  · have t1 : decide (n < 0) = false := decide_eq_false hn
    have e1 : n = ((n.natAbs : Nat) : Int) := by omega
    have e2 : numS n = digS n.natAbs := by unfold numS; rw [t1]; rfl
    have E1 := Lib.hid e1
    rw [e2]
    have hn0 : 0 ≤ n := by omega
    clear e1 e2
    go_enter Tryd.func86, Tryd.ntmps86
    go_wp2_with fail
    have hd := HD.out w
    rw [← E1.out] at hd
    refine hd.mono ?_
    rintro e w2 ⟨rfl, O2⟩
    have HO2 := Lib.hid O2; clear O2 hd
    go_wp2_with fail
    go_ret
    exact ⟨rfl, HO2.out⟩
theorem pw_one (s : ByteArray) (k : Nat) (h : k < s.size) : s.extract k (k + 1) = ⟨#[s[k]]⟩ := by
  have e := ba_eq (t := s.extract k (k + 1)) (l := [s[k]]) (by rw [extract_list, drop_get s k h, Nat.add_sub_cancel_left]; rfl)
  exact e
theorem esc1_len (c : UInt8) : (esc1 c).length ≤ 2 := by unfold esc1; repeat' split
                                                         all_goals simp
theorem escS_len : ∀ l : List UInt8, (escS l).length ≤ 2 * l.length
  | [] => by simp [escS]
  | c :: l => by
    have := escS_len l; have := esc1_len c
    rw [escS_cons, List.length_append, List.length_cons]; omega
theorem take_get (s : ByteArray) (k : Nat) (h : k < s.size) : s.data.toList.take (k + 1) = s.data.toList.take k ++ [s[k]] := by
  rw [List.take_succ_eq_append_getElem (show k < s.data.toList.length from h)]; rfl
set_option maxRecDepth 100000 in
set_option maxHeartbeats 4000000 in
theorem quote_any (s : ByteArray) (hs : s.size ≤ 1000000000000) (w : World) : Calls Tryd.prog 87 #[.string s] w (fun e w' => e = .returned (.string ⟨(quoS s.data.toList).toArray⟩) ∧ Only (fun _ => False) w w') := by
  go_enter Tryd.func87, Tryd.ntmps87
  go_wp2_with fail
  go_loopw [3, 4] (fun x y wr => ∃ k : Nat, y = .int .i64 (k : Int) ∧ k ≤ s.size ∧ x = .string ⟨([34] ++ escS (s.data.toList.take k)).toArray⟩ ∧ wr = w) (fun _ y _ => s.size - (intOf y).toNat)
  case atStart => exact ⟨0, rfl, by omega, rfl, rfl⟩
  case round =>
    obtain ⟨k, rfl, hk, rfl, rfl⟩ := hrel
    have hl := escS_len (s.data.toList.take k)
    rw [List.length_take] at hl
    have hle : ([34] ++ escS (s.data.toList.take k)).length ≤ 3000000000000 := by
      rw [List.length_append, List.length_singleton]; omega
    by_cases hlt : k < s.size
    · have t1 : decide ((k : Int) < (s.size : Int)) = true := decide_eq_true (by omega)
      have hnx : [34] ++ escS (s.data.toList.take (k + 1)) = [34] ++ escS (s.data.toList.take k) ++ esc1 s[k] := by
        rw [take_get s k hlt, escS_app, escS_cons]
        show [34] ++ (escS (s.data.toList.take k) ++ (esc1 s[k] ++ [])) = _
        rw [List.append_nil, List.append_assoc]
      have HNX := Lib.hid hnx; have HONE := Lib.hid (pw_one s k hlt)
      generalize ([34] ++ escS (s.data.toList.take k)) = acc at *
      clear hl hnx
      by_cases c1 : (s[k].toNat : Int) = 10
      · have t2 : decide ((s[k].toNat : Int) = 10) = true := decide_eq_true c1
        have e : esc1 s[k] = [92, 110] := by unfold esc1; rw [if_pos (by omega)]
        have HE := Lib.hid (HNX.out.trans (congrArg (acc ++ ·) e)); clear e
        go_wp2_with fail
        go_roundw
        case rel => exact ⟨k + 1, by simp, by omega, by rw [HE.out, ← cat_list], by first | rfl | trivial⟩
        case measure => simp [intOf]; omega
      have t2 : decide ((s[k].toNat : Int) = 10) = false := decide_eq_false c1
      by_cases c2 : (s[k].toNat : Int) = 9
      · have t3 : decide ((s[k].toNat : Int) = 9) = true := decide_eq_true c2
        have e : esc1 s[k] = [92, 116] := by unfold esc1; rw [if_neg (by omega), if_pos (by omega)]
        have HE := Lib.hid (HNX.out.trans (congrArg (acc ++ ·) e)); clear e
        go_wp2_with fail
        go_roundw
        case rel => exact ⟨k + 1, by simp, by omega, by rw [HE.out, ← cat_list], by first | rfl | trivial⟩
        case measure => simp [intOf]; omega
      have t3 : decide ((s[k].toNat : Int) = 9) = false := decide_eq_false c2
      by_cases c3 : (s[k].toNat : Int) = 34
      · have t4 : decide ((s[k].toNat : Int) = 34) = true := decide_eq_true c3
        have e0 : s[k] = 34 := UInt8.toNat_inj.1 (by show s[k].toNat = 34; omega)
        have e : esc1 s[k] = [92, 34] := by rw [e0]; rfl
        have HE := Lib.hid (HNX.out.trans (congrArg (acc ++ ·) e)); clear e e0
        go_wp2_with fail
        go_roundw
        case rel => exact ⟨k + 1, by simp, by omega, by rw [HE.out, ← cat_list], by first | rfl | trivial⟩
        case measure => simp [intOf]; omega
      have t4 : decide ((s[k].toNat : Int) = 34) = false := decide_eq_false c3
      by_cases c4 : (s[k].toNat : Int) = 92
      · have t5 : decide ((s[k].toNat : Int) = 92) = true := decide_eq_true c4
        have e0 : s[k] = 92 := UInt8.toNat_inj.1 (by show s[k].toNat = 92; omega)
        have e : esc1 s[k] = [92, 92] := by rw [e0]; rfl
        have HE := Lib.hid (HNX.out.trans (congrArg (acc ++ ·) e)); clear e e0
        go_wp2_with fail
        go_roundw
        case rel => exact ⟨k + 1, by simp, by omega, by rw [HE.out, ← cat_list], by first | rfl | trivial⟩
        case measure => simp [intOf]; omega
      have t5 : decide ((s[k].toNat : Int) = 92) = false := decide_eq_false c4
      have e : esc1 s[k] = [s[k]] := by unfold esc1; rw [if_neg (by omega), if_neg (by omega), if_neg (by omega)]
      have HE := Lib.hid (HNX.out.trans (congrArg (acc ++ ·) e)); clear e
      go_wp2_with fail
      go_roundw
      case rel => exact ⟨k + 1, by simp, by omega, by rw [HE.out, HONE.out, ← cat_list], by first | rfl | trivial⟩
      case measure => simp [intOf]; omega
    · have t1 : decide ((k : Int) < (s.size : Int)) = false := decide_eq_false (by omega)
      have hke : k = s.size := by omega
      subst hke
      have ht : s.data.toList.take s.size = s.data.toList := List.take_length
      rw [ht] at hle ⊢
      have HQ := Lib.hid (show quoS s.data.toList = [34] ++ escS s.data.toList ++ [34] from rfl)
      generalize ([34] ++ escS s.data.toList) = acc at *
      clear hl ht
      go_wp2_with fail
      go_ret
      rw [HQ.out, ← cat_list]
      exact ⟨rfl, Only.refl _ _⟩
end Go.Proofs.YtgephneppgcnlaaDoor
namespace Go.Proofs.YtgephneppgcnlaaDoor
open Go Go.RowKit
set_option linter.unusedVariables false
set_option linter.unusedSimpArgs false

theorem sep_app (g : List It) {a : List (List It)} (b : List (List It)) (h : a ≠ []) : sepI g (a ++ b) = sepI g a ++ b.flatMap (fun x => g ++ x) := by
  cases a with
  | nil => exact absurd rfl h
  | cons x a => show x ++ (a ++ b).flatMap _ = x ++ a.flatMap _ ++ _; rw [List.flatMap_append, List.append_assoc]
theorem sep_le (g : List It) (l : List (List It)) (i : Nat) : (ren (sepI g (l.take i))).length ≤ (ren (sepI g l)).length := by
  by_cases h : l.take i = []
  · rw [h]; simp [sepI, ren]
  · conv => rhs; rw [← List.take_append_drop i l]
    rw [sep_app g _ h, ren_app, List.length_append]; omega
theorem sep_succ (g : List It) (l : List (List It)) (i : Nat) (h : i < l.length) : ren (sepI g (l.take (i + 1))) = (if 0 < i then ren (sepI g (l.take i)) ++ ren g else []) ++ ren l[i] := by
  rw [List.take_succ_eq_append_getElem h, sepI_snoc]
  by_cases h0 : 0 < i
  · have hne : l.take i ≠ [] := fun e => by
      have h2 : (l.take i).length = 0 := congrArg List.length e
      rw [List.length_take] at h2; omega
    rw [if_neg hne, if_pos h0, ren_app, ren_app]
  · have : i = 0 := by omega
    subst this
    simp
theorem gap_ren : ren gapI = [44, 32] := rfl
theorem sep_zero (g : List It) (l : List (List It)) : ren (sepI g (l.take 0)) = [] := by rw [List.take_zero]; rfl
theorem cells3_pw {w : World} {g p : Nat} {x y z : Value} (h : ∀ j q, ([x, y, z] : List Value)[j]? = some q → w.cell? ⟨g, p + j, none⟩ = some q) : w.cell? ⟨g, p, none⟩ = some x ∧ w.cell? ⟨g, p + 1, none⟩ = some y ∧ w.cell? ⟨g, p + 2, none⟩ = some z := ⟨h 0 x rfl, h 1 y rfl, h 2 z rfl⟩
set_option maxRecDepth 100000 in
set_option maxHeartbeats 8000000 in
theorem prT_any : ∀ (t : TR) (G : Nat → Prop) (w : World) (cs : List Value), CellsAt w G (trC t) cs → (ren (typI t)).length ≤ 1000000000000 →
    Calls Tryd.prog 56 #[.agg cs.toArray] w (fun e w' => e = .returned (.string ⟨(ren (typI t)).toArray⟩) ∧ Only (fun _ => False) w w')
  | .nm s b, G, w, cs, h, hl => by
    obtain ⟨a, c, rfl⟩ : ∃ a c, cs = [.string ⟨s.toArray⟩, .slice a 0 c, .bool b] := by
      rcases tr_cells h with rfl | ⟨a, c, rfl⟩
      · exact ⟨_, _, rfl⟩
      · exact ⟨_, _, rfl⟩
    have e1 : ren (typI (.nm s b)) = s ++ (if b then [33] else []) := by
      rw [typI, ren_cons]; cases b <;> rfl
    rw [e1] at hl ⊢
    have hls : s.length ≤ 1000000000000 := by rw [List.length_append] at hl; omega
    obtain ⟨wb, hwb⟩ : ∃ wb, w.alloc (.cells #[.string ⟨s.toArray⟩, .slice a 0 c, .bool b] 42) = wb := ⟨_, rfl⟩
    obtain ⟨bA, hbA⟩ : ∃ b, w.heap.size = b := ⟨_, rfl⟩
    have ob : Only (fun _ => False) w wb := by rw [← hwb]; exact (Only.refl _ w).alloc _
    have hx1 : wb.heap[bA]? = some (.cells #[.string ⟨s.toArray⟩, .slice a 0 c, .bool b] 42 (0, 0)) := by rw [← hwb, ← hbA]; exact heap_new w _
    obtain ⟨c0, c1, c2, -⟩ := boxN3 hx1
    have HOB := Lib.hid ob; have HWB := Lib.hid hwb; have HBA := Lib.hid hbA
    clear hx1 ob hwb hbA h e1 hl
    cases b with
    | false =>
      rw [if_neg (by decide), List.append_nil]
      go_enter Tryd.func56, Tryd.ntmps56
      go_upto_region 1 with (fail)
      rw [HWB.out, HBA.out]
      go_wp2_with fail
      clear c0 c1 c2
      go_ret
      exact ⟨rfl, HOB.out⟩
    | true =>
      rw [if_pos rfl]
      go_enter Tryd.func56, Tryd.ntmps56
      go_upto_region 1 with (fail)
      rw [HWB.out, HBA.out]
      go_wp2_with fail
      clear c0 c1 c2
      go_ret
      rw [← cat_list]
      exact ⟨rfl, HOB.out⟩
  | .ls t b, G, w, cs, h, hl => by
    obtain ⟨v, rfl, hv⟩ := tr_ls_cells h
    have hv : CellAt w G (.row 3 ([t].map trC)) v := hv
    obtain ⟨a, c, rfl, k1, k2, k3⟩ := rows_at hv
    obtain ⟨g, o, xs, rfl, -, q1, q2⟩ := k3 0 (by simp)
    have q2 : CellsAt w G (trC t) xs := q2
    have e1 : ren (typI (.ls t b)) = [91] ++ ren (typI t) ++ [93] ++ (if b then [33] else []) := by
      rw [typI, ren_cons, ren_app, ren_cons]; cases b <;> simp [bangI, ren, It.src, sgI]
    rw [e1] at hl
    obtain ⟨R, hR⟩ : ∃ R, ren (typI (.ls t b)) = R := ⟨_, rfl⟩
    rw [hR] at e1 ⊢
    have HR := Lib.hid e1
    clear hR
    have hlt : (ren (typI t)).length ≤ 1000000000000 := by simp only [List.length_append] at hl; omega
    have hrec := fun (wx : World) (ox : Only (fun _ => False) w wx) => prT_any t G wx xs (CellsAt.only ox (fun _ _ h => h) _ _ q2) hlt
    obtain ⟨s1, a1, l1, c1', b1, rfl⟩ := trC_form2 q2
    rw [Nat.zero_mul, Nat.add_zero] at q1
    obtain ⟨e0, e1', e2⟩ := cells3_pw q1
    simp only [List.length_cons, List.length_nil, Nat.zero_add] at k1 ⊢
    obtain ⟨wb, hwb⟩ : ∃ wb, w.alloc (.cells #[.string ⟨#[]⟩, .slice (some ⟨g, o, none⟩) 1 c, .bool b] 42) = wb := ⟨_, rfl⟩
    obtain ⟨bA, hbA⟩ : ∃ b, w.heap.size = b := ⟨_, rfl⟩
    have ob : Only (fun _ => False) w wb := by rw [← hwb]; exact (Only.refl _ w).alloc _
    have hx1 : wb.heap[bA]? = some (.cells #[.string ⟨#[]⟩, .slice (some ⟨g, o, none⟩) 1 c, .bool b] 42 (0, 0)) := by rw [← hwb, ← hbA]; exact heap_new w _
    obtain ⟨c0, c1, c2, -⟩ := boxN3 hx1
    have e0 := keepc ob e0; have e1' := keepc ob e1'; have e2 := keepc ob e2
    have HREC := Lib.hid (hrec wb ob)
    have HC2 := Lib.hid c2
    have HOB := Lib.hid ob; have HWB := Lib.hid hwb; have HBA := Lib.hid hbA
    generalize ren (typI t) = rt at *
    clear hx1 ob hwb hbA h e1 hl hrec q1 q2 k3 hv
    go_enter Tryd.func56, Tryd.ntmps56
    go_upto_region 1 with (fail)
    rw [HWB.out, HBA.out]
    go_wp2_with fail
    refine HREC.out.mono ?_
    rintro e w6 ⟨rfl, o6⟩
    clear c0 c1 c2 e0 e1' e2
    have c2 := keepc o6 HC2.out
    have HO6 := Lib.hid (HOB.out.trans o6); clear o6
    cases b with
    | false =>
      go_wp2_with fail
      clear c2
      go_ret
      rw [HR.out, if_neg (by decide), List.append_nil, ← cat_list, ← cat_list]
      exact ⟨rfl, HO6.out⟩
    | true =>
      go_wp2_with fail
      clear c2
      go_ret
      rw [HR.out, if_pos trivial, ← cat_list, ← cat_list, ← cat_list]
      exact ⟨rfl, HO6.out⟩
end Go.Proofs.YtgephneppgcnlaaDoor
namespace Go.Proofs.YtgephneppgcnlaaDoor
open Go Go.RowKit
set_option linter.unusedVariables false
set_option linter.unusedSimpArgs false

/-- A value whose parts are those of its kind. -/
inductive WellV : VT → Prop
  | mk (k : Nat) (n : Int) (s : List UInt8) (ks : List (List UInt8)) (vs : List VT) (hn : -9223372036854775808 ≤ n ∧ n ≤ 9223372036854775807) (hk : vs = [] ∨ k = 5 ∨ k = 6 ∧ ks.length = vs.length) (hv : ∀ v ∈ vs, WellV v) : WellV (.mk k n s ks vs)
theorem sep_next (g : List It) (l : List (List It)) (i : Nat) (h : i < l.length) : ren (sepI g (l.take (i + 1))) = ren (sepI g (l.take i)) ++ (if 0 < i then ren g else []) ++ ren l[i] := by
  rw [sep_succ g l i h]
  by_cases h0 : 0 < i
  · rw [if_pos h0, if_pos h0]
  · have : i = 0 := by omega
    subst this
    rw [sep_zero]; rfl
def itemsV (k : Nat) (ks : List (List UInt8)) (vs : List VT) : List (List It) := if k = 6 then List.zipWith pairI ks (vs.map valI) else vs.map valI
theorem escS_ge : ∀ l : List UInt8, l.length ≤ (escS l).length
  | [] => by simp
  | c :: l => by
    have := escS_ge l
    have h1 : 1 ≤ (esc1 c).length := by unfold esc1; repeat' split
                                        all_goals simp
    rw [escS_cons, List.length_append, List.length_cons]; omega
theorem items_len {k : Nat} {ks : List (List UInt8)} {vs : List VT} (hk : vs = [] ∨ k = 5 ∨ k = 6 ∧ ks.length = vs.length) : (itemsV k ks vs).length = vs.length := by
  unfold itemsV
  split
  · rcases hk with h | h | ⟨_, h⟩
    · subst h; simp
    · omega
    · rw [List.length_zipWith, List.length_map, h]; omega
  · rw [List.length_map]
theorem items_get {k : Nat} {ks : List (List UInt8)} {vs : List VT} (hk : vs = [] ∨ k = 5 ∨ k = 6 ∧ ks.length = vs.length) (i : Nat) (h : i < vs.length) (h' : i < (itemsV k ks vs).length) : (k = 6 ∧ ∃ hi : i < ks.length, ren (itemsV k ks vs)[i] = ks[i] ++ [58, 32] ++ ren (valI vs[i])) ∨ (k ≠ 6 ∧ ren (itemsV k ks vs)[i] = ren (valI vs[i])) := by
  by_cases h6 : k = 6
  · left
    refine ⟨h6, ?_⟩
    have hl : ks.length = vs.length := by
      rcases hk with h1 | h1 | ⟨_, h1⟩
      · subst h1; simp at h
      · omega
      · exact h1
    refine ⟨by omega, ?_⟩
    have e : itemsV k ks vs = List.zipWith pairI ks (vs.map valI) := if_pos h6
    simp only [e, List.getElem_zipWith, List.getElem_map]
    unfold pairI
    rw [ren_cons, ren_cons, ren_cons]
    simp [It.src, nmI, sgI]
  · right
    refine ⟨h6, ?_⟩
    have e : itemsV k ks vs = vs.map valI := if_neg h6
    simp only [e, List.getElem_map]
theorem items_le {k : Nat} {n : Int} {s : List UInt8} {ks : List (List UInt8)} {vs : List VT} (hk : vs = [] ∨ k = 5 ∨ k = 6 ∧ ks.length = vs.length) : (ren (sepI gapI (itemsV k ks vs))).length ≤ (ren (valI (.mk k n s ks vs))).length := by
  have h0 : vs = [] → (ren (sepI gapI (itemsV k ks vs))).length = 0 := fun e => by subst e; unfold itemsV; split <;> simp [sepI, ren]
  by_cases h5 : k = 5
  · rw [valI_eq, if_neg (by omega), if_neg (by omega), if_neg (by omega), if_neg (by omega), if_neg (by omega), if_pos h5]
    have e : itemsV k ks vs = vs.map valI := if_neg (by omega)
    rw [e, ren_cons, ren_app]; simp; omega
  by_cases h6 : k = 6
  · rw [valI_eq, if_neg (by omega), if_neg (by omega), if_neg (by omega), if_neg (by omega), if_neg (by omega), if_neg (by omega), if_pos h6]
    have e : itemsV k ks vs = List.zipWith pairI ks (vs.map valI) := if_pos h6
    rw [e, ren_cons, ren_app]; simp; omega
  rw [h0 (by rcases hk with h | h | h <;> first | exact h | omega)]; omega
theorem sep_part (g : List It) (l : List (List It)) (i : Nat) (h : i < l.length) : (ren l[i]).length ≤ (ren (sepI g l)).length := by
  have h1 := sep_le g l (i + 1)
  rw [sep_next g l i h, List.length_append, List.length_append] at h1; omega
set_option maxRecDepth 100000 in
set_option maxHeartbeats 16000000 in
theorem prV_any : ∀ (v : VT), WellV v → ∀ (G : Nat → Prop) (w : World) (cs : List Value), CellsAt w G (valC v) cs → (ren (valI v)).length ≤ 1000000000000 →
    Calls Tryd.prog 57 #[.agg cs.toArray] w (fun e w' => e = .returned (.string ⟨(ren (valI v)).toArray⟩) ∧ Only (fun _ => False) w w') := by
  intro v hw
  induction hw with
  | mk k n s ks vs hn hk hv ih =>
  intro G w cs h hl
  obtain ⟨kv, lv, rfl, hkk, hll⟩ := val_cells h
  obtain ⟨ak, ck, rfl, hck, hck', hK⟩ := rows_at hkk
  obtain ⟨av, cv, rfl, hcv, hcv', hV⟩ := rows_at hll
  obtain ⟨L, hL⟩ : ∃ L, vs.length = L := ⟨_, rfl⟩
  obtain ⟨LK, hLK⟩ : ∃ L, ks.length = L := ⟨_, rfl⟩
  have hil := items_len hk
  have hile := items_le (n := n) (s := s) hk
  have hig := items_get hk
  have hm6 : k = 6 → vs ≠ [] → LK = L := fun h6 hne => by
    rcases hk with h1 | h1 | ⟨_, h1⟩
    · exact absurd h1 hne
    · omega
    · omega
  obtain ⟨R, hR⟩ : ∃ R, ren (valI (.mk k n s ks vs)) = R := ⟨_, rfl⟩
  rw [hR] at hl hile ⊢
  rw [hL] at hcv ⊢
  rw [hLK] at hck ⊢
  obtain ⟨wb, hwb⟩ : ∃ wb, w.alloc (.cells #[.int .u8 k, .int .i64 n, .string ⟨s.toArray⟩, .slice ak LK ck, .slice av L cv] 45) = wb := ⟨_, rfl⟩
  obtain ⟨bA, hbA⟩ : ∃ b, w.heap.size = b := ⟨_, rfl⟩
  have ob : Only (fun _ => False) w wb := by rw [← hwb]; exact (Only.refl _ w).alloc _
  have hx1 : wb.heap[bA]? = some (.cells #[.int .u8 k, .int .i64 n, .string ⟨s.toArray⟩, .slice ak LK ck, .slice av L cv] 45 (0, 0)) := by rw [← hwb, ← hbA]; exact heap_new w _
  obtain ⟨c0, c1, c2, c3, c4, -⟩ := boxN5 hx1
  obtain ⟨n0, n1⟩ := hn
  have HC := Lib.hid (And.intro c0 (And.intro c1 (And.intro c2 (And.intro c3 c4))))
  have HOB := Lib.hid ob; have HWB := Lib.hid hwb; have HBA := Lib.hid hbA; have HR := Lib.hid hR; have HKK := Lib.hid hK; have HVV := Lib.hid hV; have IH := Lib.hid ih; have HL := Lib.hid hL; have HLK := Lib.hid hLK; have HIL := Lib.hid hil; have HIG := Lib.hid hig; have HM6 := Lib.hid hm6; have HK := Lib.hid hk
  have HILE := Lib.hid (Nat.le_trans hile hl)
  clear hx1 ob hwb hbA hR hK hV ih hil hig hm6 hk hkk hll h hv hile hL hLK
  go_enter Tryd.func57, Tryd.ntmps57
  go_upto_region 1 with (fail)
  rw [HWB.out, HBA.out]
  go_wp2_with fail
  clear c0 c1 c2 c3 c4
  go_loopw [3, 4] (fun x y wr => ∃ i : Nat, y = .int .i64 (i : Int) ∧ i ≤ L ∧ x = .string ⟨(ren (sepI gapI ((itemsV k ks vs).take i))).toArray⟩ ∧ Hid (Only (fun _ => False) wb wr)) (fun _ y _ => L - (intOf y).toNat)
  case atStart => exact ⟨0, rfl, by omega, by rw [sep_zero], Lib.hid (Only.refl _ _)⟩
  case round =>
    obtain ⟨i, rfl, hi, rfl, HO⟩ := hrel
    obtain ⟨c0, c1, c2, c3, c4⟩ := HC.out
    have c0 := keepc HO.out c0; have c1 := keepc HO.out c1; have c2 := keepc HO.out c2; have c3 := keepc HO.out c3; have c4 := keepc HO.out c4
    have hal := Nat.le_trans (sep_le gapI (itemsV k ks vs) i) HILE.out
    by_cases hlt : i < L
    · have t1 : decide ((i : Int) < (L : Int)) = true := decide_eq_true (by omega)
      have hi0 : (0 : Int) ≤ (i : Int) := by omega
      have hi1 : (i : Int) < (L : Int) := by omega
      have hvi : i < vs.length := by rw [HL.out]; exact hlt
      have hii : i < (itemsV k ks vs).length := by rw [HIL.out]; exact hvi
      have hnx := sep_next gapI (itemsV k ks vs) i hii
      have hpl := Nat.le_trans (sep_part gapI (itemsV k ks vs) i hii) HILE.out
      have hcs := HIG.out i hvi hii
      obtain ⟨gv, ov, xs, rfl, -, hr, hc⟩ := HVV.out i hvi
      have hrec : (ren (valI vs[i])).length ≤ 1000000000000 → ∀ wx, Only (fun _ => False) wb wx → _ := fun hlen wx ox => IH.out vs[i] (List.getElem_mem hvi) G wx xs (CellsAt.only (HOB.out.trans ox) (fun _ _ h => h) _ _ hc) hlen
      obtain ⟨k', n', s', ak', lk', ck2', av', lv', cv2', rfl⟩ := valC_form2 hc
      obtain ⟨e0, e1, e2, e3, e4⟩ := cells5_of hr
      have e0 := keepc (HOB.out.trans HO.out) e0; have e1 := keepc (HOB.out.trans HO.out) e1; have e2 := keepc (HOB.out.trans HO.out) e2; have e3 := keepc (HOB.out.trans HO.out) e3; have e4 := keepc (HOB.out.trans HO.out) e4
      obtain ⟨acc, hacc⟩ : ∃ a, ren (sepI gapI ((itemsV k ks vs).take i)) = a := ⟨_, rfl⟩
      obtain ⟨acc', hacc'⟩ : ∃ a, ren (sepI gapI ((itemsV k ks vs).take (i + 1))) = a := ⟨_, rfl⟩
      have HA' := Lib.hid hacc'
      rw [hacc] at hal hnx ⊢
      rw [hacc', gap_ren] at hnx
      obtain ⟨rv, hrv⟩ : ∃ r, ren (valI vs[i]) = r := ⟨_, rfl⟩
      rw [hrv] at hrec hcs
      clear hacc hacc'
      by_cases h6 : k = 6
      · have u6 : ((k : Int) == 6) = true := by simp; omega
        have hlk : LK = L := HM6.out h6 (fun e => by rw [e] at hvi; simp at hvi)
        have hik : (i : Int) < (LK : Int) := by omega
        obtain ⟨hki, heq⟩ : ∃ hi : i < ks.length, ren (itemsV k ks vs)[i] = ks[i] ++ [58, 32] ++ rv := by
          rcases hcs with ⟨_, h⟩ | ⟨h, _⟩
          · exact h
          · exact absurd h6 h
        obtain ⟨gk, ok, ys, rfl, -, hr2, hc2⟩ := HKK.out i hki
        have := str_cell hc2; subst this
        have e5 := keepc (HOB.out.trans HO.out) (hr2 0 _ rfl)
        rw [Nat.mul_one, Nat.add_zero] at e5
        rw [heq] at hnx hpl
        generalize ks[i] = ki at *
        simp only [List.length_append, List.length_cons, List.length_nil] at hpl
        have hkl : ki.length ≤ 1000000000000 := by omega
        have hrl : rv.length ≤ 1000000000000 := by omega
        have HREC := Lib.hid (hrec hrl wr HO.out)
        have HNX := Lib.hid hnx
        have H6 := Lib.hid h6; have HLK6 := Lib.hid hlk
        clear hrec hnx hcs hr hr2 hc hc2 heq hpl hrv c1 c2 h6 hlk
        by_cases hz : 0 < i
        · have t2 : decide ((i : Int) > 0) = true := decide_eq_true (by omega)
          go_wp2_with fail
          refine HREC.out.mono ?_
          rintro e w6 ⟨rfl, o6⟩
          have HO6 := Lib.hid (HO.out.trans o6)
          clear c0 c3 c4 e0 e1 e2 e3 e4 e5 o6
          go_wp2_with fail
          go_roundw
          case rel => exact ⟨i + 1, by simp, by omega, by rw [HA'.out, HNX.out, if_pos hz]; simp only [← cat_list, ByteArray.append_assoc], HO6⟩
          case measure => simp [intOf]; omega
        · have t2 : decide ((i : Int) > 0) = false := decide_eq_false (by omega)
          go_wp2_with fail
          refine HREC.out.mono ?_
          rintro e w6 ⟨rfl, o6⟩
          have HO6 := Lib.hid (HO.out.trans o6)
          clear c0 c3 c4 e0 e1 e2 e3 e4 e5 o6
          go_wp2_with fail
          go_roundw
          case rel => exact ⟨i + 1, by simp, by omega, by rw [HA'.out, HNX.out, if_neg hz, List.append_nil]; simp only [← cat_list, ByteArray.append_assoc], HO6⟩
          case measure => simp [intOf]; omega
      · have u6 : ((k : Int) == 6) = false := by simp; omega
        have heq : ren (itemsV k ks vs)[i] = rv := by
          rcases hcs with ⟨h, _⟩ | ⟨_, h⟩
          · exact absurd h h6
          · exact h
        rw [heq] at hnx hpl
        have HREC := Lib.hid (hrec hpl wr HO.out)
        have HNX := Lib.hid hnx
        clear hrec hnx hcs hr hc heq hrv c1 c2 c3
        by_cases hz : 0 < i
        · have t2 : decide ((i : Int) > 0) = true := decide_eq_true (by omega)
          go_wp2_with fail
          refine HREC.out.mono ?_
          rintro e w6 ⟨rfl, o6⟩
          have HO6 := Lib.hid (HO.out.trans o6)
          clear c0 c4 e0 e1 e2 e3 e4 o6
          go_wp2_with fail
          go_roundw
          case rel => exact ⟨i + 1, by simp, by omega, by rw [HA'.out, HNX.out, if_pos hz]; simp only [← cat_list, ByteArray.append_assoc], HO6⟩
          case measure => simp [intOf]; omega
        · have t2 : decide ((i : Int) > 0) = false := decide_eq_false (by omega)
          go_wp2_with fail
          refine HREC.out.mono ?_
          rintro e w6 ⟨rfl, o6⟩
          have HO6 := Lib.hid (HO.out.trans o6)
          clear c0 c4 e0 e1 e2 e3 e4 o6
          go_wp2_with fail
          go_roundw
          case rel => exact ⟨i + 1, by simp, by omega, by rw [HA'.out, HNX.out, if_neg hz, List.append_nil]; simp only [← cat_list, ByteArray.append_assoc], HO6⟩
          case measure => simp [intOf]; omega
    · have t1 : decide ((i : Int) < (L : Int)) = false := decide_eq_false (by omega)
      have hke : i = L := by omega
      subst hke
      have htk : (itemsV k ks vs).take i = itemsV k ks vs := List.take_of_length_le (by rw [HIL.out, HL.out]; omega)
      rw [htk] at hal ⊢
      have HBX := Lib.hid (HOB.out.trans HO.out)
      clear htk
      by_cases h1 : k = 1
      · have u1 : ((k : Int) == 1) = true := by simp; omega
        have e := HR.out
        rw [valI_eq, if_pos h1] at e
        have HE := Lib.hid (show numS n = R from by rw [← e]; simp [ren, It.src, nuI])
        have HN := Lib.hid (num_any n n0 n1 wr)
        clear e h1
        generalize ren (sepI gapI (itemsV k ks vs)) = acc at *
        go_wp2_with fail
        refine HN.out.mono ?_
        rintro e w6 ⟨rfl, o6⟩
        have HO6 := Lib.hid (HBX.out.trans o6)
        clear c0 c1 c2 c3 c4 o6
        go_wp2_with fail
        go_ret
        rw [HE.out]
        exact ⟨rfl, HO6.out⟩
      by_cases h2 : k = 2
      · have u1 : ((k : Int) == 1) = false := by simp; omega
        have u2 : ((k : Int) == 2) = true := by simp; omega
        have e := HR.out
        rw [valI_eq, if_neg (by omega), if_pos (by omega)] at e
        have hq : quoS s = R := by rw [← e]; simp [ren, It.src, quI]
        have hsl : (⟨s.toArray⟩ : ByteArray).size ≤ 1000000000000 := by
          have h1 := escS_ge s
          rw [← hq] at hl
          simp only [quoS, List.length_cons, List.length_append] at hl
          show s.length ≤ _; omega
        have HE := Lib.hid hq
        have HN := Lib.hid (quote_any ⟨s.toArray⟩ hsl wr)
        clear e hq hsl h2
        generalize ren (sepI gapI (itemsV k ks vs)) = acc at *
        go_wp2_with fail
        refine HN.out.mono ?_
        rintro e w6 ⟨rfl, o6⟩
        have HO6 := Lib.hid (HBX.out.trans o6)
        clear c0 c1 c2 c3 c4 o6
        go_wp2_with fail
        go_ret
        rw [← HE.out]
        exact ⟨rfl, HO6.out⟩
      by_cases h8 : k = 8
      · have u1 : ((k : Int) == 1) = false := by simp; omega
        have u2 : ((k : Int) == 2) = false := by simp; omega
        have u8 : ((k : Int) == 8) = true := by simp; omega
        have e := HR.out
        rw [valI_eq, if_neg (by omega), if_pos (by omega)] at e
        have hq : quoS s = R := by rw [← e]; simp [ren, It.src, quI]
        have hsl : (⟨s.toArray⟩ : ByteArray).size ≤ 1000000000000 := by
          have h1 := escS_ge s
          rw [← hq] at hl
          simp only [quoS, List.length_cons, List.length_append] at hl
          show s.length ≤ _; omega
        have HE := Lib.hid hq
        have HN := Lib.hid (quote_any ⟨s.toArray⟩ hsl wr)
        clear e hq hsl h8
        generalize ren (sepI gapI (itemsV k ks vs)) = acc at *
        go_wp2_with fail
        refine HN.out.mono ?_
        rintro e w6 ⟨rfl, o6⟩
        have HO6 := Lib.hid (HBX.out.trans o6)
        clear c0 c1 c2 c3 c4 o6
        go_wp2_with fail
        go_ret
        rw [← HE.out]
        exact ⟨rfl, HO6.out⟩
      by_cases h3 : k = 3
      · have u1 : ((k : Int) == 1) = false := by simp; omega
        have u2 : ((k : Int) == 2) = false := by simp; omega
        have u8 : ((k : Int) == 8) = false := by simp; omega
        have u3 : ((k : Int) == 3) = true := by simp; omega
        have e := HR.out
        rw [valI_eq, if_neg (by omega), if_neg (by omega), if_pos h3] at e
        generalize ren (sepI gapI (itemsV k ks vs)) = acc at *
        clear h3
        by_cases hn1 : n = 1
        · have v1 : (n == 1) = true := by simp; omega
          have HE := Lib.hid (show [116, 114, 117, 101] = R from by rw [← e, if_pos hn1]; rfl)
          clear e hn1
          go_wp2_with fail
          clear c0 c1 c2 c3 c4
          go_ret
          rw [← HE.out]
          exact ⟨rfl, HBX.out⟩
        · have v1 : (n == 1) = false := by simp; omega
          have HE := Lib.hid (show [102, 97, 108, 115, 101] = R from by rw [← e, if_neg hn1]; rfl)
          clear e
          go_wp2_with fail
          clear c0 c1 c2 c3 c4
          go_ret
          rw [← HE.out]
          exact ⟨rfl, HBX.out⟩
      by_cases h4 : k = 4
      · have u1 : ((k : Int) == 1) = false := by simp; omega
        have u2 : ((k : Int) == 2) = false := by simp; omega
        have u8 : ((k : Int) == 8) = false := by simp; omega
        have u3 : ((k : Int) == 3) = false := by simp; omega
        have u4 : ((k : Int) == 4) = true := by simp; omega
        have e := HR.out
        rw [valI_eq, if_neg (by omega), if_neg (by omega), if_neg (by omega), if_pos h4] at e
        have HE := Lib.hid (show s = R from by rw [← e]; simp [ren, It.src, nmI])
        have hrl := hl
        rw [← HE.out] at hrl
        try simp only [List.length_append, List.length_cons, List.length_nil] at hrl
        clear e h4
        generalize ren (sepI gapI (itemsV k ks vs)) = acc at *
        go_wp2_with fail
        clear c0 c1 c2 c3 c4
        go_ret
        rw [← HE.out]
        exact ⟨rfl, HBX.out⟩
      by_cases h7 : k = 7
      · have u1 : ((k : Int) == 1) = false := by simp; omega
        have u2 : ((k : Int) == 2) = false := by simp; omega
        have u8 : ((k : Int) == 8) = false := by simp; omega
        have u3 : ((k : Int) == 3) = false := by simp; omega
        have u4 : ((k : Int) == 4) = false := by simp; omega
        have u7 : ((k : Int) == 7) = true := by simp; omega
        have e := HR.out
        rw [valI_eq, if_neg (by omega), if_neg (by omega), if_neg (by omega), if_neg (by omega), if_pos h7] at e
        have HE := Lib.hid (show [36] ++ s = R from by rw [← e]; simp [ren, It.src, nmI, sgI])
        have hrl := hl
        rw [← HE.out] at hrl
        try simp only [List.length_append, List.length_cons, List.length_nil] at hrl
        clear e h7
        generalize ren (sepI gapI (itemsV k ks vs)) = acc at *
        go_wp2_with fail
        clear c0 c1 c2 c3 c4
        go_ret
        rw [← HE.out]; simp only [← cat_list]
        exact ⟨rfl, HBX.out⟩
      by_cases h5 : k = 5
      · have u1 : ((k : Int) == 1) = false := by simp; omega
        have u2 : ((k : Int) == 2) = false := by simp; omega
        have u8 : ((k : Int) == 8) = false := by simp; omega
        have u3 : ((k : Int) == 3) = false := by simp; omega
        have u4 : ((k : Int) == 4) = false := by simp; omega
        have u7 : ((k : Int) == 7) = false := by simp; omega
        have u5 : ((k : Int) == 5) = true := by simp; omega
        have e := HR.out
        rw [valI_eq, if_neg (by omega), if_neg (by omega), if_neg (by omega), if_neg (by omega), if_neg (by omega), if_pos h5] at e
        have HE := Lib.hid (show [91] ++ ren (sepI gapI (itemsV k ks vs)) ++ [93] = R from by rw [← e]; rw [ren_cons, ren_app]; simp [itemsV, h5, ren, It.src, sgI])
        have hrl := hl
        rw [← HE.out] at hrl
        try simp only [List.length_append, List.length_cons, List.length_nil] at hrl
        clear e h5
        generalize ren (sepI gapI (itemsV k ks vs)) = acc at *
        go_wp2_with fail
        clear c0 c1 c2 c3 c4
        go_ret
        rw [← HE.out]; simp only [← cat_list]
        exact ⟨rfl, HBX.out⟩
      by_cases h6 : k = 6
      · have u1 : ((k : Int) == 1) = false := by simp; omega
        have u2 : ((k : Int) == 2) = false := by simp; omega
        have u8 : ((k : Int) == 8) = false := by simp; omega
        have u3 : ((k : Int) == 3) = false := by simp; omega
        have u4 : ((k : Int) == 4) = false := by simp; omega
        have u7 : ((k : Int) == 7) = false := by simp; omega
        have u5 : ((k : Int) == 5) = false := by simp; omega
        have u6 : ((k : Int) == 6) = true := by simp; omega
        have e := HR.out
        rw [valI_eq, if_neg (by omega), if_neg (by omega), if_neg (by omega), if_neg (by omega), if_neg (by omega), if_neg (by omega), if_pos h6] at e
        have HE := Lib.hid (show [123] ++ ren (sepI gapI (itemsV k ks vs)) ++ [125] = R from by rw [← e]; rw [ren_cons, ren_app]; simp [itemsV, h6, ren, It.src, sgI])
        have hrl := hl
        rw [← HE.out] at hrl
        try simp only [List.length_append, List.length_cons, List.length_nil] at hrl
        clear e h6
        generalize ren (sepI gapI (itemsV k ks vs)) = acc at *
        go_wp2_with fail
        clear c0 c1 c2 c3 c4
        go_ret
        rw [← HE.out]; simp only [← cat_list]
        exact ⟨rfl, HBX.out⟩
      have u1 : ((k : Int) == 1) = false := by simp; omega
      have u2 : ((k : Int) == 2) = false := by simp; omega
      have u8 : ((k : Int) == 8) = false := by simp; omega
      have u3 : ((k : Int) == 3) = false := by simp; omega
      have u4 : ((k : Int) == 4) = false := by simp; omega
      have u7 : ((k : Int) == 7) = false := by simp; omega
      have u5 : ((k : Int) == 5) = false := by simp; omega
      have u6 : ((k : Int) == 6) = false := by simp; omega
      have e := HR.out
      rw [valI_eq, if_neg (by omega), if_neg (by omega), if_neg (by omega), if_neg (by omega), if_neg (by omega), if_neg (by omega), if_neg (by omega)] at e
      have HE := Lib.hid (show [110, 117, 108, 108] = R from by rw [← e]; rfl)
      clear e
      generalize ren (sepI gapI (itemsV k ks vs)) = acc at *
      go_wp2_with fail
      clear c0 c1 c2 c3 c4
      go_ret
      rw [← HE.out]
      exact ⟨rfl, HBX.out⟩
end Go.Proofs.YtgephneppgcnlaaDoor
namespace Go.Proofs.YtgephneppgcnlaaDoor
open Go Go.RowKit
set_option linter.unusedVariables false
set_option linter.unusedSimpArgs false

def inpB (nm : List UInt8) (t : TR) (has : Bool) (v : VT) : List UInt8 := nm ++ [58, 32] ++ ren (typI t) ++ (if has then [32, 61, 32] ++ ren (valI v) else [])
theorem inp_ren (n : List It) (t : TR) (has : Bool) (v : VT) : ren (inpI n t has v) = inpB (ren n) t has v := by
  unfold inpI inpB
  rw [ren_app, ren_cons, ren_cons, ren_app]
  cases has
  · simp [ren, It.src, sgI]
  · rw [if_pos rfl, ren_cons, ren_cons, ren_cons]; simp [It.src, sgI]
set_option maxRecDepth 100000 in
set_option maxHeartbeats 8000000 in
theorem prI_any (nm : List UInt8) (t : TR) (has : Bool) (v : VT) (hw : has = true → WellV v) (G : Nat → Prop) (w : World) (cs ds : List Value) (h : CellsAt w G (trC t) cs) (h' : CellsAt w G (valC v) ds) (hl : (inpB nm t has v).length ≤ 1000000000000) :
    Calls Tryd.prog 32 #[.string ⟨nm.toArray⟩, .agg cs.toArray, .bool has, .agg ds.toArray] w (fun e w' => e = .returned (.string ⟨(inpB nm t has v).toArray⟩) ∧ Only (fun _ => False) w w') := by
  have hl0 := hl
  unfold inpB at hl0
  simp only [List.length_append] at hl0
  have hlt : (ren (typI t)).length ≤ 1000000000000 := by omega
  have hln : nm.length ≤ 1000000000000 := by omega
  have hta := fun (wx : World) (ox : Only (fun _ => False) w wx) => prT_any t G wx cs (CellsAt.only ox (fun _ _ h => h) _ _ h) hlt
  have hva := fun (wx : World) (ox : Only (fun _ => False) w wx) (hh : has = true) => prV_any v (hw hh) G wx ds (CellsAt.only ox (fun _ _ h => h) _ _ h') (by rw [if_pos hh, List.length_append] at hl0; omega)
  have hvl : has = true → (ren (valI v)).length ≤ 1000000000000 := fun hh => by rw [if_pos hh, List.length_append] at hl0; omega
  obtain ⟨s1, a1, l1, c1, b1, rfl⟩ := trC_form2 h
  obtain ⟨k, n, s2, a2, l2, e2, a3, l3, e3, rfl⟩ := valC_form2 h'
  obtain ⟨R, hR⟩ : ∃ R, inpB nm t has v = R := ⟨_, rfl⟩
  rw [hR]
  obtain ⟨wb, hwb⟩ : ∃ wb, (w.alloc (.cells #[.string ⟨s1.toArray⟩, .slice a1 l1 c1, .bool b1] 42)).alloc (.cells #[.int .u8 (k : Int), .int .i64 n, .string ⟨s2.toArray⟩, .slice a2 l2 e2, .slice a3 l3 e3] 45) = wb := ⟨_, rfl⟩
  have ob : Only (fun _ => False) w wb := by rw [← hwb]; exact ((Only.refl _ w).alloc _).alloc _
  obtain ⟨bA, hbA⟩ : ∃ b, w.heap.size = b := ⟨_, rfl⟩
  obtain ⟨bB, hbB⟩ : ∃ b, bA + 1 = b := ⟨_, rfl⟩
  have hx1 : wb.heap[bA]? = some (.cells #[.string ⟨s1.toArray⟩, .slice a1 l1 c1, .bool b1] 42 (0, 0)) := by rw [← hwb, ← hbA]; exact heap_old (heap_new w _) _
  have hx2 : wb.heap[bB]? = some (.cells #[.int .u8 (k : Int), .int .i64 n, .string ⟨s2.toArray⟩, .slice a2 l2 e2, .slice a3 l3 e3] 45 (0, 0)) := by
    rw [← hwb, ← hbB, ← hbA]
    have := heap_new (w.alloc (.cells #[.string ⟨s1.toArray⟩, .slice a1 l1 c1, .bool b1] 42)) (.cells #[.int .u8 (k : Int), .int .i64 n, .string ⟨s2.toArray⟩, .slice a2 l2 e2, .slice a3 l3 e3] 45)
    rw [World.size_alloc] at this; exact this
  obtain ⟨c0, c1', c2, -⟩ := boxN3 hx1
  obtain ⟨d0, d1, d2, d3, d4, -⟩ := boxN5 hx2
  have HD := Lib.hid (And.intro d0 (And.intro d1 (And.intro d2 (And.intro d3 d4))))
  have HOB := Lib.hid ob; have HWB := Lib.hid hwb; have HBA := Lib.hid hbA; have HBB := Lib.hid hbB
  have HT := Lib.hid (hta wb ob)
  have HV := Lib.hid (fun (wx : World) (ox : Only (fun _ => False) wb wx) => hva wx (HOB.out.trans ox))
  clear hx1 hx2 ob hwb hbA hbB h h' hta hva hw hl hl0
  unfold inpB at hR
  generalize ren (typI t) = rt at *
  cases has with
  | false =>
    rw [if_neg (by decide), List.append_nil] at hR
    have HR := Lib.hid hR
    clear hR
    go_enter Tryd.func32, Tryd.ntmps32
    go_upto_region 1 with (fail)
    rw [HWB.out, HBA.out, HBB.out]
    go_wp2_with fail
    refine HT.out.mono ?_
    rintro e w6 ⟨rfl, o6⟩
    have HO6 := Lib.hid (HOB.out.trans o6)
    clear c0 c1' c2 d0 d1 d2 d3 d4 o6
    go_wp2_with fail
    go_ret
    rw [← HR.out]; simp only [← cat_list]
    exact ⟨rfl, HO6.out⟩
  | true =>
    rw [if_pos rfl] at hR
    have hl2 := hvl rfl
    clear hvl
    have HV' := Lib.hid (fun wx ox => HV.out wx ox rfl)
    have hR2 := hR
    generalize ren (valI v) = rv at *
    have HR := Lib.hid hR
    clear hR hR2 HV
    go_enter Tryd.func32, Tryd.ntmps32
    go_upto_region 1 with (fail)
    rw [HWB.out, HBA.out, HBB.out]
    go_wp2_with fail
    refine HT.out.mono ?_
    rintro e w6 ⟨rfl, o6⟩
    have HV6 := Lib.hid (HV'.out w6 o6)
    obtain ⟨z0, z1, z2, z3, z4⟩ := HD.out
    have z0 := keepc o6 z0; have z1 := keepc o6 z1; have z2 := keepc o6 z2; have z3 := keepc o6 z3; have z4 := keepc o6 z4
    have HO6 := Lib.hid (HOB.out.trans o6)
    clear c0 c1' c2 d0 d1 d2 d3 d4 o6 HV'
    go_wp2_with fail
    refine HV6.out.mono ?_
    rintro e w7 ⟨rfl, o7⟩
    have HO7 := Lib.hid (HO6.out.trans o7)
    clear z0 z1 z2 z3 z4 o7
    go_wp2_with fail
    go_ret
    rw [← HR.out]; simp only [← cat_list]
    exact ⟨rfl, HO7.out⟩
end Go.Proofs.YtgephneppgcnlaaDoor
namespace Go.Proofs.YtgephneppgcnlaaDoor
open Go Go.RowKit
set_option linter.unusedVariables false
set_option linter.unusedSimpArgs false

def parB (name : List UInt8) (l : List (List It)) (i : Nat) : List UInt8 := name ++ (if i = 0 then [] else [40] ++ ren (sepI gapI (l.take i)))
theorem parB_next (name : List UInt8) (l : List (List It)) (i : Nat) (h : i < l.length) : parB name l (i + 1) = parB name l i ++ (if i = 0 then [40] else [44, 32]) ++ ren l[i] := by
  unfold parB
  rw [if_neg (by omega), sep_next gapI l i h]
  by_cases h0 : i = 0
  · subst h0; rw [sep_zero]; simp
  · rw [if_pos (by omega), if_neg h0, if_neg h0, gap_ren]; simp
theorem parB_end (name : List UInt8) (l : List (List It)) : name ++ ren (parI l) = parB name l l.length ++ (if 0 < l.length then [41] else []) := by
  unfold parB parI
  cases l with
  | nil => simp [ren]
  | cons a l =>
    rw [if_neg (by simp), if_neg (by simp), if_pos (by simp), List.take_length, ren_cons, ren_app]
    simp [ren, It.src, sgI]
theorem parB_le (name : List UInt8) (l : List (List It)) (i : Nat) (hi : i ≤ l.length) : (parB name l i).length ≤ (name ++ ren (parI l)).length := by
  rw [parB_end]
  unfold parB
  by_cases h0 : i = 0
  · rw [if_pos h0]; simp only [List.length_append, List.length_nil]; omega
  · rw [if_neg h0]
    cases l with
    | nil => simp at hi; omega
    | cons a l =>
      have := sep_le gapI (a :: l) i
      rw [if_neg (by simp), List.take_length]
      simp only [List.length_append, List.length_cons, List.length_nil] at this ⊢
      omega
def PrF (f : FD) : Prop := ∀ (G : Nat → Prop) (w : World) (cs : List Value), CellsAt w G (fdC f) cs → (ren (fdI f)).length ≤ 1000000000000 →
    Calls Tryd.prog 39 #[.agg cs.toArray] w (fun e w' => e = .returned (.string ⟨(ren (fdI f)).toArray⟩) ∧ Only (fun _ => False) w w')
theorem of_ren (i : IN) : ren (fdI (FD.of i)) = ren (inI i) := by simp [fdI, FD.of, parI, inI]
set_option maxRecDepth 100000 in
set_option maxHeartbeats 16000000 in
theorem prF_of (f : FD) (hw : f.has = true → WellV f.v) (ih : ∀ i ∈ f.args, PrF (FD.of i)) : PrF f := by
  intro G w cs h hl
  obtain ⟨gv, ts, us, rfl, hg, ht, hu⟩ := fd_cells h
  obtain ⟨ag, cg, rfl, k1, k2, k3⟩ := rows_at hg
  obtain ⟨L, hL⟩ : ∃ L, f.args.length = L := ⟨_, rfl⟩
  obtain ⟨its, hits⟩ : ∃ l, f.args.map inI = l := ⟨_, rfl⟩
  have hil : its.length = L := by rw [← hits, List.length_map, hL]
  have hig : ∀ i (h : i < f.args.length) (h' : i < its.length), ren its[i] = ren (fdI (FD.of f.args[i])) := fun i h h' => by subst hits; rw [of_ren, List.getElem_map]
  have hfr : ren (fdI f) = inpB (f.name ++ ren (parI its)) f.t f.has f.v := by
    unfold fdI; rw [inp_ren, ren_cons, hits]; rfl
  obtain ⟨R, hR⟩ : ∃ R, ren (fdI f) = R := ⟨_, rfl⟩
  rw [hR] at hl hfr ⊢
  have hpl : (f.name ++ ren (parI its)).length ≤ 1000000000000 := by
    rw [hfr] at hl; unfold inpB at hl
    simp only [List.length_append] at hl ⊢; omega
  have hin := fun (wx : World) (ox : Only (fun _ => False) w wx) => prI_any (f.name ++ ren (parI its)) f.t f.has f.v hw G wx ts us (CellsAt.only ox (fun _ _ h => h) _ _ ht) (CellsAt.only ox (fun _ _ h => h) _ _ hu) (by rw [← hfr]; exact hl)
  obtain ⟨s1, a1, l1, e1, b1, rfl⟩ := trC_form2 ht
  obtain ⟨k, n, s2, a2, l2, e2, a3, l3, e3, rfl⟩ := valC_form2 hu
  rw [← hfr] at hin
  rw [hL] at k1 ⊢
  have HL := Lib.hid hL; have HK := Lib.hid k3; have HIG := Lib.hid hig; have HIL := Lib.hid hil; have IH := Lib.hid ih; have HPL := Lib.hid hpl
  generalize f.name = nm at *
  generalize f.has = has at *
  simp only [List.cons_append, List.nil_append] at hin ⊢
  obtain ⟨wb, hwb⟩ : ∃ wb, w.alloc (.cells #[.string ⟨nm.toArray⟩, .slice ag L cg, .string ⟨s1.toArray⟩, .slice a1 l1 e1, .bool b1, .bool has, .int .u8 (k : Int), .int .i64 n, .string ⟨s2.toArray⟩, .slice a2 l2 e2, .slice a3 l3 e3] 93) = wb := ⟨_, rfl⟩
  have ob : Only (fun _ => False) w wb := by rw [← hwb]; exact (Only.refl _ w).alloc _
  obtain ⟨bA, hbA⟩ : ∃ b, w.heap.size = b := ⟨_, rfl⟩
  have hx1 : wb.heap[bA]? = some (.cells #[.string ⟨nm.toArray⟩, .slice ag L cg, .string ⟨s1.toArray⟩, .slice a1 l1 e1, .bool b1, .bool has, .int .u8 (k : Int), .int .i64 n, .string ⟨s2.toArray⟩, .slice a2 l2 e2, .slice a3 l3 e3] 93 (0, 0)) := by rw [← hwb, ← hbA]; exact heap_new w _
  obtain ⟨c0, c1, c2, c3, c4, c5, c6, c7, c8, c9, c10, -⟩ := boxN11 hx1
  have HC := Lib.hid (And.intro (c0) (And.intro (c1) (And.intro (c2) (And.intro (c3) (And.intro (c4) (And.intro (c5) (And.intro (c6) (And.intro (c7) (And.intro (c8) (And.intro (c9) (c10)))))))))))
  have HOB := Lib.hid ob; have HWB := Lib.hid hwb; have HBA := Lib.hid hbA; have HIN := Lib.hid hin; have HFR := Lib.hid hfr; have HEND := Lib.hid (parB_end nm its)
  clear hx1 ob hwb hbA h hg ht hu hin hL k3 hig hil ih hits hw hl hR hfr hpl
  go_enter Tryd.func39, Tryd.ntmps39
  go_upto_region 1 with (fail)
  rw [HWB.out, HBA.out]
  go_wp2_with fail
  clear c0 c1 c2 c3 c4 c5 c6 c7 c8 c9 c10
  go_loopw [3, 4] (fun x y wr => ∃ i : Nat, y = .int .i64 (i : Int) ∧ i ≤ L ∧ x = .string ⟨(parB nm its i).toArray⟩ ∧ Hid (Only (fun _ => False) wb wr)) (fun _ y _ => L - (intOf y).toNat)
  case atStart => exact ⟨0, rfl, by omega, by unfold parB; rw [if_pos rfl, List.append_nil], Lib.hid (Only.refl _ _)⟩
  case round =>
    obtain ⟨i, rfl, hi, rfl, HO⟩ := hrel
    obtain ⟨c0, c1, c2, c3, c4, c5, c6, c7, c8, c9, c10⟩ := HC.out
    have c0 := keepc HO.out c0; have c1 := keepc HO.out c1; have c2 := keepc HO.out c2; have c3 := keepc HO.out c3; have c4 := keepc HO.out c4; have c5 := keepc HO.out c5; have c6 := keepc HO.out c6; have c7 := keepc HO.out c7; have c8 := keepc HO.out c8; have c9 := keepc HO.out c9; have c10 := keepc HO.out c10
    have hal := Nat.le_trans (parB_le nm its i (by rw [HIL.out]; omega)) HPL.out
    by_cases hlt : i < L
    · have t1 : decide ((i : Int) < (L : Int)) = true := decide_eq_true (by omega)
      have hi0 : (0 : Int) ≤ (i : Int) := by omega
      have hi1 : (i : Int) < (L : Int) := by omega
      have hvi : i < f.args.length := by rw [HL.out]; exact hlt
      have hii : i < its.length := by rw [HIL.out]; exact hlt
      have hnx := parB_next nm its i hii
      have hnl := Nat.le_trans (parB_le nm its (i + 1) (by rw [HIL.out]; omega)) HPL.out
      rw [HIG.out i hvi hii] at hnx
      rw [hnx] at hnl
      simp only [List.length_append] at hnl
      obtain ⟨gv, ov, xs, rfl, -, hr, hc⟩ := HK.out i hvi
      have hc : CellsAt w G (fdC (FD.of f.args[i])) xs := hc
      have hrl : (ren (fdI (FD.of f.args[i]))).length ≤ 1000000000000 := by omega
      have hrec := IH.out f.args[i] (List.getElem_mem hvi) G wr xs (CellsAt.only (HOB.out.trans HO.out) (fun _ _ h => h) _ _ hc) hrl
      obtain ⟨m0', g', lg', eg', s1', a1', l1', e1', b1', h1', k', n', s2', a2', l2', e2', a3', l3', e3', he⟩ := fdC_form hc
      rw [he] at hrec
      have hxs : xs = (#[.string ⟨m0'.toArray⟩, .slice g' lg' eg', .string ⟨s1'.toArray⟩, .slice a1' l1' e1', .bool b1', .bool h1', .int .u8 (k' : Int), .int .i64 n', .string ⟨s2'.toArray⟩, .slice a2' l2' e2', .slice a3' l3' e3'] : Array Value).toList := by rw [← he]
      rw [hxs] at hr
      obtain ⟨y0, y1, y2, y3, y4, y5, y6, y7, y8, y9, y10⟩ := cells11_of hr
      have y0 := keepc (HOB.out.trans HO.out) y0; have y1 := keepc (HOB.out.trans HO.out) y1; have y2 := keepc (HOB.out.trans HO.out) y2; have y3 := keepc (HOB.out.trans HO.out) y3; have y4 := keepc (HOB.out.trans HO.out) y4; have y5 := keepc (HOB.out.trans HO.out) y5; have y6 := keepc (HOB.out.trans HO.out) y6; have y7 := keepc (HOB.out.trans HO.out) y7; have y8 := keepc (HOB.out.trans HO.out) y8; have y9 := keepc (HOB.out.trans HO.out) y9; have y10 := keepc (HOB.out.trans HO.out) y10
      have HREC := Lib.hid hrec
      obtain ⟨acc, hacc⟩ : ∃ a, parB nm its i = a := ⟨_, rfl⟩
      obtain ⟨acc', hacc'⟩ : ∃ a, parB nm its (i + 1) = a := ⟨_, rfl⟩
      have HA' := Lib.hid hacc'
      rw [hacc] at hal hnx hnl ⊢
      rw [hacc'] at hnx
      obtain ⟨rv, hrv⟩ : ∃ r, ren (fdI (FD.of f.args[i])) = r := ⟨_, rfl⟩
      rw [hrv] at hnx hrl HREC
      have HNX := Lib.hid hnx
      clear hacc hacc' hrv hnx hnl hrec he hxs hr hc
      by_cases hz : i = 0
      · have t2 : ((i : Int) == 0) = true := by simp; omega
        rw [if_pos hz] at HNX
        have HZ := Lib.hid hz
        clear hz c0 c2 c3 c4 c5 c6 c7 c8 c9 c10
        go_wp2_with fail
        refine HREC.out.mono ?_
        rintro e w6 ⟨rfl, o6⟩
        have HO6 := Lib.hid (HO.out.trans o6)
        clear o6 c1 y0 y1 y2 y3 y4 y5 y6 y7 y8 y9 y10
        go_wp2_with fail
        go_roundw
        case rel => exact ⟨i + 1, by simp, by omega, by rw [HA'.out, HNX.out]; simp only [← cat_list], HO6⟩
        case measure => simp [intOf]; omega
      · have t2 : ((i : Int) == 0) = false := by simp; omega
        rw [if_neg hz] at HNX
        clear hz c0 c2 c3 c4 c5 c6 c7 c8 c9 c10
        go_wp2_with fail
        refine HREC.out.mono ?_
        rintro e w6 ⟨rfl, o6⟩
        have HO6 := Lib.hid (HO.out.trans o6)
        clear o6 c1 y0 y1 y2 y3 y4 y5 y6 y7 y8 y9 y10
        go_wp2_with fail
        go_roundw
        case rel => exact ⟨i + 1, by simp, by omega, by rw [HA'.out, HNX.out]; simp only [← cat_list], HO6⟩
        case measure => simp [intOf]; omega
    · have t1 : decide ((i : Int) < (L : Int)) = false := decide_eq_false (by omega)
      have hke : i = L := by omega
      subst hke
      have hend := HEND.out
      rw [HIL.out] at hend
      have HI := Lib.hid (HIN.out wr (HOB.out.trans HO.out))
      have HBX := Lib.hid (HOB.out.trans HO.out)
      generalize parB nm its i = acc at *
      by_cases hz : 0 < i
      · have t2 : decide ((i : Int) > 0) = true := decide_eq_true (by omega)
        rw [if_pos hz] at hend
        have hs : (⟨acc.toArray⟩ : ByteArray) ++ ⟨#[41]⟩ = ⟨(nm ++ ren (parI its)).toArray⟩ := by rw [hend, ← cat_list]
        rw [← hs] at HI
        clear hend hs
        go_wp2_with fail
        refine HI.out.mono ?_
        rintro e w7 ⟨rfl, o7⟩
        have HO7 := Lib.hid (HBX.out.trans o7)
        clear o7 c0 c1 c2 c3 c4 c5 c6 c7 c8 c9 c10
        go_wp2_with fail
        go_ret
        exact ⟨rfl, HO7.out⟩
      · have t2 : decide ((i : Int) > 0) = false := decide_eq_false (by omega)
        rw [if_neg hz, List.append_nil] at hend
        rw [hend] at HI
        clear hend
        go_wp2_with fail
        refine HI.out.mono ?_
        rintro e w7 ⟨rfl, o7⟩
        have HO7 := Lib.hid (HBX.out.trans o7)
        clear o7 c0 c1 c2 c3 c4 c5 c6 c7 c8 c9 c10
        go_wp2_with fail
        go_ret
        exact ⟨rfl, HO7.out⟩
/-- A field whose values are whole. -/
def WellF (f : FD) : Prop := (f.has = true → WellV f.v) ∧ ∀ i ∈ f.args, i.has = true → WellV i.v
theorem prF_any (f : FD) (h : WellF f) : PrF f := prF_of f h.1 fun i hi => prF_of (FD.of i) (h.2 i hi) fun j hj => by cases hj
end Go.Proofs.YtgephneppgcnlaaDoor
