/- What is printed, in plain Lean: pieces (tokens, and blanks between), and that the text of pieces is read as the tokens that they are. What is printed, in plain Lean: values, types, selections, documents, declarations as pieces; what the lexer reads again. -/
import Derived.Test.YtnkpoddbbdmipaaGreatDoorNaSdP
import Derived.Test.YtnkpoddbbdmipaaGreatDoorNaPrB
namespace Go.Proofs.YtnkpoddbbdmipaaGreatDoor
set_option linter.unusedVariables false
set_option linter.unusedSimpArgs false

/-- The digits of a number. -/
def digS (n : Nat) : List UInt8 := if h : n < 10 then [UInt8.ofNat (48 + n)] else digS (n / 10) ++ [UInt8.ofNat (48 + n % 10)]
termination_by n
def numS (n : Int) : List UInt8 := sgn (decide (n < 0)) (digS n.natAbs)
/-- A text as it is written between quotes. -/
def esc1 (c : UInt8) : List UInt8 := if c.toNat = 10 then [92, 110] else if c.toNat = 9 then [92, 116] else if c.toNat = 34 ∨ c.toNat = 92 then [92, c] else [c]
def escS (s : List UInt8) : List UInt8 := s.flatMap esc1
def quoS (s : List UInt8) : List UInt8 := 34 :: (escS s ++ [34])
inductive It where
  | tk (k : Nat) (src t : List UInt8) (n : Int)
  | sp (c : UInt8)
def It.src : It → List UInt8
  | .tk _ s _ _ => s
  | .sp c => [c]
def ren (l : List It) : List UInt8 := l.flatMap It.src
theorem ren_nil : ren [] = [] := rfl
theorem ren_cons (i : It) (l : List It) : ren (i :: l) = i.src ++ ren l := by unfold ren; rw [List.flatMap_cons]
theorem ren_app (a b : List It) : ren (a ++ b) = ren a ++ ren b := by unfold ren; rw [List.flatMap_append]
def nmI (s : List UInt8) : It := .tk 1 s s 0
def nuI (n : Int) : It := .tk 2 (numS n) (numS n) n
def quI (s : List UInt8) : It := .tk 3 (quoS s) s 0
def sgI (c : UInt8) : It := .tk 4 [c] [c] 0
def doI : It := .tk 4 [46, 46, 46] [46, 46, 46] 0
/-- A name that the lexer reads. -/
structure NameOk (s : List UInt8) : Prop where
  first : ∃ c l, s = c :: l ∧ letB c = true
  all : ∀ c ∈ s, ldB c = true
  len : s.length ≤ 32
/-- A piece is read as it is, where x follows. -/
def OkIt : It → List UInt8 → Prop
  | .tk k s t n, x => ∃ c l, s = c :: l ∧ blkB c = false ∧ c.toNat ≠ 35 ∧ oneP (s ++ x) = .ok k t n s.length
  | .sp c, _ => blkB c = true
def OkF : List It → List UInt8 → Prop
  | [], _ => True
  | i :: l, x => OkIt i (ren l ++ x) ∧ OkF l x
theorem OkF.app : ∀ {a b : List It} {x : List UInt8}, OkF a (ren b ++ x) → OkF b x → OkF (a ++ b) x
  | [], _, _, _, h => h
  | i :: a, b, x, h1, h2 => ⟨by show OkIt i (ren (a ++ b) ++ x); rw [ren_app, List.append_assoc]; exact h1.1, OkF.app h1.2 h2⟩
/-- Alike but for places. -/
def LikeP : List Tok → List Tok → Prop
  | [], [] => True
  | t :: r, u :: q => (t.kind = u.kind ∧ t.text = u.text ∧ t.n = u.n) ∧ LikeP r q
  | _, _ => False
/-- No letter, no digit, no point stands first. -/
def Sep (x : List UInt8) : Prop := ∀ g r, x = g :: r → ldB g = false ∧ g.toNat ≠ 46
theorem Sep.nil : Sep [] := fun _ _ h => by cases h
theorem Sep.cons {g : UInt8} (r : List UInt8) (h1 : ldB g = false) (h2 : g.toNat ≠ 46) : Sep (g :: r) := fun _ _ h => by injection h with h _; subst h; exact ⟨h1, h2⟩
theorem letter_misc {c : UInt8} (h : letB c = true) : blkB c = false ∧ c.toNat ≠ 35 := by
  unfold letB at h
  unfold blkB
  simp only [Bool.or_eq_true, Bool.and_eq_true, decide_eq_true_eq] at h
  simp only [Bool.or_eq_false_iff, decide_eq_false_iff_not]
  omega
theorem ok_nm {s x : List UInt8} (h : NameOk s) (hx : Sep x) : OkIt (nmI s) x := by
  obtain ⟨c, l, rfl, hc⟩ := h.first
  refine ⟨c, l, rfl, (letter_misc hc).1, (letter_misc hc).2, ?_⟩
  have hrun : runL ldB ((c :: l) ++ x) = (c :: l).length := by
    rw [runL_cut _ _ (.inr fun hr => ?_), runL_full _ h.all]
    cases x with
    | nil => simp at hr
    | cons g r => exact (hx g r rfl).1
  show oneP (c :: (l ++ x)) = _
  rw [oneP_cons, if_pos hc]
  have e : c :: (l ++ x) = (c :: l) ++ x := rfl
  rw [e, hrun, if_neg (by have := h.len; omega), List.take_left]
/-- A number that the lexer reads. -/
def NumOk (n : Int) : Prop := n.natAbs < 1000000000000000000
end Go.Proofs.YtnkpoddbbdmipaaGreatDoor
namespace Go.Proofs.YtnkpoddbbdmipaaGreatDoor
set_option linter.unusedVariables false
set_option linter.unusedSimpArgs false

def gapI : List It := [.sp 44, .sp 32]
/-- Parts with something between. -/
def sepI (g : List It) : List (List It) → List It
  | [] => []
  | a :: l => a ++ l.flatMap (fun b => g ++ b)
theorem sepI_snoc (g : List It) (l : List (List It)) (b : List It) : sepI g (l ++ [b]) = if l = [] then b else sepI g l ++ g ++ b := by
  cases l with
  | nil => show b ++ [] = b; exact List.append_nil b
  | cons a l =>
    rw [if_neg (by simp)]
    show a ++ (l ++ [b]).flatMap (fun b => g ++ b) = a ++ l.flatMap (fun b => g ++ b) ++ g ++ b
    rw [List.flatMap_append]; simp
def pairI (k : List UInt8) (l : List It) : List It := nmI k :: sgI 58 :: .sp 32 :: l
mutual
def valI : VT → List It
  | .mk k n s ks vs =>
    if k = 1 then [nuI n] else if k = 2 ∨ k = 8 then [quI s] else if k = 3 then [nmI (if n = 1 then wTrue else wFalse)] else if k = 4 then [nmI s] else if k = 7 then [sgI 36, nmI s]
    else if k = 5 then sgI 91 :: (sepI gapI (valsI vs) ++ [sgI 93])
    else if k = 6 then sgI 123 :: (sepI gapI (List.zipWith pairI ks (valsI vs)) ++ [sgI 125])
    else [nmI wNull]
def valsI : List VT → List (List It)
  | [] => []
  | v :: vs => valI v :: valsI vs
end
theorem valsI_map : ∀ vs, valsI vs = vs.map valI
  | [] => by rw [valsI]; rfl
  | v :: vs => by rw [valsI, valsI_map vs]; rfl
theorem valI_eq (k : Nat) (n : Int) (s : List UInt8) (ks : List (List UInt8)) (vs : List VT) : valI (.mk k n s ks vs) =
    if k = 1 then [nuI n] else if k = 2 ∨ k = 8 then [quI s] else if k = 3 then [nmI (if n = 1 then wTrue else wFalse)] else if k = 4 then [nmI s] else if k = 7 then [sgI 36, nmI s]
    else if k = 5 then sgI 91 :: (sepI gapI (vs.map valI) ++ [sgI 93])
    else if k = 6 then sgI 123 :: (sepI gapI (List.zipWith pairI ks (vs.map valI)) ++ [sgI 125])
    else [nmI wNull] := by rw [valI, valsI_map]
def bangI (b : Bool) : List It := if b then [sgI 33] else []
def typI : TR → List It
  | .nm s b => nmI s :: bangI b
  | .ls t b => sgI 91 :: (typI t ++ sgI 93 :: bangI b)
/-- Things in brackets, if there are any. -/
def parI (l : List (List It)) : List It := if l = [] then [] else sgI 40 :: (sepI gapI l ++ [sgI 41])
def argI (a : AR) : List It := pairI a.name (valI a.v)
def argsI (l : List AR) : List It := parI (l.map argI)
def dirI (d : DR) : List It := .sp 32 :: sgI 64 :: nmI d.name :: argsI d.args
def brI (l : List It) : List It := .sp 32 :: sgI 123 :: (l ++ [.sp 32, sgI 125])
def headI (k : Nat) (al name on_ : List UInt8) (args : List AR) : List It :=
  if k = 1 then (if al = [] then [] else [nmI al, sgI 58, .sp 32]) ++ nmI name :: argsI args
  else if k = 2 then [doI, nmI name]
  else doI :: (if on_ = [] then [] else [.sp 32, nmI wOn, .sp 32, nmI on_])
mutual
def selI : SL → List It
  | .mk k al name on_ args dirs sub => headI k al name on_ args ++ dirs.flatMap dirI ++ (if sub = [] then [] else brI (selsI sub))
def selsI : List SL → List It
  | [] => []
  | x :: l => .sp 32 :: (selI x ++ selsI l)
end
theorem selsI_map : ∀ l, selsI l = l.flatMap fun x => .sp 32 :: selI x
  | [] => by rw [selsI]; rfl
  | x :: l => by rw [selsI, selsI_map l]; rfl
def setI (l : List SL) : List It := brI (selsI l)
theorem selI_eq (k : Nat) (al name on_ : List UInt8) (args : List AR) (dirs : List DR) (sub : List SL) : selI (.mk k al name on_ args dirs sub) = headI k al name on_ args ++ dirs.flatMap dirI ++ (if sub = [] then [] else setI sub) := by rw [selI]; rfl
def inpI (n : List It) (t : TR) (has : Bool) (v : VT) : List It := n ++ sgI 58 :: .sp 32 :: (typI t ++ (if has then .sp 32 :: sgI 61 :: .sp 32 :: valI v else []))
def varI (v : VD) : List It := sgI 36 :: inpI [nmI v.name] v.t v.has v.v
def opI (o : OP) : List It := nmI (if o.mut_ then wMutation else wQuery) :: ((if o.name = [] then [] else [.sp 32, nmI o.name]) ++ parI (o.vars.map varI) ++ setI o.sub)
def frI (f : FR) : List It := nmI wFragment :: .sp 32 :: nmI f.name :: .sp 32 :: nmI wOn :: .sp 32 :: nmI f.on_ :: setI f.sub
def docI (d : DC) : List It := sepI [.sp 32] (d.ops.map opI ++ d.frags.map frI)
/-! ### What the lexer reads again -/
def OkS (l : List It) : Prop := ∀ x, Sep x → OkF l x
def SepI (l : List It) : Prop := ∀ x, Sep x → Sep (ren l ++ x)
theorem SepI.nil : SepI [] := fun _ h => h
theorem SepI.sp {c : UInt8} {l : List It} (h : blkB c = true) : SepI (.sp c :: l) := fun x _ => by
  rw [ren_cons]
  show Sep (c :: (ren l ++ x))
  unfold blkB at h
  simp only [Bool.or_eq_true, decide_eq_true_eq] at h
  refine Sep.cons _ ?_ (by omega)
  unfold ldB letB digB
  simp only [Bool.or_eq_false_iff, Bool.and_eq_false_iff, decide_eq_false_iff_not]
  omega
theorem SepI.app {a b : List It} (ha : SepI a) (hb : SepI b) : SepI (a ++ b) := fun x hx => by rw [ren_app, List.append_assoc]; exact ha _ (hb x hx)
theorem OkS.nil : OkS [] := fun _ _ => trivial
theorem OkS.sp {c : UInt8} {l : List It} (h : blkB c = true) (hl : OkS l) : OkS (.sp c :: l) := fun x hx => ⟨h, hl x hx⟩
theorem OkS.nm {s : List UInt8} {l : List It} (h : NameOk s) (hl : OkS l) (hs : SepI l) : OkS (nmI s :: l) := fun x hx => ⟨ok_nm h (hs x hx), hl x hx⟩
theorem OkS.app {a b : List It} (ha : OkS a) (hb : OkS b) (hs : SepI b) : OkS (a ++ b) := fun x hx => OkF.app (ha _ (hs x hx)) (hb x hx)
theorem OkS.flat {α : Type} {f : α → List It} : ∀ {l : List α}, (∀ x ∈ l, OkS (f x) ∧ SepI (f x)) → OkS (l.flatMap f) ∧ SepI (l.flatMap f)
  | [], _ => ⟨OkS.nil, SepI.nil⟩
  | x :: l, h => by
    have h1 := h x (by simp)
    have h2 := OkS.flat (l := l) (fun y hy => h y (by simp [hy]))
    rw [List.flatMap_cons]
    exact ⟨h1.1.app h2.1 h2.2, h1.2.app h2.2⟩
/-- Parts with blanks between. -/
theorem OkS.sep {g : List It} {l : List (List It)} (hg : ∀ b, OkS b → OkS (g ++ b)) (hs : ∀ b, SepI (g ++ b)) (h : ∀ b ∈ l, OkS b) : OkS (sepI g l) := by
  cases l with
  | nil => exact OkS.nil
  | cons a l =>
    have h2 := OkS.flat (f := fun b => g ++ b) (l := l) (fun b hb => ⟨hg b (h b (by simp [hb])), hs b⟩)
    exact (h a (by simp)).app h2.1 h2.2
theorem OkS.gap {l : List (List It)} (h : ∀ b ∈ l, OkS b) : OkS (sepI gapI l) := OkS.sep (fun b hb => OkS.sp (by decide) (OkS.sp (by decide) hb)) (fun b => SepI.sp (by decide)) h
/-! ### What was read -/
theorem name_sign {s : List UInt8} (h : NameOk s) {c : UInt8} {l : List UInt8} (hc : letB c = false) : s ≠ c :: l := by
  obtain ⟨d, m, rfl, hd⟩ := h.first
  intro e
  injection e with e _
  rw [e, hc] at hd; cases hd
def GoodV (fx : Bool) : Nat → VT → Prop
  | 0, _ => False
  | d + 1, .mk k n s ks vs =>
    (k = 1 ∧ NumOk n ∧ s = [] ∧ ks = [] ∧ vs = []) ∨ (k = 2 ∧ n = 0 ∧ s.length ≤ 200 ∧ ks = [] ∧ vs = []) ∨ (k = 3 ∧ (n = 0 ∨ n = 1) ∧ s = [] ∧ ks = [] ∧ vs = []) ∨ (k = 0 ∧ n = 0 ∧ s = [] ∧ ks = [] ∧ vs = []) ∨
    (k = 4 ∧ n = 0 ∧ NameOk s ∧ s ≠ wTrue ∧ s ≠ wFalse ∧ s ≠ wNull ∧ ks = [] ∧ vs = []) ∨ (k = 7 ∧ fx = false ∧ n = 0 ∧ NameOk s ∧ ks = [] ∧ vs = []) ∨
    (k = 5 ∧ n = 0 ∧ s = [] ∧ ks = [] ∧ ∀ v ∈ vs, GoodV fx d v) ∨ (k = 6 ∧ n = 0 ∧ s = [] ∧ ∃ ps : List (List UInt8 × VT), ks = ps.map (·.1) ∧ vs = ps.map (·.2) ∧ ∀ p ∈ ps, NameOk p.1 ∧ GoodV fx d p.2)
def GoodT : Nat → TR → Prop
  | 0, _ => False
  | _ + 1, .nm s _ => NameOk s
  | d + 1, .ls t _ => GoodT d t
def GoodA (d : Nat) (a : AR) : Prop := NameOk a.name ∧ GoodV false d a.v
def GoodD (d : Nat) (x : DR) : Prop := NameOk x.name ∧ ∀ a ∈ x.args, GoodA d a
def GoodSel (d : Nat) (G : List SL → Prop) : SL → Prop
  | .mk k al name on_ args dirs sub => (∀ x ∈ dirs, GoodD d x) ∧
    ((k = 1 ∧ on_ = [] ∧ (al = [] ∨ NameOk al) ∧ NameOk name ∧ (∀ a ∈ args, GoodA d a) ∧ (sub = [] ∨ G sub)) ∨
     (k = 2 ∧ al = [] ∧ on_ = [] ∧ NameOk name ∧ name ≠ wOn ∧ args = [] ∧ sub = []) ∨
     (k = 3 ∧ al = [] ∧ name = [] ∧ (on_ = [] ∨ NameOk on_) ∧ args = [] ∧ G sub))
def GoodS : Nat → List SL → Prop
  | 0, _ => False
  | d + 1, l => l ≠ [] ∧ ∀ x ∈ l, GoodSel d (GoodS d) x
def GoodI (n : List UInt8) (t : TR) (has : Bool) (v : VT) : Prop := NameOk n ∧ GoodT 24 t ∧ (has = true ∧ GoodV true 24 v ∨ has = false ∧ v = VT.zero)
def GoodO (o : OP) : Prop := (o.name = [] ∨ NameOk o.name) ∧ (∀ v ∈ o.vars, GoodI v.name v.t v.has v.v) ∧ GoodS 24 o.sub
def GoodF (f : FR) : Prop := NameOk f.name ∧ f.name ≠ wOn ∧ NameOk f.on_ ∧ GoodS 24 f.sub
def GoodDoc (d : DC) : Prop := (∀ o ∈ d.ops, GoodO o) ∧ ∀ f ∈ d.frags, GoodF f
end Go.Proofs.YtnkpoddbbdmipaaGreatDoor
