/- . -/
import Derived.Test.YtnkpoddbbdmipaaGreatDoorTApPnt
namespace Go.Proofs.YtnkpoddbbdmipaaGreatDoor
set_option linter.unusedVariables false
set_option linter.unusedSimpArgs false
def gapI : List It := [.sp 44, .sp 32]
def sepI (g : List It) : List (List It) → List It
 | [] => []
 | a :: l => a ++ l.flatMap (fun b => g ++ b)
theorem sepI_snoc (g : List It) (l : List (List It)) (b : List It) : sepI g (l ++ [b]) = if l = [] then b else sepI g l ++ g ++ b := by
 cases l with
 | nil => show b ++ [] = b; exact List.append_nil b
 | cons a l =>
  rw [if_neg (by simp)]
  show a ++ (l ++ [b]).flatMap (fun b => g ++ b) = a ++ l.flatMap (fun b => g ++ b) ++ g ++ b
  rw [List.flatMap_append]; simp
def pairI (k : List UInt8) (l : List It) : List It := nmI k :: sgI 58 :: .sp 32 :: l
mutual
def valI : VT → List It
 | .mk k n s ks vs =>
  if k = 1 then [nuI n] else if k = 2 ∨ k = 8 then [quI s] else if k = 3 then [nmI (if n = 1 then wTrue else wFalse)] else if k = 4 then [nmI s] else if k = 7 then [sgI 36, nmI s]
  else if k = 5 then sgI 91 :: (sepI gapI (valsI vs) ++ [sgI 93])
  else if k = 6 then sgI 123 :: (sepI gapI (List.zipWith pairI ks (valsI vs)) ++ [sgI 125])
  else [nmI wNull]
def valsI : List VT → List (List It)
 | [] => []
 | v :: vs => valI v :: valsI vs
end
theorem valsI_map : ∀ vs, valsI vs = vs.map valI
 | [] => by rw [valsI]; rfl
 | v :: vs => by rw [valsI, valsI_map vs]; rfl
theorem valI_eq (k : Nat) (n : Int) (s : List UInt8) (ks : List (List UInt8)) (vs : List VT) : valI (.mk k n s ks vs) =
  if k = 1 then [nuI n] else if k = 2 ∨ k = 8 then [quI s] else if k = 3 then [nmI (if n = 1 then wTrue else wFalse)] else if k = 4 then [nmI s] else if k = 7 then [sgI 36, nmI s]
  else if k = 5 then sgI 91 :: (sepI gapI (vs.map valI) ++ [sgI 93])
  else if k = 6 then sgI 123 :: (sepI gapI (List.zipWith pairI ks (vs.map valI)) ++ [sgI 125])
  else [nmI wNull] := by rw [valI, valsI_map]
def bangI (b : Bool) : List It := if b then [sgI 33] else []
def typI : TR → List It
 | .nm s b => nmI s :: bangI b
 | .ls t b => sgI 91 :: (typI t ++ sgI 93 :: bangI b)
def parI (l : List (List It)) : List It := if l = [] then [] else sgI 40 :: (sepI gapI l ++ [sgI 41])
def argI (a : AR) : List It := pairI a.name (valI a.v)
def argsI (l : List AR) : List It := parI (l.map argI)
def dirI (d : DR) : List It := .sp 32 :: sgI 64 :: nmI d.name :: argsI d.args
def brI (l : List It) : List It := .sp 32 :: sgI 123 :: (l ++ [.sp 32, sgI 125])
def headI (k : Nat) (al name on_ : List UInt8) (args : List AR) : List It :=
 if k = 1 then (if al = [] then [] else [nmI al, sgI 58, .sp 32]) ++ nmI name :: argsI args
 else if k = 2 then [doI, nmI name]
 else doI :: (if on_ = [] then [] else [.sp 32, nmI wOn, .sp 32, nmI on_])
mutual
def selI : SL → List It
 | .mk k al name on_ args dirs sub => headI k al name on_ args ++ dirs.flatMap dirI ++ (if sub = [] then [] else brI (selsI sub))
def selsI : List SL → List It
 | [] => []
 | x :: l => .sp 32 :: (selI x ++ selsI l)
end
theorem selsI_map : ∀ l, selsI l = l.flatMap fun x => .sp 32 :: selI x
 | [] => by rw [selsI]; rfl
 | x :: l => by rw [selsI, selsI_map l]; rfl
def setI (l : List SL) : List It := brI (selsI l)
theorem selI_eq (k : Nat) (al name on_ : List UInt8) (args : List AR) (dirs : List DR) (sub : List SL) : selI (.mk k al name on_ args dirs sub) = headI k al name on_ args ++ dirs.flatMap dirI ++ (if sub = [] then [] else setI sub) := by rw [selI]; rfl
def inpI (n : List It) (t : TR) (has : Bool) (v : VT) : List It := n ++ sgI 58 :: .sp 32 :: (typI t ++ (if has then .sp 32 :: sgI 61 :: .sp 32 :: valI v else []))
def varI (v : VD) : List It := sgI 36 :: inpI [nmI v.name] v.t v.has v.v
def opI (o : OP) : List It := nmI (if o.mut_ then wMutation else wQuery) :: ((if o.name = [] then [] else [.sp 32, nmI o.name]) ++ parI (o.vars.map varI) ++ setI o.sub)
def frI (f : FR) : List It := nmI wFragment :: .sp 32 :: nmI f.name :: .sp 32 :: nmI wOn :: .sp 32 :: nmI f.on_ :: setI f.sub
def docI (d : DC) : List It := sepI [.sp 32] (d.ops.map opI ++ d.frags.map frI)
def OkS (l : List It) : Prop := ∀ x, Sep x → OkF l x
def SepI (l : List It) : Prop := ∀ x, Sep x → Sep (ren l ++ x)
theorem SepI.nil : SepI [] := fun _ h => h
theorem SepI.sp {c : UInt8} {l : List It} (h : blkB c = true) : SepI (.sp c :: l) := fun x _ => by
 rw [ren_cons]
 show Sep (c :: (ren l ++ x))
 unfold blkB at h; simp only [Bool.or_eq_true, decide_eq_true_eq] at h; refine Sep.cons _ ?_ (by omega)
 unfold ldB letB digB; simp only [Bool.or_eq_false_iff, Bool.and_eq_false_iff, decide_eq_false_iff_not]; omega
theorem SepI.sg {c : UInt8} {l : List It} (h : signB c = true) : SepI (sgI c :: l) := fun x _ => by
 rw [ren_cons]
 show Sep (c :: (ren l ++ x))
 have hm : c.toNat ∈ [33, 36, 40, 41, 58, 61, 64, 91, 93, 123, 124, 125, 38] := of_decide_eq_true h; have hx : c.toNat = 33 ∨ c.toNat = 36 ∨ c.toNat = 40 ∨ c.toNat = 41 ∨ c.toNat = 58 ∨ c.toNat = 61 ∨ c.toNat = 64 ∨ c.toNat = 91 ∨ c.toNat = 93 ∨ c.toNat = 123 ∨ c.toNat = 124 ∨ c.toNat = 125 ∨ c.toNat = 38 := by simpa using hm
 refine Sep.cons _ ?_ (by omega)
 unfold ldB letB digB; simp only [Bool.or_eq_false_iff, Bool.and_eq_false_iff, decide_eq_false_iff_not]; omega
theorem SepI.app {a b : List It} (ha : SepI a) (hb : SepI b) : SepI (a ++ b) := fun x hx => by rw [ren_app, List.append_assoc]; exact ha _ (hb x hx)
theorem OkS.nil : OkS [] := fun _ _ => trivial
theorem OkS.sp {c : UInt8} {l : List It} (h : blkB c = true) (hl : OkS l) : OkS (.sp c :: l) := fun x hx => ⟨h, hl x hx⟩
theorem OkS.sg {c : UInt8} {l : List It} (h : signB c = true) (hl : OkS l) : OkS (sgI c :: l) := fun x hx => ⟨ok_sg h, hl x hx⟩
theorem OkS.dots {l : List It} (hl : OkS l) : OkS (doI :: l) := fun x hx => ⟨ok_do, hl x hx⟩
theorem OkS.qu {s : List UInt8} {l : List It} (h : s.length ≤ 200) (hl : OkS l) : OkS (quI s :: l) := fun x hx => ⟨ok_qu h, hl x hx⟩
theorem OkS.nm {s : List UInt8} {l : List It} (h : NameOk s) (hl : OkS l) (hs : SepI l) : OkS (nmI s :: l) := fun x hx => ⟨ok_nm h (hs x hx), hl x hx⟩
theorem OkS.nu {n : Int} {l : List It} (h : NumOk n) (hl : OkS l) (hs : SepI l) : OkS (nuI n :: l) := fun x hx => ⟨ok_nu h (hs x hx), hl x hx⟩
theorem OkS.app {a b : List It} (ha : OkS a) (hb : OkS b) (hs : SepI b) : OkS (a ++ b) := fun x hx => OkF.app (ha _ (hs x hx)) (hb x hx)
theorem OkS.flat {α : Type} {f : α → List It} : ∀ {l : List α}, (∀ x ∈ l, OkS (f x) ∧ SepI (f x)) → OkS (l.flatMap f) ∧ SepI (l.flatMap f)
 | [], _ => ⟨OkS.nil, SepI.nil⟩
 | x :: l, h => by
  have h1 := h x (by simp); have h2 := OkS.flat (l := l) (fun y hy => h y (by simp [hy])); rw [List.flatMap_cons]; exact ⟨h1.1.app h2.1 h2.2, h1.2.app h2.2⟩
theorem OkS.sep {g : List It} {l : List (List It)} (hg : ∀ b, OkS b → OkS (g ++ b)) (hs : ∀ b, SepI (g ++ b)) (h : ∀ b ∈ l, OkS b) : OkS (sepI g l) := by
 cases l with
 | nil => exact OkS.nil
 | cons a l =>
  have h2 := OkS.flat (f := fun b => g ++ b) (l := l) (fun b hb => ⟨hg b (h b (by simp [hb])), hs b⟩); exact (h a (by simp)).app h2.1 h2.2
theorem OkS.gap {l : List (List It)} (h : ∀ b ∈ l, OkS b) : OkS (sepI gapI l) := OkS.sep (fun b hb => OkS.sp (by decide) (OkS.sp (by decide) hb)) (fun b => SepI.sp (by decide)) h
theorem OkS.blk {l : List (List It)} (h : ∀ b ∈ l, OkS b) : OkS (sepI [.sp 32] l) := OkS.sep (fun b hb => OkS.sp (by decide) hb) (fun b => SepI.sp (by decide)) h
theorem SepI.par (l : List (List It)) : SepI (parI l) := by
 unfold parI
 split
 ·exact SepI.nil
 ·exact SepI.sg (by decide)
theorem OkS.par {l : List (List It)} (h : ∀ b ∈ l, OkS b) : OkS (parI l) := by
 unfold parI
 split
 ·exact OkS.nil
 ·exact OkS.sg (by decide) ((OkS.gap h).app (OkS.sg (by decide) OkS.nil) (SepI.sg (by decide)))
theorem OkS.br {l : List It} (h : OkS l) : OkS (brI l) := OkS.sp (by decide) (OkS.sg (by decide) (h.app (OkS.sp (by decide) (OkS.sg (by decide) OkS.nil)) (SepI.sp (by decide))))
theorem SepI.br (l : List It) : SepI (brI l) := SepI.sp (by decide)
theorem nameOk_of {s : List UInt8} (h : (match s with | [] => false | c :: _ => letB c) && s.all ldB && decide (s.length ≤ 32) = true) : NameOk s := by
 simp only [Bool.and_eq_true, decide_eq_true_eq] at h; obtain ⟨⟨h1, h2⟩, h3⟩ := h
 cases s with
 | nil => cases h1
 | cons c l => exact ⟨⟨c, l, rfl, h1⟩, fun x hx => List.all_eq_true.1 h2 x hx, h3⟩
theorem name_sign {s : List UInt8} (h : NameOk s) {c : UInt8} {l : List UInt8} (hc : letB c = false) : s ≠ c :: l := by
 obtain ⟨d, m, rfl, hd⟩ := h.first; intro e
 injection e with e _
 rw [e, hc] at hd; cases hd
def GoodV (fx : Bool) : Nat → VT → Prop
 | 0, _ => False
 | d + 1, .mk k n s ks vs =>
  (k = 1 ∧ NumOk n ∧ s = [] ∧ ks = [] ∧ vs = []) ∨ (k = 2 ∧ n = 0 ∧ s.length ≤ 200 ∧ ks = [] ∧ vs = []) ∨ (k = 3 ∧ (n = 0 ∨ n = 1) ∧ s = [] ∧ ks = [] ∧ vs = []) ∨ (k = 0 ∧ n = 0 ∧ s = [] ∧ ks = [] ∧ vs = []) ∨
  (k = 4 ∧ n = 0 ∧ NameOk s ∧ s ≠ wTrue ∧ s ≠ wFalse ∧ s ≠ wNull ∧ ks = [] ∧ vs = []) ∨ (k = 7 ∧ fx = false ∧ n = 0 ∧ NameOk s ∧ ks = [] ∧ vs = []) ∨
  (k = 5 ∧ n = 0 ∧ s = [] ∧ ks = [] ∧ ∀ v ∈ vs, GoodV fx d v) ∨ (k = 6 ∧ n = 0 ∧ s = [] ∧ ∃ ps : List (List UInt8 × VT), ks = ps.map (·.1) ∧ vs = ps.map (·.2) ∧ ∀ p ∈ ps, NameOk p.1 ∧ GoodV fx d p.2)
def GoodT : Nat → TR → Prop
 | 0, _ => False
 | _ + 1, .nm s _ => NameOk s
 | d + 1, .ls t _ => GoodT d t
def GoodA (d : Nat) (a : AR) : Prop := NameOk a.name ∧ GoodV false d a.v
def GoodD (d : Nat) (x : DR) : Prop := NameOk x.name ∧ ∀ a ∈ x.args, GoodA d a
def GoodSel (d : Nat) (G : List SL → Prop) : SL → Prop
 | .mk k al name on_ args dirs sub => (∀ x ∈ dirs, GoodD d x) ∧
  ((k = 1 ∧ on_ = [] ∧ (al = [] ∨ NameOk al) ∧ NameOk name ∧ (∀ a ∈ args, GoodA d a) ∧ (sub = [] ∨ G sub)) ∨
   (k = 2 ∧ al = [] ∧ on_ = [] ∧ NameOk name ∧ name ≠ wOn ∧ args = [] ∧ sub = []) ∨
   (k = 3 ∧ al = [] ∧ name = [] ∧ (on_ = [] ∨ NameOk on_) ∧ args = [] ∧ G sub))
def GoodS : Nat → List SL → Prop
 | 0, _ => False
 | d + 1, l => l ≠ [] ∧ ∀ x ∈ l, GoodSel d (GoodS d) x
def GoodI (n : List UInt8) (t : TR) (has : Bool) (v : VT) : Prop := NameOk n ∧ GoodT 24 t ∧ (has = true ∧ GoodV true 24 v ∨ has = false ∧ v = VT.zero)
def GoodO (o : OP) : Prop := (o.name = [] ∨ NameOk o.name) ∧ (∀ v ∈ o.vars, GoodI v.name v.t v.has v.v) ∧ GoodS 24 o.sub
def GoodF (f : FR) : Prop := NameOk f.name ∧ f.name ≠ wOn ∧ NameOk f.on_ ∧ GoodS 24 f.sub
def GoodDoc (d : DC) : Prop := (∀ o ∈ d.ops, GoodO o) ∧ ∀ f ∈ d.frags, GoodF f
theorem ok_val (fx : Bool) : ∀ (d : Nat) (v : VT), GoodV fx d v → OkS (valI v)
 | 0, _, h => h.elim
 | d + 1, .mk k n s ks vs, h => by
  rw [valI_eq]
  rcases h with ⟨rfl, h, -⟩ | ⟨rfl, -, h, -⟩ | ⟨rfl, h, -⟩ | ⟨rfl, -⟩ | ⟨rfl, -, h, -⟩ | ⟨rfl, -, -, h, -⟩ | ⟨rfl, -, -, -, h⟩ | ⟨rfl, -, -, ps, rfl, rfl, h⟩
  ·exact OkS.nu h OkS.nil SepI.nil
  ·exact OkS.qu h OkS.nil
  ·refine OkS.nm ?_ OkS.nil SepI.nil
   split <;> exact nameOk_of (by decide)
  ·exact OkS.nm (nameOk_of (by decide)) OkS.nil SepI.nil
  ·exact OkS.nm h OkS.nil SepI.nil
  ·exact OkS.sg (by decide) (OkS.nm h OkS.nil SepI.nil)
  ·refine OkS.sg (by decide) ((OkS.gap fun b hb => ?_).app (OkS.sg (by decide) OkS.nil) (SepI.sg (by decide)))
   obtain ⟨v, hv, rfl⟩ := List.mem_map.1 hb; exact ok_val fx d v (h v hv)
  ·refine OkS.sg (by decide) ((OkS.gap fun b hb => ?_).app (OkS.sg (by decide) OkS.nil) (SepI.sg (by decide)))
   rw [List.map_map, List.zipWith_map, List.zipWith_self] at hb; obtain ⟨p, hp, rfl⟩ := List.mem_map.1 hb; exact OkS.nm (h p hp).1 (OkS.sg (by decide) (OkS.sp (by decide) (ok_val fx d p.2 (h p hp).2))) (SepI.sg (by decide))
theorem ok_bang (b : Bool) : OkS (bangI b) ∧ SepI (bangI b) := by
 cases b
 ·exact ⟨OkS.nil, SepI.nil⟩
 ·exact ⟨OkS.sg (by decide) OkS.nil, SepI.sg (by decide)⟩
theorem ok_typ : ∀ (d : Nat) (t : TR), GoodT d t → OkS (typI t)
 | 0, _, h => h.elim
 | d + 1, .nm s b, h => by rw [typI]; exact OkS.nm h (ok_bang b).1 (ok_bang b).2
 | d + 1, .ls t b, h => by rw [typI]; exact OkS.sg (by decide) ((ok_typ d t h).app (OkS.sg (by decide) (ok_bang b).1) (SepI.sg (by decide)))
theorem ok_arg {d : Nat} {a : AR} (h : GoodA d a) : OkS (argI a) := OkS.nm h.1 (OkS.sg (by decide) (OkS.sp (by decide) (ok_val _ _ _ h.2))) (SepI.sg (by decide))
theorem ok_args {d : Nat} {l : List AR} (h : ∀ a ∈ l, GoodA d a) : OkS (argsI l) := OkS.par fun b hb => by
 obtain ⟨a, ha, rfl⟩ := List.mem_map.1 hb; exact ok_arg (h a ha)
theorem ok_dir {d : Nat} {x : DR} (h : GoodD d x) : OkS (dirI x) ∧ SepI (dirI x) := ⟨OkS.sp (by decide) (OkS.sg (by decide) (OkS.nm h.1 (ok_args h.2) (SepI.par _))), SepI.sp (by decide)⟩
theorem ok_head {d : Nat} {G : List SL → Prop} {k : Nat} {al name on_ : List UInt8} {args : List AR} {dirs : List DR} {sub : List SL} (h : GoodSel d G (.mk k al name on_ args dirs sub)) : OkS (headI k al name on_ args) := by
 obtain ⟨-, h⟩ := h; unfold headI
 rcases h with ⟨rfl, -, ha, hn, hg, -⟩ | ⟨rfl, -, -, hn, -⟩ | ⟨rfl, -, -, ho, -⟩
 ·rw [if_pos rfl]; have h1 : OkS (nmI name :: argsI args) := OkS.nm hn (ok_args hg) (SepI.par _)
  split
  ·exact h1
  ·rename_i hal
   rcases ha with ha | ha
   ·exact absurd ha hal
   ·exact OkS.nm ha (OkS.sg (by decide) (OkS.sp (by decide) h1)) (SepI.sg (by decide))
 ·exact OkS.dots (OkS.nm hn OkS.nil SepI.nil)
 ·rw [if_neg (by decide), if_neg (by decide)]; refine OkS.dots ?_
  split
  ·exact OkS.nil
  ·rename_i hal
   rcases ho with ho | ho
   ·exact absurd ho hal
   ·exact OkS.sp (by decide) (OkS.nm (nameOk_of (by decide)) (OkS.sp (by decide) (OkS.nm ho OkS.nil SepI.nil)) (SepI.sp (by decide)))
theorem ok_sel {d : Nat} {G : List SL → Prop} (hG : ∀ l, G l → OkS (setI l)) : ∀ (x : SL), GoodSel d G x → OkS (selI x)
 | .mk k al name on_ args dirs sub, h => by
  rw [selI_eq]; have h2 := OkS.flat (f := dirI) (l := dirs) (fun x hx => ok_dir (h.1 x hx)); have h3 : OkS (if sub = [] then [] else setI sub) ∧ SepI (if sub = [] then [] else setI sub) := by
   split
   ·exact ⟨OkS.nil, SepI.nil⟩
   ·rename_i hs
    refine ⟨hG _ ?_, SepI.br _⟩
    rcases h.2 with ⟨-, -, -, -, -, hg⟩ | ⟨-, -, -, -, -, -, hg⟩ | ⟨-, -, -, -, -, hg⟩
    ·rcases hg with hg | hg
     ·exact absurd hg hs
     ·exact hg
    ·exact absurd hg hs
    ·exact hg
  exact ((ok_head h).app h2.1 h2.2).app h3.1 h3.2
theorem ok_set : ∀ (d : Nat) (l : List SL), GoodS d l → OkS (setI l)
 | 0, _, h => h.elim
 | d + 1, l, h => by
  refine OkS.br ?_
  rw [selsI_map]; exact (OkS.flat fun x hx => ⟨OkS.sp (by decide) (ok_sel (fun l hl => ok_set d l hl) x (h.2 x hx)), SepI.sp (by decide)⟩).1
theorem ok_inp {n : List It} {t : TR} {has : Bool} {v : VT} (hn : OkS n) (ht : GoodT 24 t) (hv : has = true ∧ GoodV true 24 v ∨ has = false ∧ v = VT.zero) : OkS (inpI n t has v) := by
 refine hn.app (OkS.sg (by decide) (OkS.sp (by decide) ((ok_typ _ _ ht).app ?_ ?_))) (SepI.sg (by decide))
 ·rcases hv with ⟨rfl, hv⟩ | ⟨rfl, -⟩
  ·exact OkS.sp (by decide) (OkS.sg (by decide) (OkS.sp (by decide) (ok_val _ _ _ hv)))
  ·exact OkS.nil
 ·cases has
  ·exact SepI.nil
  ·exact SepI.sp (by decide)
theorem ok_op {o : OP} (h : GoodO o) : OkS (opI o) := by
 unfold opI; have h3 := ok_set _ _ h.2.2; have h2 : OkS (parI (o.vars.map varI)) := OkS.par fun b hb => by
  obtain ⟨v, hv, rfl⟩ := List.mem_map.1 hb; have := h.2.1 v hv; exact OkS.sg (by decide) (ok_inp (OkS.nm this.1 OkS.nil SepI.nil) this.2.1 this.2.2)
 have h1 : OkS (if o.name = [] then [] else [.sp 32, nmI o.name]) ∧ SepI (if o.name = [] then [] else [.sp 32, nmI o.name]) := by
  split
  ·exact ⟨OkS.nil, SepI.nil⟩
  ·rename_i hn
   rcases h.1 with h1 | h1
   ·exact absurd h1 hn
   ·exact ⟨OkS.sp (by decide) (OkS.nm h1 OkS.nil SepI.nil), SepI.sp (by decide)⟩
 refine OkS.nm (by split <;> exact nameOk_of (by decide)) ((h1.1.app h2 (SepI.par _)).app h3 (SepI.br _)) ((h1.2.app (SepI.par _)).app (SepI.br _))
theorem ok_fr {f : FR} (h : GoodF f) : OkS (frI f) :=
 OkS.nm (nameOk_of (by decide)) (OkS.sp (by decide) (OkS.nm h.1 (OkS.sp (by decide) (OkS.nm (nameOk_of (by decide)) (OkS.sp (by decide) (OkS.nm h.2.2.1 (ok_set _ _ h.2.2.2) (SepI.br _))) (SepI.sp (by decide)))) (SepI.sp (by decide)))) (SepI.sp (by decide))
theorem ok_doc {d : DC} (h : GoodDoc d) : OkS (docI d) := OkS.blk fun b hb => by
 rcases List.mem_append.1 hb with hb | hb
 ·obtain ⟨o, ho, rfl⟩ := List.mem_map.1 hb; exact ok_op (h.1 o ho)
 ·obtain ⟨f, hf, rfl⟩ := List.mem_map.1 hb; exact ok_fr (h.2 f hf)
abbrev sgT (c : UInt8) : Tok := ⟨4, [c], 0, 0⟩
abbrev nmT (s : List UInt8) : Tok := ⟨1, s, 0, 0⟩
abbrev doT : Tok := ⟨4, [46, 46, 46], 0, 0⟩
theorem isT_sg (s : List UInt8) (c : UInt8) (r : List Tok) : isT s (sgT c :: r) = decide ([c] = s) := by simp [isT, isS, isW]
theorem isT_nm (s t : List UInt8) (r : List Tok) : isT s (nmT t :: r) = decide (t = s) := by simp [isT, isS, isW]
theorem isT_do (s : List UInt8) (r : List Tok) : isT s (doT :: r) = decide ([46, 46, 46] = s) := by simp [isT, isS, isW]
theorem isS_sg (s : List UInt8) (c : UInt8) (r : List Tok) : isS s (sgT c :: r) = decide ([c] = s) := by simp [isS]
theorem isS_nm (s t : List UInt8) (r : List Tok) : isS s (nmT t :: r) = false := by simp [isS]
theorem isS_do (s : List UInt8) (r : List Tok) : isS s (doT :: r) = decide ([46, 46, 46] = s) := by simp [isS]
theorem wantP_sg (c : UInt8) (r : List Tok) : wantP [c] (sgT c :: r) = .ok () r := by unfold wantP; rw [isT_sg, if_pos (by simp)]; rfl
theorem wantP_nm (s : List UInt8) (r : List Tok) : wantP s (nmT s :: r) = .ok () r := by unfold wantP; rw [isT_nm, if_pos (by simp)]; rfl
theorem okb {α β : Type} (x : α) (r : List Tok) (f : α → List Tok → PR β) : (PR.ok x r).bind f = f x r := rfl
theorem nameP_nm (s : List UInt8) (r : List Tok) : nameP (nmT s :: r) = .ok s r := rfl
theorem nm_no {s : List UInt8} (h : NameOk s) (c : UInt8) (l : List UInt8) (r : List Tok) (hc : letB c = false) : isT (c :: l) (nmT s :: r) = false := by
 rw [isT_nm, decide_eq_false (name_sign h hc)]
theorem tok0_flat {α : Type} (f : α → List It) : ∀ l : List α, tok0 (l.flatMap f) = l.flatMap fun x => tok0 (f x)
 | [] => rfl
 | x :: l => by rw [List.flatMap_cons, tok0_app, tok0_flat f l, List.flatMap_cons]
theorem tok0_sep {g : List It} (hg : tok0 g = []) (l : List (List It)) : tok0 (sepI g l) = l.flatMap tok0 := by
 cases l with
 | nil => rfl
 | cons a l =>
  show tok0 (a ++ l.flatMap fun b => g ++ b) = _
  rw [tok0_app, tok0_flat, List.flatMap_cons]
  congr 1
  congr 1
  funext b
  rw [tok0_app, hg, List.nil_append]
theorem tok0_par (l : List (List It)) : tok0 (parI l) = if l = [] then [] else sgT 40 :: (l.flatMap tok0 ++ [sgT 41]) := by
 unfold parI
 split
 ·rfl
 ·show sgT 40 :: tok0 (sepI gapI l ++ [sgI 41]) = _
  rw [tok0_app, tok0_sep rfl]; rfl
theorem tok0_br (l : List It) : tok0 (brI l) = sgT 123 :: (tok0 l ++ [sgT 125]) := by
 show sgT 123 :: tok0 (l ++ [.sp 32, sgI 125]) = _
 rw [tok0_app]; rfl
theorem tk_pos {α : Type} {f : List Tok → PR α} (hf : Takes f) {T : List Tok} {x : α} {q : List Tok} (h : f (T ++ q) = .ok x q) : 0 < T.length := by
 have := hf _ _ _ h; rw [List.length_append] at this; omega
theorem rd_any {α : Type} {f : List Tok → PR α} (hf : Takes f) {T : α → List Tok} {c : UInt8} : ∀ (xs : List α), (∀ x ∈ xs, (∀ q, f (T x ++ q) = .ok x q) ∧ ∀ q, isT [c] (T x ++ q) = false) → ∀ (n : Nat) (acc : List α) (rest : List Tok), (xs.flatMap T).length < n → anyP f [c] n acc (xs.flatMap T ++ sgT c :: rest) = .ok (acc ++ xs) rest
 | _, _, 0, _, _, h => by omega
 | [], _, n + 1, acc, rest, _ => by
  show anyP f [c] (n + 1) acc (sgT c :: rest) = _
  rw [anyP, if_pos (by rw [isT_sg]; simp), List.append_nil]; rfl
 | x :: xs, h, n + 1, acc, rest, hn => by
  have hx := h x (by simp); have hp := tk_pos hf (hx.1 []); rw [List.flatMap_cons, List.length_append] at hn; rw [List.flatMap_cons, List.append_assoc, anyP, if_neg (by rw [hx.2]; decide), hx.1]
  show anyP f [c] n (acc ++ [x]) (xs.flatMap T ++ sgT c :: rest) = _
  rw [rd_any hf xs (fun y hy => h y (by simp [hy])) n (acc ++ [x]) rest (by omega)]; simp
theorem rd_many {α : Type} {f : List Tok → PR α} (hf : Takes f) {T : α → List Tok} {c : UInt8} {Stp : List Tok → Prop} (h3 : ∀ q, Stp (sgT c :: q)) : ∀ (xs : List α), xs ≠ [] → (∀ x ∈ xs, (∀ q, Stp q → f (T x ++ q) = .ok x q) ∧ ∀ q, isT [c] (T x ++ q) = false ∧ Stp (T x ++ q)) → ∀ (n : Nat) (acc : List α) (rest : List Tok), (xs.flatMap T).length ≤ n → manyP f [c] n acc (xs.flatMap T ++ sgT c :: rest) = .ok (acc ++ xs) rest
 | [], h, _, _, _, _, _ => absurd rfl h
 | x :: xs, _, h, 0, acc, rest, hn => by
  have hx := h x (by simp); have hp := tk_pos hf (hx.1 _ (h3 [])); rw [List.flatMap_cons, List.length_append] at hn; omega
 | [x], _, h, n + 1, acc, rest, hn => by
  have hx := h x (by simp); rw [List.flatMap_cons, List.flatMap_nil, List.append_nil, manyP, hx.1 _ (h3 rest)]
  show (if isT [c] (sgT c :: rest) then PR.ok (acc ++ [x]) rest else _) = _
  rw [if_pos (by rw [isT_sg]; simp)]
 | x :: y :: ys, _, h, n + 1, acc, rest, hn => by
  have hx := h x (by simp); have hy := h y (by simp); have hp := tk_pos hf (hx.1 _ (h3 [])); have e : (y :: ys).flatMap T ++ sgT c :: rest = T y ++ (ys.flatMap T ++ sgT c :: rest) := by rw [List.flatMap_cons, List.append_assoc]
  rw [List.flatMap_cons, List.length_append] at hn; rw [List.flatMap_cons, List.append_assoc, manyP, hx.1 _ (by rw [e]; exact (hy.2 _).2)]
  show (if isT [c] ((y :: ys).flatMap T ++ sgT c :: rest) then _ else manyP f [c] n (acc ++ [x]) ((y :: ys).flatMap T ++ sgT c :: rest)) = _
  rw [if_neg (by rw [e, (hy.2 _).1]; decide), rd_many hf h3 (y :: ys) (by simp) (fun z hz => h z (by simp [List.mem_cons.1 hz])) n (acc ++ [x]) rest (by omega)]; simp
theorem fst_val {fx : Bool} {c : UInt8} (hc : letB c = false) (h36 : c ≠ 36) (h91 : c ≠ 91) (h123 : c ≠ 123) : ∀ {d : Nat} {v : VT}, GoodV fx d v → ∀ q, isT [c] (tok0 (valI v) ++ q) = false
 | 0, _, h, _ => h.elim
 | d + 1, .mk k n s ks vs, h, q => by
  rw [valI_eq]
  rcases h with ⟨rfl, h, -⟩ | ⟨rfl, -, h, -⟩ | ⟨rfl, h, -⟩ | ⟨rfl, -⟩ | ⟨rfl, -, h, -⟩ | ⟨rfl, -, -, h, -⟩ | ⟨rfl, -, -, -, h⟩ | ⟨rfl, -, -, ps, rfl, rfl, h⟩
  ·rfl
  ·rfl
  ·show isT [c] (nmT (if n = 1 then wTrue else wFalse) :: q) = false
   refine nm_no ?_ c [] q hc
   split <;> exact nameOk_of (by decide)
  ·exact nm_no (nameOk_of (by decide)) c [] q hc
  ·exact nm_no h c [] q hc
  ·show isT [c] (sgT 36 :: _) = false
   rw [isT_sg]; simp; exact fun e => h36 e.symm
  ·show isT [c] (sgT 91 :: _) = false
   rw [isT_sg]; simp; exact fun e => h91 e.symm
  ·show isT [c] (sgT 123 :: _) = false
   rw [isT_sg]; simp; exact fun e => h123 e.symm
theorem vB_cons (fixed : Bool) (f : List Tok → PR VT) (t : Tok) (r : List Tok) : valueB fixed f (t :: r) =
  if t.kind = 2 then .ok (.mk 1 t.n [] [] []) r
  else if t.kind = 3 then .ok (.mk 2 0 t.text [] []) r
  else if isT wTrue (t :: r) then .ok (.mk 3 1 [] [] []) r
  else if isT wFalse (t :: r) then .ok (.mk 3 0 [] [] []) r
  else if isT wNull (t :: r) then .ok VT.zero r
  else if t.kind = 1 then .ok (.mk 4 0 t.text [] []) r
  else if !fixed && isT [36] (t :: r) then (nameP r).bind fun s r1 => .ok (.mk 7 0 s [] []) r1
  else if isT [91] (t :: r) then (anyP f [93] (r.length + 1) [] r).bind fun vs r1 => .ok (.mk 5 0 [] [] vs) r1
  else if isT [123] (t :: r) then (anyP (pairP f) [125] (r.length + 1) [] r).bind fun ps r1 => .ok (.mk 6 0 [] (ps.map (·.1)) (ps.map (·.2))) r1
  else .bad t.at_ 4 := rfl
theorem rd_val (fx : Bool) : ∀ (d : Nat) (v : VT), GoodV fx d v → ∀ q, valueP fx d (tok0 (valI v) ++ q) = .ok v q
 | 0, _, h, _ => h.elim
 | d + 1, .mk k n s ks vs, h, q => by
  rw [valI_eq, valueP]
  rcases h with ⟨rfl, h, rfl, rfl, rfl⟩ | ⟨rfl, rfl, h, rfl, rfl⟩ | ⟨rfl, h, rfl, rfl, rfl⟩ | ⟨rfl, rfl, rfl, rfl, rfl⟩ | ⟨rfl, rfl, h, h1, h2, h3, rfl, rfl⟩ | ⟨rfl, hx, rfl, h, rfl, rfl⟩ | ⟨rfl, rfl, rfl, rfl, h⟩ | ⟨rfl, rfl, rfl, ps, rfl, rfl, h⟩
  ·show valueB fx _ (⟨2, numS n, n, 0⟩ :: q) = _
   rw [vB_cons, if_pos rfl]
  ·show valueB fx _ (⟨3, s, 0, 0⟩ :: q) = _
   rw [vB_cons, if_neg (by simp), if_pos rfl]
  ·show valueB fx _ (nmT (if n = 1 then wTrue else wFalse) :: q) = _
   rw [vB_cons, if_neg (by simp), if_neg (by simp)]
   rcases h with rfl | rfl
   ·rw [if_neg (by rw [isT_nm]; decide), if_pos (by rw [isT_nm]; decide)]
   ·rw [if_pos (by rw [isT_nm]; decide)]
  ·show valueB fx _ (nmT wNull :: q) = _
   rw [vB_cons, if_neg (by simp), if_neg (by simp), if_neg (by rw [isT_nm]; decide), if_neg (by rw [isT_nm]; decide), if_pos (by rw [isT_nm]; decide)]; rfl
  ·show valueB fx _ (nmT s :: q) = _
   rw [vB_cons, if_neg (by simp), if_neg (by simp), if_neg (by rw [isT_nm, decide_eq_false h1]; decide), if_neg (by rw [isT_nm, decide_eq_false h2]; decide), if_neg (by rw [isT_nm, decide_eq_false h3]; decide), if_pos rfl]
  ·show valueB fx _ (sgT 36 :: nmT s :: q) = _
   rw [vB_cons, if_neg (by simp), if_neg (by simp), if_neg (by rw [isT_sg]; decide), if_neg (by rw [isT_sg]; decide), if_neg (by rw [isT_sg]; decide), if_neg (by decide), if_pos (by rw [isT_sg, hx]; decide)]; rfl
  ·have e : tok0 (sgI 91 :: (sepI gapI (vs.map valI) ++ [sgI 93])) ++ q = sgT 91 :: (vs.flatMap (fun v => tok0 (valI v)) ++ sgT 93 :: q) := by
    show sgT 91 :: (tok0 (sepI gapI (vs.map valI) ++ [sgI 93]) ++ q) = _
    rw [tok0_app, tok0_sep rfl, List.append_assoc, List.flatMap_map]; rfl
   show valueB fx _ (tok0 (sgI 91 :: (sepI gapI (vs.map valI) ++ [sgI 93])) ++ q) = _
   rw [e, vB_cons, if_neg (by simp), if_neg (by simp), if_neg (by rw [isT_sg]; decide), if_neg (by rw [isT_sg]; decide), if_neg (by rw [isT_sg]; decide), if_neg (by decide), if_neg (by rw [isT_sg]; simp), if_pos (by rw [isT_sg]; decide),
    rd_any (valueP_takes fx d) (T := fun v => tok0 (valI v)) vs (fun v hv => ⟨rd_val fx d v (h v hv), fst_val (by decide) (by decide) (by decide) (by decide) (h v hv)⟩) _ [] q (by rw [List.length_append, List.length_cons]; omega)]
   rfl
  ·have e : tok0 (sgI 123 :: (sepI gapI (List.zipWith pairI (ps.map (·.1)) ((ps.map (·.2)).map valI)) ++ [sgI 125])) ++ q = sgT 123 :: (ps.flatMap (fun p => nmT p.1 :: sgT 58 :: tok0 (valI p.2)) ++ sgT 125 :: q) := by
    show sgT 123 :: (tok0 (sepI gapI (List.zipWith pairI (ps.map (·.1)) ((ps.map (·.2)).map valI)) ++ [sgI 125]) ++ q) = _
    rw [tok0_app, tok0_sep rfl, List.append_assoc, List.map_map, List.zipWith_map, List.zipWith_self, List.flatMap_map]; rfl
   show valueB fx _ (tok0 (sgI 123 :: (sepI gapI (List.zipWith pairI (ps.map (·.1)) ((ps.map (·.2)).map valI)) ++ [sgI 125])) ++ q) = _
   rw [e, vB_cons, if_neg (by simp), if_neg (by simp), if_neg (by rw [isT_sg]; decide), if_neg (by rw [isT_sg]; decide), if_neg (by rw [isT_sg]; decide), if_neg (by decide), if_neg (by rw [isT_sg]; simp), if_neg (by rw [isT_sg]; decide), if_pos (by rw [isT_sg]; decide),
    rd_any (pairP_takes (valueP_takes fx d)) (T := fun p : List UInt8 × VT => nmT p.1 :: sgT 58 :: tok0 (valI p.2)) ps (fun p hp => ⟨fun q => ?_, fun q => nm_no (h p hp).1 125 [] _ (by decide)⟩) _ [] q (by rw [List.length_append, List.length_cons]; omega)]
   ·rfl
   ·show ((nameP (nmT p.1 :: sgT 58 :: (tok0 (valI p.2) ++ q))).bind fun s r1 => (wantP [58] r1).bind fun _ r2 => (valueP fx d r2).bind fun v r3 => .ok (s, v) r3) = _
    rw [nameP_nm]
    show ((wantP [58] (sgT 58 :: (tok0 (valI p.2) ++ q))).bind fun _ r2 => (valueP fx d r2).bind fun v r3 => .ok (p.1, v) r3) = _
    rw [wantP_sg]
    show ((valueP fx d (tok0 (valI p.2) ++ q)).bind fun v r3 => .ok (p.1, v) r3) = _
    rw [rd_val fx d p.2 (h p hp).2 q]; rfl
theorem rd_bang (mk : Bool → TR) (b : Bool) {q : List Tok} (h : isT [33] q = false) : bangP mk (tok0 (bangI b) ++ q) = .ok (mk b) q := by
 unfold bangP
 cases b
 ·show (if isT [33] q then _ else _) = _
  rw [if_neg (by rw [h]; decide)]; rfl
 ·show (if isT [33] (sgT 33 :: q) then PR.ok (mk true) q else _) = _
  rw [if_pos (by rw [isT_sg]; decide)]
theorem rd_typ : ∀ (d : Nat) (t : TR), GoodT d t → ∀ q, isT [33] q = false → typP d (tok0 (typI t) ++ q) = .ok t q
 | 0, _, h, _, _ => h.elim
 | d + 1, .nm s b, h, q, hq => by
  rw [typI, typP]
  show (if isT [91] (nmT s :: (tok0 (bangI b) ++ q)) then _ else (nameP (nmT s :: (tok0 (bangI b) ++ q))).bind fun s r1 => bangP (.nm s) r1) = _
  rw [if_neg (by rw [nm_no h 91 [] _ (by decide)]; decide), nameP_nm]; exact rd_bang _ b hq
 | d + 1, .ls t b, h, q, hq => by
  rw [typI, typP]; have e : tok0 (sgI 91 :: (typI t ++ sgI 93 :: bangI b)) ++ q = sgT 91 :: (tok0 (typI t) ++ (sgT 93 :: (tok0 (bangI b) ++ q))) := by
   show sgT 91 :: (tok0 (typI t ++ sgI 93 :: bangI b) ++ q) = _
   rw [tok0_app, List.append_assoc]; rfl
  rw [e, if_pos (by rw [isT_sg]; decide)]
  show ((typP d (tok0 (typI t) ++ (sgT 93 :: (tok0 (bangI b) ++ q)))).bind fun t r1 => (wantP [93] r1).bind fun _ r2 => bangP (.ls t) r2) = _
  rw [rd_typ d t h _ (by rw [isT_sg]; decide)]
  show ((wantP [93] (sgT 93 :: (tok0 (bangI b) ++ q))).bind fun _ r2 => bangP (.ls t) r2) = _
  rw [wantP_sg]; exact rd_bang _ b hq
theorem rd_arg {d : Nat} {a : AR} (h : GoodA d a) (q : List Tok) : argP d (tok0 (argI a) ++ q) = .ok a q := by
 show ((nameP (nmT a.name :: sgT 58 :: (tok0 (valI a.v) ++ q))).bind fun s r1 => (wantP [58] r1).bind fun _ r2 => (valueP false d r2).bind fun v r3 => .ok (AR.mk s v) r3) = _
 rw [nameP_nm]
 show ((wantP [58] (sgT 58 :: (tok0 (valI a.v) ++ q))).bind fun _ r2 => (valueP false d r2).bind fun v r3 => .ok (AR.mk a.name v) r3) = _
 rw [wantP_sg]
 show ((valueP false d (tok0 (valI a.v) ++ q)).bind fun v r3 => .ok (AR.mk a.name v) r3) = _
 rw [rd_val _ _ _ h.2]; rfl
theorem rd_args {d : Nat} {l : List AR} (h : ∀ a ∈ l, GoodA d a) {q : List Tok} (hq : isS [40] q = false) : argsP d (tok0 (argsI l) ++ q) = .ok l q := by
 unfold argsI argsP; rw [tok0_par]
 cases l with
 | nil =>
  show (if isS [40] q then _ else _) = _
  rw [if_neg (by rw [hq]; decide)]; rfl
 | cons a l =>
  rw [if_neg (show ¬ (a :: l).map argI = [] by simp)]; have e : (sgT 40 :: (((a :: l).map argI).flatMap tok0 ++ [sgT 41])) ++ q = sgT 40 :: ((a :: l).flatMap (fun x => tok0 (argI x)) ++ sgT 41 :: q) := by
   rw [List.flatMap_map, List.cons_append, List.append_assoc]; rfl
  rw [e, if_pos (by rw [isS_sg]; decide)]
  show manyP (argP d) [41] _ [] ((a :: l).flatMap (fun x => tok0 (argI x)) ++ sgT 41 :: q) = _
  exact rd_many (argP_takes d) (Stp := fun _ => True) (fun _ => trivial) (a :: l) (by simp) (fun x hx => ⟨fun q _ => rd_arg (h x hx) q, fun q => ⟨nm_no (h x hx).1 41 [] _ (by decide), trivial⟩⟩) _ [] q (by simp only [List.length_cons, List.length_append]; omega)
theorem args_fst (l : List AR) {c : UInt8} {q : List Tok} (hc : c ≠ 40) (hq : isT [c] q = false) : isT [c] (tok0 (argsI l) ++ q) = false := by
 unfold argsI; rw [tok0_par]
 split
 ·exact hq
 ·show isT [c] (sgT 40 :: _) = false
  rw [isT_sg]; simp; exact fun e => hc e.symm
theorem rd_dirs {d : Nat} : ∀ (l : List DR), (∀ x ∈ l, GoodD d x) → ∀ {q : List Tok}, isT [64] q = false → isS [40] q = false → ∀ (n : Nat) (acc : List DR), (l.flatMap fun x => tok0 (dirI x)).length < n → dirsP d n acc ((l.flatMap fun x => tok0 (dirI x)) ++ q) = .ok (acc ++ l) q
 | _, _, _, _, _, 0, _, h => by omega
 | [], _, q, h1, _, n + 1, acc, _ => by
  show dirsP d (n + 1) acc q = _
  rw [dirsP, if_neg (by rw [h1]; decide), List.append_nil]
 | x :: l, h, q, h1, h2, n + 1, acc, hn => by
  obtain ⟨r', hr'⟩ : ∃ r', (l.flatMap fun x => tok0 (dirI x)) ++ q = r' := ⟨_, rfl⟩; have h40 : isS [40] r' = false := by
   rw [← hr']
   cases l with
   | nil => exact h2
   | cons y l => rw [List.flatMap_cons]; exact isS_sg _ _ _
  have hx := h x (by simp); have e : ((x :: l).flatMap fun x => tok0 (dirI x)) ++ q = sgT 64 :: nmT x.name :: (tok0 (argsI x.args) ++ r') := by
   rw [List.flatMap_cons, List.append_assoc, hr']; rfl
  rw [List.flatMap_cons, List.length_append] at hn; have hl : (tok0 (dirI x)).length = (tok0 (argsI x.args)).length + 2 := rfl; rw [e, dirsP, if_pos (by rw [isT_sg]; decide)]
  show (((nameP (nmT x.name :: (tok0 (argsI x.args) ++ r'))).bind fun s r1 => (argsP d r1).bind fun l r2 => .ok (DR.mk s l) r2).bind fun x r1 => dirsP d n (acc ++ [x]) r1) = _
  rw [nameP_nm]
  show (((argsP d (tok0 (argsI x.args) ++ r')).bind fun l r2 => .ok (DR.mk x.name l) r2).bind fun x r1 => dirsP d n (acc ++ [x]) r1) = _
  rw [rd_args hx.2 h40]
  show dirsP d n (acc ++ [x]) r' = _
  rw [← hr', rd_dirs l (fun y hy => h y (by simp [hy])) h1 h2 n (acc ++ [x]) (by omega)]; simp
structure StpS (q : List Tok) : Prop where
 c58 : isT [58] q = false
 c40 : isS [40] q = false
 c64 : isT [64] q = false
 c123 : isS [123] q = false
theorem StpS.nm {s : List UInt8} (h : NameOk s) (q : List Tok) : StpS (nmT s :: q) := ⟨nm_no h _ _ _ (by decide), isS_nm _ _ _, nm_no h _ _ _ (by decide), isS_nm _ _ _⟩
theorem StpS.dots (q : List Tok) : StpS (doT :: q) := ⟨by rw [isT_do]; decide, by rw [isS_do]; decide, by rw [isT_do]; decide, by rw [isS_do]; decide⟩
theorem StpS.sg (q : List Tok) : StpS (sgT 125 :: q) := ⟨by rw [isT_sg]; decide, by rw [isS_sg]; decide, by rw [isT_sg]; decide, by rw [isS_sg]; decide⟩
theorem rd_sel {d : Nat} {G : List SL → Prop} {g : List Tok → PR (List SL)} (hG : ∀ l, G l → l ≠ []) (hg : ∀ l, G l → ∀ q, g (tok0 (setI l) ++ q) = .ok l q) : ∀ (x : SL), GoodSel d G x → ∀ q, StpS q → selP d g (tok0 (selI x) ++ q) = .ok x q
 | .mk k al name on_ args dirs sub, h, q, hq => by
  rw [selI_eq]; obtain ⟨hd, h⟩ := h
  -- what stands behind the head
  obtain ⟨S, hS⟩ : ∃ S, tok0 (if sub = [] then [] else setI sub) ++ q = S := ⟨_, rfl⟩; obtain ⟨D, hD⟩ : ∃ D, (dirs.flatMap fun x => tok0 (dirI x)) ++ S = D := ⟨_, rfl⟩; have e : tok0 (headI k al name on_ args ++ dirs.flatMap dirI ++ (if sub = [] then [] else setI sub)) ++ q = tok0 (headI k al name on_ args) ++ D := by
   rw [tok0_app, tok0_app, List.append_assoc, List.append_assoc, hS, tok0_flat, hD]
  have s64 : isT [64] S = false ∧ isS [40] S = false ∧ isT [58] S = false ∧ isS [123] S = decide (sub ≠ []) := by
   rw [← hS]
   by_cases hs : sub = []
   ·rw [if_pos hs, hs]; exact ⟨hq.c64, hq.c40, hq.c58, by rw [show tok0 [] ++ q = q from rfl, hq.c123]; rfl⟩
   ·rw [if_neg hs]; unfold setI; rw [tok0_br]; exact ⟨isT_sg _ _ _, isS_sg _ _ _, isT_sg _ _ _, by rw [decide_eq_true hs]; exact isS_sg _ _ _⟩
  have hsub : sub ≠ [] → G sub → g S = .ok sub q := fun hs hs2 => by rw [← hS, if_neg hs]; exact hg _ hs2 q
  have d1 : isS [40] D = false ∧ isT [58] D = false := by
   rw [← hD]
   cases dirs with
   | nil => exact ⟨s64.2.1, s64.2.2.1⟩
   | cons x l => rw [List.flatMap_cons]; exact ⟨isS_sg _ _ _, isT_sg _ _ _⟩
  have hdd : dirsP d (D.length + 1) [] D = .ok dirs S := by
   have := rd_dirs dirs hd s64.1 s64.2.1 (D.length + 1) [] (by rw [← hD, List.length_append]; omega); rw [hD] at this; exact this
  rw [e]; unfold headI
  rcases h with ⟨rfl, rfl, ha, hn, hga, hs⟩ | ⟨rfl, rfl, rfl, hn, hno, rfl, rfl⟩ | ⟨rfl, rfl, rfl, ho, rfl, hs⟩
  ·rw [if_pos rfl]; obtain ⟨A, hA⟩ : ∃ A, tok0 (argsI args) ++ D = A := ⟨_, rfl⟩; have ha2 : argsP d A = .ok args D := by rw [← hA]; exact rd_args hga d1.1
   have h58 : isT [58] A = false := by rw [← hA]; exact args_fst args (by decide) d1.2
   have hend : ∀ p : List UInt8 × List UInt8, ((argsP d A).bind fun gs1 r3 => (dirsP d (r3.length + 1) [] r3).bind fun ds r4 => (if isS [123] r4 then g r4 else .ok [] r4).bind fun sub r5 => .ok (SL.mk 1 p.1 p.2 [] gs1 ds sub) r5) = .ok (SL.mk 1 p.1 p.2 [] args dirs sub) q := fun p => by
    rw [ha2]
    show ((dirsP d (D.length + 1) [] D).bind fun ds r4 => (if isS [123] r4 then g r4 else .ok [] r4).bind fun sub r5 => .ok (SL.mk 1 p.1 p.2 [] args ds sub) r5) = _
    rw [hdd]
    show ((if isS [123] S then g S else .ok [] S).bind fun sub r5 => .ok (SL.mk 1 p.1 p.2 [] args dirs sub) r5) = _
    by_cases hs0 : sub = []
    ·rw [if_neg (by rw [s64.2.2.2, hs0]; decide), hs0, ← hS, if_pos hs0]; rfl
    ·rw [if_pos (by rw [s64.2.2.2]; exact decide_eq_true hs0), hsub hs0 (hs.resolve_left hs0)]; rfl
   by_cases hal : al = []
   ·rw [if_pos hal, hal]
    show selP d g (nmT name :: (tok0 (argsI args) ++ D)) = _
    rw [hA]; unfold selP; rw [if_neg (by unfold wDots; rw [nm_no hn _ _ _ (by decide)]; decide), nameP_nm]
    show ((if isT [58] A then (nameP A.tail).bind fun s2 r2 => .ok (name, s2) r2 else .ok (([] : List UInt8), name) A).bind fun p r2 => _) = _
    rw [if_neg (by rw [h58]; decide)]; exact hend ([], name)
   ·rw [if_neg hal]; have hal2 := ha.resolve_left hal
    show selP d g (nmT al :: sgT 58 :: nmT name :: (tok0 (argsI args) ++ D)) = _
    rw [hA]; unfold selP; rw [if_neg (by unfold wDots; rw [nm_no hal2 _ _ _ (by decide)]; decide), nameP_nm]
    show ((if isT [58] (sgT 58 :: nmT name :: A) then (nameP (nmT name :: A)).bind fun s2 r2 => .ok (al, s2) r2 else .ok (([] : List UInt8), al) (sgT 58 :: nmT name :: A)).bind fun p r2 => _) = _
    rw [if_pos (by rw [isT_sg]; decide), nameP_nm]; exact hend (al, name)
  ·rw [if_neg (by decide), if_pos rfl]
   show selP d g (doT :: nmT name :: D) = _
   unfold selP; rw [if_pos (by unfold wDots; rw [isT_do]; decide)]
   show (if isT wOn (nmT name :: D) then _ else if isK 1 (nmT name :: D) then (nameP (nmT name :: D)).bind fun s r1 => (dirsP d (r1.length + 1) [] r1).bind fun ds r2 => .ok (SL.mk 2 [] s [] [] ds []) r2 else _) = _
   rw [if_neg (by rw [isT_nm, decide_eq_false hno]; decide), if_pos (show isK 1 (nmT name :: D) = true from rfl), nameP_nm]
   show ((dirsP d (D.length + 1) [] D).bind fun ds r2 => .ok (SL.mk 2 [] name [] [] ds []) r2) = _
   rw [hdd, ← hS]; rfl
  ·have hs0 := hG _ hs; have hss := hsub hs0 hs; rw [if_neg (by decide), if_neg (by decide)]
   by_cases ho0 : on_ = []
   ·rw [if_pos ho0, ho0]
    show selP d g (doT :: D) = _
    have d2 : isT wOn D = false ∧ isK 1 D = false := by
     rw [← hD]
     cases dirs with
     | nil =>
      show isT wOn S = false ∧ isK 1 S = false
      rw [← hS, if_neg hs0]; unfold setI; rw [tok0_br]; exact ⟨by rw [List.cons_append, isT_sg]; decide, rfl⟩
     | cons x l => rw [List.flatMap_cons]; exact ⟨isT_sg _ _ _, rfl⟩
    unfold selP; rw [if_pos (by unfold wDots; rw [isT_do]; decide)]
    show (if isT wOn D then _ else if isK 1 D then _ else (dirsP d (D.length + 1) [] D).bind fun ds r2 => (g r2).bind fun sub r3 => .ok (SL.mk 3 [] [] [] [] ds sub) r3) = _
    rw [if_neg (by rw [d2.1]; decide), if_neg (by rw [d2.2]; decide), hdd]
    show ((g S).bind fun sub r3 => .ok (SL.mk 3 [] [] [] [] dirs sub) r3) = _
    rw [hss]; rfl
   ·rw [if_neg ho0]
    show selP d g (doT :: nmT wOn :: nmT on_ :: D) = _
    unfold selP; rw [if_pos (by unfold wDots; rw [isT_do]; decide)]
    show (if isT wOn (nmT wOn :: nmT on_ :: D) then (nameP (nmT on_ :: D)).bind fun s r1 => (dirsP d (r1.length + 1) [] r1).bind fun ds r2 => (g r2).bind fun sub r3 => .ok (SL.mk 3 [] [] s [] ds sub) r3 else _) = _
    rw [if_pos (by rw [isT_nm]; decide), nameP_nm]
    show ((dirsP d (D.length + 1) [] D).bind fun ds r2 => (g r2).bind fun sub r3 => .ok (SL.mk 3 [] [] on_ [] ds sub) r3) = _
    rw [hdd]
    show ((g S).bind fun sub r3 => .ok (SL.mk 3 [] [] on_ [] dirs sub) r3) = _
    rw [hss]; rfl
theorem fst_sel {d : Nat} {G : List SL → Prop} : ∀ {x : SL}, GoodSel d G x → ∃ t r, tok0 (selI x) = t :: r ∧ ((∃ s, NameOk s ∧ t = nmT s) ∨ t = doT)
 | .mk k al name on_ args dirs sub, h => by
  rw [selI_eq, tok0_app, tok0_app]; unfold headI
  rcases h.2 with ⟨rfl, -, ha, hn, -⟩ | ⟨rfl, -⟩ | ⟨rfl, -⟩
  ·rw [if_pos rfl]
   by_cases hal : al = []
   ·rw [if_pos hal]; exact ⟨_, _, rfl, .inl ⟨name, hn, rfl⟩⟩
   ·rw [if_neg hal]; exact ⟨_, _, rfl, .inl ⟨al, ha.resolve_left hal, rfl⟩⟩
  ·exact ⟨_, _, rfl, .inr rfl⟩
  ·exact ⟨_, _, rfl, .inr rfl⟩
theorem goodS_ne : ∀ {d : Nat} {l : List SL}, GoodS d l → l ≠ []
 | 0, _, h => h.elim
 | _ + 1, _, h => h.1
theorem rd_set : ∀ (d : Nat) (l : List SL), GoodS d l → ∀ q, setP d (tok0 (setI l) ++ q) = .ok l q
 | 0, _, h, _ => h.elim
 | d + 1, l, h, q => by
  unfold setI; rw [tok0_br, selsI_map, tok0_flat, setP]; have e : (sgT 123 :: ((l.flatMap fun x => tok0 (.sp 32 :: selI x)) ++ [sgT 125])) ++ q = sgT 123 :: ((l.flatMap fun x => tok0 (selI x)) ++ sgT 125 :: q) := by
   rw [List.cons_append, List.append_assoc]; rfl
  rw [e, wantP_sg]; refine rd_many (selP_takes d (setP_takes d)) (Stp := StpS) StpS.sg l h.1 (fun x hx => ⟨fun q hq => rd_sel (fun l hl => goodS_ne hl) (fun l hl q => rd_set d l hl q) x (h.2 x hx) q hq, fun q => ?_⟩) _ [] q (by rw [List.length_append]; omega)
  obtain ⟨t, r, et, ht⟩ := fst_sel (h.2 x hx); rw [et]
  rcases ht with ⟨s, hs, rfl⟩ | rfl
  ·exact ⟨nm_no hs _ _ _ (by decide), StpS.nm hs _⟩
  ·exact ⟨by rw [List.cons_append, isT_do]; decide, StpS.dots _⟩
structure StpI (q : List Tok) : Prop where
 c33 : isT [33] q = false
 c61 : isT [61] q = false
theorem StpI.nm {s : List UInt8} (h : NameOk s) (q : List Tok) : StpI (nmT s :: q) := ⟨nm_no h _ _ _ (by decide), nm_no h _ _ _ (by decide)⟩
theorem rd_inp {n : List It} {t : TR} {has : Bool} {v : VT} (ht : GoodT 24 t) (hv : has = true ∧ GoodV true 24 v ∨ has = false ∧ v = VT.zero) {q : List Tok} (hq : StpI q) {β : Type} (mk : TR → Bool → VT → β) :
  ∃ R, tok0 (inpI n t has v) ++ q = tok0 n ++ sgT 58 :: R ∧
  ((typP 24 R).bind fun t r4 => if isT [61] r4 then (valueP true 24 r4.tail).bind fun v r5 => .ok (mk t true v) r5 else .ok (mk t false VT.zero) r4) = .ok (mk t has v) q := by
 refine ⟨tok0 (typI t) ++ (tok0 (if has then .sp 32 :: sgI 61 :: .sp 32 :: valI v else []) ++ q), ?_, ?_⟩
 ·unfold inpI; rw [tok0_app, List.append_assoc]
  show tok0 n ++ (sgT 58 :: (tok0 (typI t ++ _) ++ q)) = _
  rw [tok0_app, List.append_assoc]
 ·rcases hv with ⟨rfl, hv⟩ | ⟨rfl, rfl⟩
  ·rw [if_pos rfl, rd_typ _ _ ht _ (isT_sg _ _ _)]
   show (if isT [61] (sgT 61 :: (tok0 (valI v) ++ q)) then (valueP true 24 (tok0 (valI v) ++ q)).bind fun v r5 => .ok (mk t true v) r5 else .ok (mk t false VT.zero) (sgT 61 :: (tok0 (valI v) ++ q))) = _
   rw [if_pos (by rw [isT_sg]; decide), rd_val _ _ _ hv]; rfl
  ·rw [if_neg (by decide), show tok0 ([] : List It) ++ q = q from rfl, rd_typ _ _ ht _ (show isT [33] q = false from hq.c33)]
   show (if isT [61] q then (valueP true 24 q.tail).bind fun v r5 => .ok (mk t true v) r5 else .ok (mk t false VT.zero) q) = _
   rw [if_neg (by rw [hq.c61]; decide)]
theorem rd_var {v : VD} (h : GoodI v.name v.t v.has v.v) {q : List Tok} (hq : StpI q) : varP (tok0 (varI v) ++ q) = .ok v q := by
 obtain ⟨R, e, hr⟩ := rd_inp (n := [nmI v.name]) h.2.1 h.2.2 hq (fun t b x => (⟨v.name, t, b, x⟩ : VD))
 show varP (sgT 36 :: (tok0 (inpI [nmI v.name] v.t v.has v.v) ++ q)) = _
 rw [e]
 show varP (sgT 36 :: nmT v.name :: sgT 58 :: R) = _
 unfold varP; rw [wantP_sg]
 show ((nameP (nmT v.name :: sgT 58 :: R)).bind fun s r2 => (wantP [58] r2).bind fun _ r3 => (typP 24 r3).bind fun t r4 => if isT [61] r4 then (valueP true 24 r4.tail).bind fun v r5 => .ok (VD.mk s t true v) r5 else .ok (VD.mk s t false VT.zero) r4) = _
 rw [nameP_nm]
 show ((wantP [58] (sgT 58 :: R)).bind fun _ r3 => (typP 24 r3).bind fun t r4 => if isT [61] r4 then (valueP true 24 r4.tail).bind fun x r5 => .ok (VD.mk v.name t true x) r5 else .ok (VD.mk v.name t false VT.zero) r4) = _
 rw [wantP_sg]; exact hr
theorem rd_op {o : OP} (h : GoodO o) (q : List Tok) : opP (tok0 (opI o) ++ q) = .ok o q := by
 obtain ⟨mu, name, vars, sub⟩ := o; obtain ⟨h1, h2, h3⟩ := h; have h1 : name = [] ∨ NameOk name := h1; have h3 : GoodS 24 sub := h3; have h2 : ∀ v ∈ vars, GoodI v.name v.t v.has v.v := h2; obtain ⟨S, hS⟩ : ∃ S, tok0 (setI sub) ++ q = S := ⟨_, rfl⟩; obtain ⟨V, hV⟩ : ∃ V, tok0 (parI (vars.map varI)) ++ S = V := ⟨_, rfl⟩; have s1 : ∃ r, S = sgT 123 :: r := by rw [← hS]; unfold setI; rw [tok0_br]; exact ⟨_, rfl⟩
 obtain ⟨sr, s1⟩ := s1; have v1 : isK 1 V = false ∧ isS [40] V = decide (vars ≠ []) := by
  rw [← hV, tok0_par]
  by_cases hv : vars = []
  ·subst hv; rw [if_pos (show ([] : List VD).map varI = [] from rfl), s1]; exact ⟨rfl, isS_sg _ _ _⟩
  ·rw [if_neg (by simpa using hv), decide_eq_true hv]; exact ⟨rfl, isS_sg _ _ _⟩
 have hvs : (if isS [40] V then manyP varP [41] (V.length + 1) [] V.tail else .ok [] V) = .ok vars S := by
  by_cases hv : vars = []
  ·rw [if_neg (by rw [v1.2, hv]; decide), hv, ← hV, hv]; rfl
  ·rw [if_pos (by rw [v1.2]; exact decide_eq_true hv), ← hV, tok0_par, if_neg (by simpa using hv)]; have e : (sgT 40 :: ((vars.map varI).flatMap tok0 ++ [sgT 41]) ++ S) = sgT 40 :: (vars.flatMap (fun x => tok0 (varI x)) ++ sgT 41 :: S) := by
    rw [List.flatMap_map, List.cons_append, List.append_assoc]; rfl
   rw [e]; exact rd_many varP_takes (Stp := StpI) (fun q => ⟨by rw [isT_sg]; decide, by rw [isT_sg]; decide⟩) vars hv (fun x hx => ⟨fun q hq => rd_var (h2 x hx) hq, fun q => ⟨isT_sg _ _ _, ⟨isT_sg _ _ _, isT_sg _ _ _⟩⟩⟩) _ [] S (by simp only [List.length_cons, List.length_append]; omega)
 have hend : ∀ (m : Bool) (s : List UInt8), ((if isS [40] V then manyP varP [41] (V.length + 1) [] V.tail else .ok [] V).bind fun vs r3 => (setP 24 r3).bind fun sub r4 => .ok (OP.mk m s vs sub) r4) = .ok ⟨m, s, vars, sub⟩ q := fun m s => by
  rw [hvs]
  show ((setP 24 S).bind fun sub r4 => .ok (OP.mk m s vars sub) r4) = _
  rw [← hS, rd_set 24 sub h3]; rfl
 have e : tok0 (opI ⟨mu, name, vars, sub⟩) ++ q = nmT (if mu then wMutation else wQuery) :: (tok0 (if name = [] then [] else [.sp 32, nmI name]) ++ V) := by
  show nmT (if mu then wMutation else wQuery) :: (tok0 ((if name = [] then [] else [.sp 32, nmI name]) ++ parI (vars.map varI) ++ setI sub) ++ q) = _
  rw [tok0_app, tok0_app, List.append_assoc, List.append_assoc, hS, hV]
 rw [e]; unfold opP
 have hn : ∀ m : Bool, ((if isK 1 (tok0 (if name = [] then [] else [.sp 32, nmI name]) ++ V) then nameP (tok0 (if name = [] then [] else [.sp 32, nmI name]) ++ V) else .ok [] (tok0 (if name = [] then [] else [.sp 32, nmI name]) ++ V)).bind fun s r2 =>
   (if isS [40] r2 then manyP varP [41] (r2.length + 1) [] r2.tail else .ok [] r2).bind fun vs r3 => (setP 24 r3).bind fun sub r4 => .ok (OP.mk m s vs sub) r4) = .ok ⟨m, name, vars, sub⟩ q := fun m => by
  by_cases hn0 : name = []
  ·subst hn0; rw [if_pos rfl]
   show ((if isK 1 V then nameP V else .ok [] V).bind _) = _
   rw [if_neg (by rw [v1.1]; decide)]; exact hend m []
  ·rw [if_neg hn0]
   show ((if isK 1 (nmT name :: V) then nameP (nmT name :: V) else _).bind _) = _
   rw [if_pos (show isK 1 (nmT name :: V) = true from rfl), nameP_nm]; exact hend m name
 cases mu
 ·rw [if_neg (show ¬ false = true by decide), if_neg (by rw [isT_nm]; decide), wantP_nm]; exact hn false
 ·rw [if_pos (show true = true from rfl), if_pos (by rw [isT_nm]; decide)]; exact hn true
theorem rd_fr {f : FR} (h : GoodF f) (q : List Tok) : ∃ r, tok0 (frI f) ++ q = nmT wFragment :: r ∧ fragP r = .ok f q := by
 obtain ⟨name, on_, sub⟩ := f; obtain ⟨h1, h2, h3, h4⟩ := h; refine ⟨nmT name :: nmT wOn :: nmT on_ :: (tok0 (setI sub) ++ q), rfl, ?_⟩
 unfold fragP; rw [if_neg (by show ¬ (decide (1 = 1) && decide (name = wOn)) = true; rw [decide_eq_false h2]; simp), nameP_nm, okb, wantP_nm, okb, nameP_nm, okb, rd_set 24 sub h4, okb]
theorem def_op (acc : DC) {o : OP} (h : GoodO o) (q : List Tok) : defP acc (tok0 (opI o) ++ q) = .ok ⟨acc.ops ++ [o], acc.frags⟩ q ∧ isK 0 (tok0 (opI o) ++ q) = false := by
 refine ⟨?_, rfl⟩
 obtain ⟨r, hr⟩ : ∃ r, tok0 (opI o) ++ q = nmT (if o.mut_ then wMutation else wQuery) :: r := ⟨_, rfl⟩; have h2 := rd_op h q; unfold defP; rw [hr, if_neg (by rw [isS_nm]; decide), if_neg (by rw [isT_nm]; cases o.mut_ <;> decide), ← hr, h2]; rfl
theorem def_fr (acc : DC) {f : FR} (h : GoodF f) (q : List Tok) : defP acc (tok0 (frI f) ++ q) = .ok ⟨acc.ops, acc.frags ++ [f]⟩ q ∧ isK 0 (tok0 (frI f) ++ q) = false := by
 obtain ⟨r, hr, h2⟩ := rd_fr h q; rw [hr]; refine ⟨?_, rfl⟩
 unfold defP; rw [if_neg (by rw [isS_nm]; decide), if_pos (by rw [isT_nm]; decide)]
 show ((fragP r).bind _) = _
 rw [h2]; rfl
theorem rd_frs {E : Tok} (h0 : E.kind = 0) : ∀ (fs : List FR), fs ≠ [] → (∀ f ∈ fs, GoodF f) → ∀ (n : Nat) (acc : DC), fs.length ≤ n → docF n acc ((fs.flatMap fun f => tok0 (frI f)) ++ [E]) = .ok ⟨acc.ops, acc.frags ++ fs⟩ [E]
 | [], h, _, _, _, _ => absurd rfl h
 | f :: fs, _, h, 0, _, hn => by simp at hn
 | [f], _, h, n + 1, acc, _ => by
  rw [List.flatMap_cons, List.flatMap_nil, List.append_nil, docF, (def_fr acc (h f (by simp)) [E]).1]
  show (if isK 0 [E] then _ else _) = _
  rw [if_pos (by unfold isK; exact decide_eq_true h0)]
 | f :: f2 :: fs, _, h, n + 1, acc, hn => by
  rw [List.flatMap_cons, List.append_assoc, docF, (def_fr acc (h f (by simp)) _).1, okb, if_neg (by rw [List.flatMap_cons, List.append_assoc, (def_fr acc (h f2 (by simp)) _).2]; decide), rd_frs h0 (f2 :: fs) (by simp) (fun g hg => h g (by simp [List.mem_cons.1 hg])) n _ (by simp only [List.length_cons] at hn ⊢; omega)]; simp
theorem rd_ops {E : Tok} (h0 : E.kind = 0) (fs : List FR) (hf : ∀ f ∈ fs, GoodF f) : ∀ (os : List OP), os ≠ [] ∨ fs ≠ [] → (∀ o ∈ os, GoodO o) → ∀ (n : Nat) (acc : DC), os.length + fs.length ≤ n → docF n acc ((os.flatMap fun o => tok0 (opI o)) ++ ((fs.flatMap fun f => tok0 (frI f)) ++ [E])) = .ok ⟨acc.ops ++ os, acc.frags ++ fs⟩ [E]
 | [], h, _, n, acc, hn => by
  have h : fs ≠ [] := by rcases h with h | h; exact absurd rfl h; exact h
  show docF n acc ((fs.flatMap fun f => tok0 (frI f)) ++ [E]) = _
  rw [rd_frs h0 fs h hf n acc (by simpa using hn), List.append_nil]
 | o :: os, _, h, 0, _, hn => by simp at hn
 | o :: os, _, h, n + 1, acc, hn => by
  simp only [List.length_cons] at hn; obtain ⟨q, hq⟩ : ∃ q, (os.flatMap fun o => tok0 (opI o)) ++ ((fs.flatMap fun f => tok0 (frI f)) ++ [E]) = q := ⟨_, rfl⟩; rw [List.flatMap_cons, List.append_assoc, hq, docF, (def_op acc (h o (by simp)) q).1, okb]
  by_cases he : os = [] ∧ fs = []
  ·obtain ⟨rfl, rfl⟩ := he; rw [if_pos (by rw [← hq]; show isK 0 [E] = true; unfold isK; exact decide_eq_true h0), ← hq]; simp
  ·have hk : isK 0 q = false := by
    rw [← hq]
    cases os with
    | nil =>
     cases fs with
     | nil => exact absurd ⟨rfl, rfl⟩ he
     | cons f fs => show isK 0 (((f :: fs).flatMap fun f => tok0 (frI f)) ++ [E]) = false; rw [List.flatMap_cons, List.append_assoc]; exact (def_fr acc (hf f (by simp)) _).2
    | cons o2 os => rw [List.flatMap_cons, List.append_assoc]; exact (def_op acc (h o2 (by simp)) _).2
   rw [if_neg (by rw [hk]; decide), ← hq, rd_ops h0 fs hf os (by rcases Classical.em (os = []) with h1 | h1; exact .inr (fun h2 => he ⟨h1, h2⟩); exact .inl h1) (fun g hg => h g (by simp [hg])) n _ (by omega)]; simp
theorem rd_doc {E : Tok} (h0 : E.kind = 0) {d : DC} (h : GoodDoc d) (hne : d.ops ≠ [] ∨ d.frags ≠ []) {n : Nat} (hn : d.ops.length + d.frags.length ≤ n) : docF n ⟨[], []⟩ (tok0 (docI d) ++ [E]) = .ok d [E] := by
 unfold docI; rw [tok0_sep rfl, List.flatMap_append, List.flatMap_map, List.flatMap_map, List.append_assoc, rd_ops h0 d.frags h.2 d.ops hne h.1 n ⟨[], []⟩ hn]
 rfl
def EndR : List Tok → Prop
 | [] => False
 | [t] => t.kind = 0
 | _ :: t :: r => EndR (t :: r)
theorem EndR.tail {t : Tok} {r : List Tok} (h : EndR (t :: r)) (hk : t.kind ≠ 0) : EndR r := by
 cases r with
 | nil => exact absurd h hk
 | cons u r => exact h
theorem numP_bad {l : List UInt8} {o e : Nat} (h : numP l = .bad o e) : e ≠ 0 := by
 unfold numP at h; simp only at h
 repeat' split at h
 all_goals first
  | (injection h with _ h; omega)
  | cases h
theorem txtP_bad : ∀ (m : Nat) (l acc : List UInt8) (k : Nat) {o e : Nat}, l.length ≤ m → txtP acc k l = .bad o e → e ≠ 0
 | _, [], acc, k, o, e, _, h => by
  rw [txtP.eq_def] at h; injection h with _ h; omega
 | 0, c :: l, acc, k, o, e, hl, h => by simp at hl
 | m + 1, c :: l, acc, k, o, e, hl, h => by
  simp only [List.length_cons] at hl; rw [txtP.eq_def] at h; simp only at h
  split at h
  ·split at h
   ·injection h with _ h; omega
   ·cases h
  ·split at h
   ·injection h with _ h; omega
   ·split at h
    ·cases l with
     | nil => injection h with _ h; omega
     | cons d l' =>
      simp only [List.length_cons] at hl; simp only at h
      split at h
      ·exact txtP_bad m l' _ _ (by omega) h
      ·split at h
       ·exact txtP_bad m l' _ _ (by omega) h
       ·split at h
        ·exact txtP_bad m l' _ _ (by omega) h
        ·injection h with _ h; omega
    ·exact txtP_bad m l _ _ (by omega) h
theorem oneP_bad {l : List UInt8} {o e : Nat} (h : oneP l = .bad o e) : e ≠ 0 := by
 cases l with
 | nil => injection h with _ h; omega
 | cons c l =>
  rw [oneP_cons] at h
  split at h
  ·split at h
   ·injection h with _ h; omega
   ·cases h
  ·split at h
   ·exact numP_bad h
   ·split at h
    ·exact txtP_bad _ l _ _ (Nat.le_refl _) h
    ·split at h
     ·cases h
     ·split at h
      ·cases h
      ·injection h with _ h; omega
theorem toksF_bad : ∀ (f a : Nat) (l : List UInt8) {x e : Nat}, toksF f a l = .bad x e → e ≠ 0
 | 0, a, l, x, e, h => by injection h with _ h; omega
 | f + 1, a, [], x, e, h => by cases h
 | f + 1, a, c :: l, x, e, h => by
  unfold toksF at h
  split at h
  ·exact toksF_bad f _ _ h
  ·split at h
   ·exact toksF_bad f _ _ h
   ·split at h
    ·rename_i hq; injection h with _ h; subst h; exact oneP_bad hq
    ·exact toksF_bad f _ _ (Out.cons_bad h)
theorem toks_bad {s : List UInt8} {x e : Nat} (h : toks s = .bad x e) : e ≠ 0 := by
 unfold toks at h
 split at h
 ·injection h with _ h; omega
 ·exact toksF_bad _ _ _ h
theorem toksF_end : ∀ (f a : Nat) (l : List UInt8) {ts : List Tok}, toksF f a l = .ok ts → EndR ts ∧ ts.length ≤ l.length + 1
 | 0, a, l, ts, h => by cases h
 | f + 1, a, [], ts, h => by injection h with h; subst h; exact ⟨rfl, by simp⟩
 | f + 1, a, c :: l, ts, h => by
  unfold toksF at h
  split at h
  ·have := toksF_end f _ _ h; exact ⟨this.1, by simp only [List.length_cons]; omega⟩
  ·split at h
   ·have := toksF_end f _ _ h; exact ⟨this.1, by rw [List.length_drop] at this; simp only [List.length_cons]; omega⟩
   ·split at h
    ·cases h
    ·rename_i k t n len hq
     obtain ⟨us, h1, rfl⟩ := Out.cons_ok h; have := toksF_end f _ _ h1; have hl := oneP_len hq; refine ⟨?_, ?_⟩
     ·cases us with
      | nil => exact this.1.elim
      | cons u us => exact this.1
     ·rw [List.length_drop] at this; simp only [List.length_cons] at this hl ⊢; omega
theorem toks_end {s : List UInt8} {ts : List Tok} (h : toks s = .ok ts) : EndR ts ∧ ts.length ≤ 2001 := by
 obtain ⟨h1, h2⟩ := toks_ok h; have := toksF_end _ _ _ h2; exact ⟨this.1, by omega⟩
def RelT (S : Nat → Nat → Prop) : List Tok → List Tok → Prop
 | [], [] => True
 | t :: r, t' :: r' => (t.kind = t'.kind ∧ t.text = t'.text ∧ t.n = t'.n ∧ S t.at_ t'.at_) ∧ RelT S r r'
 | _, _ => False
def SimP {α : Type} (S : Nat → Nat → Prop) : PR α → PR α → Prop
 | .ok x r, .ok x' r' => x = x' ∧ RelT S r r' ∧ EndR r
 | .bad a e, .bad a' e' => e = e' ∧ S a a'
 | _, _ => False
def Sim {α : Type} (f : List Tok → PR α) : Prop := ∀ S r r', RelT S r r' → EndR r → SimP S (f r) (f r')
theorem RelT.len {S : Nat → Nat → Prop} : ∀ {r r' : List Tok}, RelT S r r' → r.length = r'.length
 | [], [], _ => rfl
 | _ :: r, _ :: r', h => by have := RelT.len h.2; simp only [List.length_cons]; omega
 | [], _ :: _, h => h.elim
 | _ :: _, [], h => h.elim
theorem EndR.ne {r : List Tok} (h : EndR r) : ∃ t u, r = t :: u := by
 cases r with
 | nil => exact h.elim
 | cons t u => exact ⟨t, u, rfl⟩
theorem RelT.cons {S : Nat → Nat → Prop} {r r' : List Tok} (h : RelT S r r') (he : EndR r) : ∃ t u t' u', r = t :: u ∧ r' = t' :: u' ∧ t.kind = t'.kind ∧ t.text = t'.text ∧ t.n = t'.n ∧ S t.at_ t'.at_ ∧ RelT S u u' := by
 obtain ⟨t, u, rfl⟩ := he.ne
 cases r' with
 | nil => exact h.elim
 | cons t' u' => exact ⟨t, u, t', u', rfl, rfl, h.1.1, h.1.2.1, h.1.2.2.1, h.1.2.2.2, h.2⟩
theorem relT_isS {S : Nat → Nat → Prop} {r r' : List Tok} (h : RelT S r r') (he : EndR r) (s : List UInt8) : isS s r' = isS s r := by
 obtain ⟨t, u, t', u', rfl, rfl, h1, h2, -⟩ := h.cons he; simp only [isS, h1, h2]
theorem relT_isW {S : Nat → Nat → Prop} {r r' : List Tok} (h : RelT S r r') (he : EndR r) (s : List UInt8) : isW s r' = isW s r := by
 obtain ⟨t, u, t', u', rfl, rfl, h1, h2, -⟩ := h.cons he; simp only [isW, h1, h2]
theorem relT_isK {S : Nat → Nat → Prop} {r r' : List Tok} (h : RelT S r r') (he : EndR r) (k : Nat) : isK k r' = isK k r := by
 obtain ⟨t, u, t', u', rfl, rfl, h1, -⟩ := h.cons he; simp only [isK, h1]
theorem relT_isT {S : Nat → Nat → Prop} {r r' : List Tok} (h : RelT S r r') (he : EndR r) (s : List UInt8) : isT s r' = isT s r := by
 unfold isT; rw [relT_isS h he, relT_isW h he]
theorem relT_at {S : Nat → Nat → Prop} {r r' : List Tok} (h : RelT S r r') (he : EndR r) : S (atT r) (atT r') := by
 obtain ⟨t, u, t', u', rfl, rfl, -, -, -, h4, -⟩ := h.cons he; exact h4
theorem relT_tail {S : Nat → Nat → Prop} {r r' : List Tok} (h : RelT S r r') (he : EndR r) (hk : isK 0 r = false) : RelT S r.tail r'.tail ∧ EndR r.tail := by
 obtain ⟨t, u, t', u', rfl, rfl, h1, h2, h3, h4, h5⟩ := h.cons he; exact ⟨h5, he.tail (by simpa [isK] using hk)⟩
theorem isS_k0 {s : List UInt8} {r : List Tok} (h : isS s r = true) : isK 0 r = false := by
 obtain ⟨t, u, rfl⟩ := isS_cons h; simp only [isS, Bool.and_eq_true, decide_eq_true_eq] at h; simp [isK, h.1]
theorem isT_k0 {s : List UInt8} {r : List Tok} (h : isT s r = true) : isK 0 r = false := by
 obtain ⟨t, u, rfl⟩ := isT_cons h; simp only [isT, isS, isW, Bool.or_eq_true, Bool.and_eq_true, decide_eq_true_eq] at h
 rcases h with h | h <;> simp [isK, h.1]
theorem sim_bind {α β : Type} {S : Nat → Nat → Prop} {p p' : PR α} {f g : α → List Tok → PR β} (h : SimP S p p') (hf : ∀ x r r', RelT S r r' → EndR r → SimP S (f x r) (g x r')) : SimP S (p.bind f) (p'.bind g) := by
 cases p with
 | ok x r => cases p' with
  | ok x' r' => obtain ⟨rfl, h2, h3⟩ := h; exact hf x r r' h2 h3
  | bad a e => exact h.elim
 | bad a e => cases p' with
  | ok x' r' => exact h.elim
  | bad a' e' => exact h
theorem sim_if {α : Type} {S : Nat → Nat → Prop} {c c' : Bool} {p q p' q' : PR α} (hc : c' = c) (h1 : c = true → SimP S p p') (h2 : c = false → SimP S q q') : SimP S (if c then p else q) (if c' then p' else q') := by
 subst hc
 cases c' with
 | true => exact h1 rfl
 | false => exact h2 rfl
theorem want_sim (s : List UInt8) : Sim (wantP s) := fun S r r' h e => by
 unfold wantP; refine sim_if (relT_isT h e s) (fun hs => ?_) (fun _ => ?_)
 ·obtain ⟨h1, h2⟩ := relT_tail h e (isT_k0 hs); exact ⟨rfl, h1, h2⟩
 ·exact ⟨rfl, relT_at h e⟩
theorem name_sim : Sim nameP := fun S r r' h e => by
 obtain ⟨t, u, t', u', rfl, rfl, h1, h2, h3, h4, h5⟩ := h.cons e
 show SimP S (if t.kind = 1 then .ok t.text u else .bad t.at_ 4) (if t'.kind = 1 then .ok t'.text u' else .bad t'.at_ 4)
 rw [h1, h2]
 split
 ·rename_i hk
  exact ⟨rfl, h5, e.tail (by omega)⟩
 ·exact ⟨rfl, h4⟩
theorem many_sim {α : Type} {f : List Tok → PR α} (hf : Sim f) (close : List UInt8) : ∀ (n : Nat) (acc : List α), Sim (manyP f close n acc)
 | 0, acc => fun S r r' h e => ⟨rfl, relT_at h e⟩
 | n + 1, acc => fun S r r' h e => by
  rw [manyP, manyP]; exact sim_bind (hf S r r' h e) fun x r1 r1' h e => sim_if (relT_isT h e close) (fun hs => by obtain ⟨h1, h2⟩ := relT_tail h e (isT_k0 hs); exact ⟨rfl, h1, h2⟩) (fun _ => many_sim hf close n _ S _ _ h e)
theorem any_sim {α : Type} {f : List Tok → PR α} (hf : Sim f) (close : List UInt8) : ∀ (n : Nat) (acc : List α), Sim (anyP f close n acc)
 | 0, acc => fun S r r' h e => ⟨rfl, relT_at h e⟩
 | n + 1, acc => fun S r r' h e => by
  rw [anyP, anyP]; exact sim_if (relT_isT h e close) (fun hs => by obtain ⟨h1, h2⟩ := relT_tail h e (isT_k0 hs); exact ⟨rfl, h1, h2⟩) (fun _ => sim_bind (hf S r r' h e) fun x r1 r1' h e => any_sim hf close n _ S _ _ h e)
theorem pair_sim {f : List Tok → PR VT} (hf : Sim f) : Sim (pairP f) := fun S r r' h e => sim_bind (name_sim S r r' h e) fun s r1 r1' h e => sim_bind (want_sim _ S r1 r1' h e) fun _ r2 r2' h e => sim_bind (hf S r2 r2' h e) fun v r3 r3' h e => ⟨rfl, h, e⟩
theorem valueB_eqn (fixed : Bool) (f : List Tok → PR VT) (t : Tok) (r : List Tok) : valueB fixed f (t :: r) =
  if t.kind = 2 then .ok (.mk 1 t.n [] [] []) r
  else if t.kind = 3 then .ok (.mk 2 0 t.text [] []) r
  else if isT wTrue (t :: r) then .ok (.mk 3 1 [] [] []) r
  else if isT wFalse (t :: r) then .ok (.mk 3 0 [] [] []) r
  else if isT wNull (t :: r) then .ok VT.zero r
  else if t.kind = 1 then .ok (.mk 4 0 t.text [] []) r
  else if !fixed && isT [36] (t :: r) then (nameP r).bind fun s r1 => .ok (.mk 7 0 s [] []) r1
  else if isT [91] (t :: r) then (anyP f [93] (r.length + 1) [] r).bind fun vs r1 => .ok (.mk 5 0 [] [] vs) r1
  else if isT [123] (t :: r) then (anyP (pairP f) [125] (r.length + 1) [] r).bind fun ps r1 => .ok (.mk 6 0 [] (ps.map (·.1)) (ps.map (·.2))) r1
  else .bad t.at_ 4 := rfl
theorem valueB_sim (fixed : Bool) {f : List Tok → PR VT} (hf : Sim f) : Sim (valueB fixed f) := fun S r r' h e => by
 have hT := fun s => relT_isT h e s
 obtain ⟨t, u, t', u', rfl, rfl, h1, h2, h3, h4, h5⟩ := h.cons e; have hl := h5.len; rw [valueB_eqn, valueB_eqn, hT, hT, hT, hT, hT, hT, ← h1, ← h2, ← h3, ← hl]; have hu : isT wTrue (t :: u) = true ∨ isT wFalse (t :: u) = true ∨ isT wNull (t :: u) = true ∨ isT [36] (t :: u) = true ∨ isT [91] (t :: u) = true ∨ isT [123] (t :: u) = true → EndR u := fun hh => by
  have : isK 0 (t :: u) = false := by rcases hh with hh | hh | hh | hh | hh | hh <;> exact isT_k0 hh
  exact e.tail (by simpa [isK] using this)
 split
 ·exact ⟨rfl, h5, e.tail (by omega)⟩
 ·split
  ·exact ⟨rfl, h5, e.tail (by omega)⟩
  ·split
   ·rename_i hh; exact ⟨rfl, h5, hu (.inl hh)⟩
   ·split
    ·rename_i hh; exact ⟨rfl, h5, hu (.inr (.inl hh))⟩
    ·split
     ·rename_i hh; exact ⟨rfl, h5, hu (.inr (.inr (.inl hh)))⟩
     ·split
      ·exact ⟨rfl, h5, e.tail (by omega)⟩
      ·split
       ·rename_i hh
        simp only [Bool.and_eq_true] at hh; exact sim_bind (name_sim S u u' h5 (hu (.inr (.inr (.inr (.inl hh.2)))))) fun s r1 r1' h e => ⟨rfl, h, e⟩
       ·split
        ·rename_i hh
         exact sim_bind (any_sim hf _ _ _ S u u' h5 (hu (.inr (.inr (.inr (.inr (.inl hh))))))) fun s r1 r1' h e => ⟨rfl, h, e⟩
        ·split
         ·rename_i hh
          exact sim_bind (any_sim (pair_sim hf) _ _ _ S u u' h5 (hu (.inr (.inr (.inr (.inr (.inr hh))))))) fun s r1 r1' h e => ⟨rfl, h, e⟩
         ·exact ⟨rfl, h4⟩
theorem value_sim (fixed : Bool) : ∀ d, Sim (valueP fixed d)
 | 0 => fun S r r' h e => ⟨rfl, relT_at h e⟩
 | d + 1 => valueB_sim fixed (value_sim fixed d)
theorem bang_sim (mk : Bool → TR) : Sim (bangP mk) := fun S r r' h e => by
 unfold bangP; exact sim_if (relT_isT h e _) (fun hs => by obtain ⟨h1, h2⟩ := relT_tail h e (isT_k0 hs); exact ⟨rfl, h1, h2⟩) (fun _ => ⟨rfl, h, e⟩)
theorem typ_sim : ∀ d, Sim (typP d)
 | 0 => fun S r r' h e => ⟨rfl, relT_at h e⟩
 | d + 1 => fun S r r' h e => by
  rw [typP, typP]; refine sim_if (relT_isT h e _) (fun hs => ?_) (fun _ => ?_)
  ·obtain ⟨h1, h2⟩ := relT_tail h e (isT_k0 hs); exact sim_bind (typ_sim d S _ _ h1 h2) fun t r1 r1' h e => sim_bind (want_sim _ S _ _ h e) fun _ r2 r2' h e => bang_sim _ S _ _ h e
  ·exact sim_bind (name_sim S _ _ h e) fun s r1 r1' h e => bang_sim _ S _ _ h e
theorem arg_sim (d : Nat) : Sim (argP d) := fun S r r' h e => sim_bind (name_sim S _ _ h e) fun s r1 r1' h e => sim_bind (want_sim _ S _ _ h e) fun _ r2 r2' h e => sim_bind (value_sim _ _ S _ _ h e) fun v r3 r3' h e => ⟨rfl, h, e⟩
theorem args_sim (d : Nat) : Sim (argsP d) := fun S r r' h e => by
 unfold argsP; rw [h.len]; refine sim_if (relT_isS h e _) (fun hs => ?_) (fun _ => ⟨rfl, h, e⟩)
 obtain ⟨h1, h2⟩ := relT_tail h e (isS_k0 hs); exact many_sim (arg_sim d) _ _ _ S _ _ h1 h2
theorem dir_sim (d : Nat) : Sim (dirP d) := fun S r r' h e => sim_bind (name_sim S _ _ h e) fun s r1 r1' h e => sim_bind (args_sim d S _ _ h e) fun v r3 r3' h e => ⟨rfl, h, e⟩
theorem dirs_sim (d : Nat) : ∀ (n : Nat) (acc : List DR), Sim (dirsP d n acc)
 | 0, acc => fun S r r' h e => ⟨rfl, relT_at h e⟩
 | n + 1, acc => fun S r r' h e => by
  rw [dirsP, dirsP]; refine sim_if (relT_isT h e _) (fun hs => ?_) (fun _ => ⟨rfl, h, e⟩)
  obtain ⟨h1, h2⟩ := relT_tail h e (isT_k0 hs); exact sim_bind (dir_sim d S _ _ h1 h2) fun x r1 r1' h e => dirs_sim d n _ S _ _ h e
theorem sel_sim (d : Nat) {g : List Tok → PR (List SL)} (hg : Sim g) : Sim (selP d g) := fun S r r' h e => by
 unfold selP; refine sim_if (relT_isT h e _) (fun hs => ?_) (fun _ => ?_)
 ·obtain ⟨h, e⟩ := relT_tail h e (isT_k0 hs); refine sim_if (relT_isT h e _) (fun hs => ?_) (fun _ => sim_if (relT_isK h e _) (fun hk => ?_) (fun _ => ?_))
  ·obtain ⟨h, e⟩ := relT_tail h e (isT_k0 hs); exact sim_bind (name_sim S _ _ h e) fun s r1 r1' h e => by rw [h.len]; exact sim_bind (dirs_sim d _ _ S _ _ h e) fun ds r2 r2' h e => sim_bind (hg S _ _ h e) fun sub r3 r3' h e => ⟨rfl, h, e⟩
  ·exact sim_bind (name_sim S _ _ h e) fun s r1 r1' h e => by rw [h.len]; exact sim_bind (dirs_sim d _ _ S _ _ h e) fun ds r2 r2' h e => ⟨rfl, h, e⟩
  ·rw [h.len]; exact sim_bind (dirs_sim d _ _ S _ _ h e) fun ds r2 r2' h e => sim_bind (hg S _ _ h e) fun sub r3 r3' h e => ⟨rfl, h, e⟩
 ·refine sim_bind (name_sim S _ _ h e) fun s r1 r1' h e => sim_bind (sim_if (relT_isT h e _) (fun hs => ?_) (fun _ => ⟨rfl, h, e⟩)) fun p r2 r2' h e => sim_bind (args_sim d S _ _ h e) fun gs r3 r3' h e => ?_
  ·obtain ⟨h, e⟩ := relT_tail h e (isT_k0 hs); exact sim_bind (name_sim S _ _ h e) fun s r1 r1' h e => ⟨rfl, h, e⟩
  ·rw [h.len]; exact sim_bind (dirs_sim d _ _ S _ _ h e) fun ds r4 r4' h e => sim_bind (sim_if (relT_isS h e _) (fun _ => hg S _ _ h e) (fun _ => ⟨rfl, h, e⟩)) fun sub r5 r5' h e => ⟨rfl, h, e⟩
theorem set_sim : ∀ d, Sim (setP d)
 | 0 => fun S r r' h e => ⟨rfl, relT_at h e⟩
 | d + 1 => fun S r r' h e => by
  rw [setP, setP]; exact sim_bind (want_sim _ S _ _ h e) fun _ r1 r1' h e => by rw [h.len]; exact many_sim (sel_sim d (set_sim d)) _ _ _ S _ _ h e
theorem var_sim : Sim varP := fun S r r' h e => by
 unfold varP; refine sim_bind (want_sim _ S _ _ h e) fun _ r1 r1' h e => sim_bind (name_sim S _ _ h e) fun s r2 r2' h e => sim_bind (want_sim _ S _ _ h e) fun _ r3 r3' h e => sim_bind (typ_sim _ S _ _ h e) fun t r4 r4' h e => sim_if (relT_isT h e _) (fun hs => ?_) (fun _ => ⟨rfl, h, e⟩)
 obtain ⟨h, e⟩ := relT_tail h e (isT_k0 hs); exact sim_bind (value_sim _ _ S _ _ h e) fun v r5 r5' h e => ⟨rfl, h, e⟩
theorem op_sim : Sim opP := fun S r r' h e => by
 unfold opP; refine sim_bind (sim_if (relT_isT h e _) (fun hs => ?_) (fun _ => ?_)) fun m r1 r1' h e => sim_bind (sim_if (relT_isK h e _) (fun _ => name_sim S _ _ h e) (fun _ => ⟨rfl, h, e⟩)) fun s r2 r2' h e => sim_bind (?_) fun vs r3 r3' h e => sim_bind (set_sim _ S _ _ h e) fun sub r4 r4' h e => ⟨rfl, h, e⟩
 ·obtain ⟨h, e⟩ := relT_tail h e (isT_k0 hs); exact ⟨rfl, h, e⟩
 ·exact sim_bind (want_sim _ S _ _ h e) fun _ r1 r1' h e => ⟨rfl, h, e⟩
 ·rw [h.len]; refine sim_if (relT_isS h e _) (fun hs => ?_) (fun _ => ⟨rfl, h, e⟩)
  obtain ⟨h, e⟩ := relT_tail h e (isS_k0 hs); exact many_sim var_sim _ _ _ S _ _ h e
theorem frag_sim : Sim fragP := fun S r r' h e => by
 unfold fragP; exact sim_if (relT_isW h e _) (fun _ => ⟨rfl, relT_at h e⟩) (fun _ => sim_bind (name_sim S _ _ h e) fun s r1 r1' h e => sim_bind (want_sim _ S _ _ h e) fun _ r2 r2' h e => sim_bind (name_sim S _ _ h e) fun o r3 r3' h e => sim_bind (set_sim _ S _ _ h e) fun sub r4 r4' h e => ⟨rfl, h, e⟩)
theorem def_sim (d : DC) : Sim (defP d) := fun S r r' h e => by
 unfold defP; refine sim_if (relT_isS h e _) (fun _ => ?_) (fun _ => sim_if (relT_isT h e _) (fun hs => ?_) (fun _ => ?_))
 ·exact sim_bind (set_sim _ S _ _ h e) fun sub r1 r1' h e => ⟨rfl, h, e⟩
 ·obtain ⟨h, e⟩ := relT_tail h e (isT_k0 hs); exact sim_bind (frag_sim S _ _ h e) fun f r1 r1' h e => ⟨rfl, h, e⟩
 ·exact sim_bind (op_sim S _ _ h e) fun f r1 r1' h e => ⟨rfl, h, e⟩
theorem doc_sim : ∀ (n : Nat) (d : DC), Sim (docF n d)
 | 0, d => fun S r r' h e => ⟨rfl, relT_at h e⟩
 | n + 1, d => fun S r r' h e => by
  rw [docF, docF]; exact sim_bind (def_sim d S _ _ h e) fun d1 r1 r1' h e => sim_if (relT_isK h e _) (fun _ => ⟨rfl, h, e⟩) (fun _ => doc_sim n d1 S _ _ h e)
def JnP {α : Type} (E : Tok) (tl pre : List Tok) (p p' : PR α) : Prop := match p with
 | .bad _ _ => True
 | .ok x r1 => ∃ u, u <:+ pre ∧ r1 = u ++ [E] ∧ (u ≠ [] → p' = .ok x (u ++ tl))
def JcP {α : Type} (E : Tok) (tl pre : List Tok) (p p' : PR α) : Prop := match p with
 | .bad _ _ => True
 | .ok x r1 => ∃ u, u <:+ pre ∧ u.length < pre.length ∧ r1 = u ++ [E] ∧ p' = .ok x (u ++ tl)
section
variable {E : Tok} {tl : List Tok}
theorem JcP.jn {α : Type} {pre : List Tok} {p p' : PR α} (h : JcP E tl pre p p') : JnP E tl pre p p' := by
 cases p with
 | bad a e => trivial
 | ok x r => obtain ⟨u, h1, h2, h3, h4⟩ := h; exact ⟨u, h1, h3, fun _ => h4⟩
theorem JnP.ok {α : Type} (x : α) (pre : List Tok) : JnP E tl pre (.ok x (pre ++ [E])) (.ok x (pre ++ tl)) := ⟨pre, List.suffix_refl _, rfl, fun _ => rfl⟩
theorem JcP.ok {α : Type} (x : α) (a : Tok) (pre : List Tok) : JcP E tl (a :: pre) (.ok x (pre ++ [E])) (.ok x (pre ++ tl)) := ⟨pre, List.suffix_cons _ _, by simp, rfl, rfl⟩
def DC.app (d m : DC) : DC := ⟨d.ops ++ m.ops, d.frags ++ m.frags⟩
def PR.map {α β : Type} (h : α → β) : PR α → PR β
 | .ok x r => .ok (h x) r
 | .bad a e => .bad a e
end
def CutP {α : Type} (t E : Tok) (post : List Tok) (p p' : PR α) : Prop := match p with
 | .bad _ _ => True
 | .ok x r1 => (∃ u, r1 = u ++ t :: post ∧ p' = .ok x (u ++ [E])) ∨ (r1.length ≤ post.length ∧ p' = .bad E.at_ 4)
section
variable {t E : Tok} {post : List Tok}
theorem CutP.ok {α : Type} (x : α) (u : List Tok) : CutP t E post (.ok x (u ++ t :: post)) (.ok x (u ++ [E])) := .inl ⟨u, rfl, rfl⟩
theorem CutP.out {α : Type} {p p' : PR α} (h : ∀ x r, p ≠ .ok x r) : CutP t E post p p' := by
 cases p with
 | ok x r => exact absurd rfl (h x r)
 | bad a e => trivial
end
def DR1.up (n : Nat) (d : DC) : DR1 → DR1
 | .ok m => .ok (d.app m)
 | .bad a e => .bad (a + n) e
theorem DC.app_nil (d : DC) : d.app ⟨[], []⟩ = d := by cases d; simp [DC.app]
def GTok (t : Tok) : Prop := (t.kind = 1 → NameOk t.text) ∧ (t.kind = 2 → NumOk t.n) ∧ (t.kind = 3 → t.text.length ≤ 200)
def GT (r : List Tok) : Prop := ∀ t ∈ r, GTok t
theorem oneP_good {l : List UInt8} {k : Nat} {t : List UInt8} {n : Int} {len : Nat} (h : oneP l = .ok k t n len) (a : Nat) : GTok ⟨k, t, n, a⟩ := by
 cases l with
 | nil => cases h
 | cons c l =>
  rw [oneP_cons] at h
  split at h
  ·rename_i hc
   split at h
   ·cases h
   ·rename_i hl
    injection h with h1 h2 h3 h4
    subst h1; subst h2; refine ⟨fun _ => ?_, fun h => absurd h (by simp), fun h => absurd h (by simp)⟩
    have hp : 1 ≤ runL ldB (c :: l) := runL_pos (by unfold ldB; rw [hc]; rfl); have hle := runL_le ldB (c :: l); refine ⟨⟨c, l.take (runL ldB (c :: l) - 1), ?_, hc⟩, runL_take_all (c :: l), ?_⟩
    ·obtain ⟨m, hm⟩ : ∃ m, runL ldB (c :: l) = m + 1 := ⟨runL ldB (c :: l) - 1, by omega⟩
     show List.take (runL ldB (c :: l)) (c :: l) = _
     rw [hm]; rfl
    ·show (List.take (runL ldB (c :: l)) (c :: l)).length ≤ 32
     rw [List.length_take]; omega
  ·split at h
   ·obtain ⟨D, h1, h2, h3, h4, h5, h6, h7, -⟩ := numP_ok h; subst h4; refine ⟨fun h => absurd h (by simp), fun _ => ?_, fun h => absurd h (by simp)⟩
    have hall : ∀ x ∈ ((c :: l).drop (numFrom (c :: l))).take D, digB x = true := by
     rw [← h6]; exact runL_take_all _
    have hv := decV_lt (((c :: l).drop (numFrom (c :: l))).take D) 0 0 hall (by decide); have hll : (((c :: l).drop (numFrom (c :: l))).take D).length ≤ 18 := by rw [List.length_take]; omega
    have hp := pow18 _ hll; have hn : n.natAbs = decV 0 (((c :: l).drop (numFrom (c :: l))).take D) := by rw [h7]; split <;> omega
    unfold NumOk; rw [hn]; simp only [Nat.add_zero] at hv; have : 10 ^ 18 = 1000000000000000000 := by decide
    omega
   ·split at h
    ·have := txtP_len _ _ _ h; refine ⟨fun h => absurd h (by show ¬ k = 1; omega), fun h => absurd h (by show ¬ k = 2; omega), fun _ => this.2.2.2.2⟩
    ·split at h
     ·injection h with h1 h2 h3 h4
      subst h1; exact ⟨fun h => absurd h (by simp), fun h => absurd h (by simp), fun h => absurd h (by simp)⟩
     ·split at h
      ·injection h with h1 h2 h3 h4
       subst h1; exact ⟨fun h => absurd h (by simp), fun h => absurd h (by simp), fun h => absurd h (by simp)⟩
      ·cases h
theorem toksA_good : ∀ (a : Nat) (l : List UInt8), ∀ ts, toksA a l = .ok ts → GT ts := by
 refine toksA_ind ?_ ?_ ?_ ?_ ?_
 ·intro a ts h; rw [toksA_nil] at h; injection h with h; subst h; intro t ht; rw [List.mem_singleton] at ht; subst ht; exact ⟨fun h => absurd h (by simp), fun h => absurd h (by simp), fun h => absurd h (by simp)⟩
 ·intro a c l hb ih ts h; rw [toksA_blk a hb] at h; exact ih ts h
 ·intro a c l hr ih ts h; rw [toksA_rem a hr] at h; exact ih ts h
 ·intro a c l off e hb hr hx ts h; rw [toksA_bad a hb hr hx] at h; cases h
 ·intro a c l k t n len hb hr ho ih ts h; rw [toksA_one a hb hr ho] at h; obtain ⟨us, h1, rfl⟩ := Out.cons_ok h; intro u hu
  rcases List.mem_cons.1 hu with rfl | hu
  ·exact oneP_good ho a
  ·exact ih us h1 u hu
theorem toks_good {s : List UInt8} {ts : List Tok} (h : toks s = .ok ts) : GT ts := toksA_good 0 s ts (toks_ok h).2
def Gd {α : Type} (f : List Tok → PR α) (P : α → Prop) : Prop := ∀ r x r1, GT r → f r = .ok x r1 → P x ∧ GT r1
theorem GT.tail {r : List Tok} (h : GT r) : GT r.tail := fun t ht => h t (List.mem_of_mem_tail ht)
theorem Gd.ok {α : Type} {P : α → Prop} (x : α) (h : P x) : Gd (fun r => .ok x r) P := fun r y r1 hg e => by
 injection e with e1 e2; subst e1; subst e2; exact ⟨h, hg⟩
theorem Gd.bad {α : Type} {P : α → Prop} (a : List Tok → Nat) (e : Nat) : Gd (fun r => (.bad (a r) e : PR α)) P := fun r y r1 hg e => by cases e
theorem Gd.bind {α β : Type} {f : List Tok → PR α} {g : α → List Tok → PR β} {P : α → Prop} {Q : β → Prop} (hf : Gd f P) (hg : ∀ x, P x → Gd (g x) Q) : Gd (fun r => (f r).bind g) Q := fun r y r1 h e => by
 obtain ⟨x, r2, h1, h2⟩ := bind_inv e; obtain ⟨k1, k2⟩ := hf r x r2 h h1; exact hg x k1 r2 y r1 k2 h2
theorem Gd.ite {α : Type} {c : List Tok → Bool} {f g : List Tok → PR α} {P : α → Prop} (hf : Gd f P) (hg : Gd g P) : Gd (fun r => if c r then f r else g r) P := fun r y r1 h e => by
 have e : (if c r then f r else g r) = .ok y r1 := e
 split at e
 ·exact hf r y r1 h e
 ·exact hg r y r1 h e
theorem Gd.tl {α : Type} {f : List Tok → PR α} {P : α → Prop} (hf : Gd f P) : Gd (fun r => f r.tail) P := fun r y r1 h e => hf r.tail y r1 h.tail e
theorem Gd.mono {α : Type} {f : List Tok → PR α} {P Q : α → Prop} (hf : Gd f P) (h : ∀ x, P x → Q x) : Gd f Q := fun r y r1 hg e => ⟨h y (hf r y r1 hg e).1, (hf r y r1 hg e).2⟩
theorem gd_name : Gd nameP NameOk := fun r x r1 h e => by
 cases r with
 | nil => cases e
 | cons t r =>
  have e : (if t.kind = 1 then PR.ok t.text r else .bad t.at_ 4) = .ok x r1 := e
  split at e
  ·rename_i hk
   injection e with e1 e2; subst e1; subst e2
   exact ⟨(h t (by simp)).1 hk, fun u hu => h u (by simp [hu])⟩
  ·cases e
theorem gd_want (s : List UInt8) : Gd (wantP s) (fun _ => True) := fun r x r1 h e => by
 unfold wantP at e
 split at e
 ·injection e with e1 e2; subst e2; exact ⟨trivial, h.tail⟩
 ·cases e
theorem gd_many {α : Type} {f : List Tok → PR α} {P : α → Prop} (hf : Gd f P) (c : List UInt8) : ∀ (n : Nat) (acc : List α), (∀ x ∈ acc, P x) → Gd (manyP f c n acc) (fun l => l ≠ [] ∧ ∀ x ∈ l, P x)
 | 0, acc, _ => fun r x r1 h e => by cases e
 | n + 1, acc, ha => fun r x r1 h e => by
  rw [manyP] at e; obtain ⟨y, r2, h1, h2⟩ := bind_inv e; obtain ⟨k1, k2⟩ := hf r y r2 h h1; have ha2 : ∀ z ∈ acc ++ [y], P z := fun z hz => by
   rcases List.mem_append.1 hz with hz | hz
   ·exact ha z hz
   ·rw [List.mem_singleton] at hz; subst hz; exact k1
  split at h2
  ·injection h2 with e1 e2; subst e1; subst e2; exact ⟨⟨by simp, ha2⟩, k2.tail⟩
  ·exact gd_many hf c n _ ha2 r2 x r1 k2 h2
theorem gd_any {α : Type} {f : List Tok → PR α} {P : α → Prop} (hf : Gd f P) (c : List UInt8) : ∀ (n : Nat) (acc : List α), (∀ x ∈ acc, P x) → Gd (anyP f c n acc) (fun l => ∀ x ∈ l, P x)
 | 0, acc, _ => fun r x r1 h e => by cases e
 | n + 1, acc, ha => fun r x r1 h e => by
  rw [anyP] at e
  split at e
  ·injection e with e1 e2; subst e1; subst e2; exact ⟨ha, h.tail⟩
  ·obtain ⟨y, r2, h1, h2⟩ := bind_inv e; obtain ⟨k1, k2⟩ := hf r y r2 h h1
   exact gd_any hf c n _ (fun z hz => by
    rcases List.mem_append.1 hz with hz | hz
    ·exact ha z hz
    ·rw [List.mem_singleton] at hz; subst hz; exact k1) r2 x r1 k2 h2
theorem Gd.fuel {α : Type} {F : Nat → List Tok → PR α} {P : α → Prop} (h : ∀ n, Gd (F n) P) (m : List Tok → Nat) : Gd (fun r => F (m r) r) P := fun r y r1 hg e => h (m r) r y r1 hg e
theorem gd_pair {f : List Tok → PR VT} {P : VT → Prop} (hf : Gd f P) : Gd (pairP f) (fun p => NameOk p.1 ∧ P p.2) :=
 gd_name.bind fun s hs => (gd_want _).bind fun _ _ => hf.bind fun v hv => Gd.ok _ ⟨hs, hv⟩
theorem gd_val (fx : Bool) : ∀ d, Gd (valueP fx d) (GoodV fx d)
 | 0 => fun r x r1 h e => by cases e
 | d + 1 => fun r x r1 h e => by
  have ih := gd_val fx d
  cases r with
  | nil => cases e
  | cons t r =>
   rw [valueP, vB_cons] at e; have ht := h t (by simp); have hr : GT r := fun u hu => h u (by simp [hu])
   split at e
   ·rename_i hk
    injection e with e1 e2; subst e1; subst e2
    exact ⟨.inl ⟨rfl, ht.2.1 hk, rfl, rfl, rfl⟩, hr⟩
   split at e
   ·rename_i hk
    injection e with e1 e2; subst e1; subst e2
    exact ⟨.inr (.inl ⟨rfl, rfl, ht.2.2 hk, rfl, rfl⟩), hr⟩
   split at e
   ·injection e with e1 e2; subst e1; subst e2
    exact ⟨.inr (.inr (.inl ⟨rfl, .inr rfl, rfl, rfl, rfl⟩)), hr⟩
   rename_i h1
   split at e
   ·injection e with e1 e2; subst e1; subst e2
    exact ⟨.inr (.inr (.inl ⟨rfl, .inl rfl, rfl, rfl, rfl⟩)), hr⟩
   rename_i h2
   split at e
   ·injection e with e1 e2; subst e1; subst e2
    exact ⟨.inr (.inr (.inr (.inl ⟨rfl, rfl, rfl, rfl, rfl⟩))), hr⟩
   rename_i h3
   split at e
   ·rename_i hk
    injection e with e1 e2; subst e1; subst e2
    have hw : ∀ s, isT s (t :: r) = true ↔ t.text = s := fun s => by simp [isT, isS, isW, hk]
    exact ⟨.inr (.inr (.inr (.inr (.inl ⟨rfl, rfl, ht.1 hk, fun q => h1 ((hw _).2 q), fun q => h2 ((hw _).2 q), fun q => h3 ((hw _).2 q), rfl, rfl⟩)))), hr⟩
   split at e
   ·rename_i hf
    rw [Bool.and_eq_true] at hf; obtain ⟨s, r2, k1, k2⟩ := bind_inv e; obtain ⟨g1, g2⟩ := gd_name r s r2 hr k1
    injection k2 with e1 e2; subst e1; subst e2
    exact ⟨.inr (.inr (.inr (.inr (.inr (.inl ⟨rfl, by simpa using hf.1, rfl, g1, rfl, rfl⟩))))), g2⟩
   split at e
   ·obtain ⟨vs, r2, k1, k2⟩ := bind_inv e; obtain ⟨g1, g2⟩ := gd_any ih _ _ [] (by simp) r vs r2 hr k1
    injection k2 with e1 e2; subst e1; subst e2
    exact ⟨.inr (.inr (.inr (.inr (.inr (.inr (.inl ⟨rfl, rfl, rfl, rfl, g1⟩)))))), g2⟩
   split at e
   ·obtain ⟨ps, r2, k1, k2⟩ := bind_inv e; obtain ⟨g1, g2⟩ := gd_any (gd_pair ih) _ _ [] (by simp) r ps r2 hr k1
    injection k2 with e1 e2; subst e1; subst e2
    exact ⟨.inr (.inr (.inr (.inr (.inr (.inr (.inr ⟨rfl, rfl, rfl, ps, rfl, rfl, g1⟩)))))), g2⟩
   ·cases e
theorem gd_bang {P : TR → Prop} {mk : Bool → TR} (h : ∀ b, P (mk b)) : Gd (bangP mk) P := Gd.ite (c := fun r => isT [33] r) (Gd.tl (Gd.ok _ (h true))) (Gd.ok _ (h false))
theorem gd_typ : ∀ d, Gd (typP d) (GoodT d)
 | 0 => fun r x r1 h e => by cases e
 | d + 1 => Gd.ite (c := fun r => isT [91] r) (Gd.tl ((gd_typ d).bind fun t ht => (gd_want [93]).bind (Q := GoodT (d + 1)) fun _ _ => gd_bang (mk := TR.ls t) fun b => ht)) (gd_name.bind fun s hs => gd_bang (P := GoodT (d + 1)) (mk := TR.nm s) fun b => hs)
theorem gd_arg (d : Nat) : Gd (argP d) (GoodA d) := gd_name.bind fun s hs => (gd_want _).bind fun _ _ => (gd_val false d).bind fun v hv => Gd.ok _ ⟨hs, hv⟩
theorem gd_args (d : Nat) : Gd (argsP d) (fun l => ∀ a ∈ l, GoodA d a) :=
 Gd.ite (c := fun r => isS [40] r) (fun r x r1 h e => by have := gd_many (gd_arg d) _ _ [] (by simp) _ x r1 h.tail e; exact ⟨this.1.2, this.2⟩) (Gd.ok _ (by simp))
theorem gd_dir (d : Nat) : Gd (dirP d) (GoodD d) := gd_name.bind fun s hs => (gd_args d).bind fun l hl => Gd.ok _ ⟨hs, hl⟩
theorem gd_dirs (d : Nat) : ∀ (n : Nat) (acc : List DR), (∀ x ∈ acc, GoodD d x) → Gd (dirsP d n acc) (fun l => ∀ x ∈ l, GoodD d x)
 | 0, acc, _ => fun r x r1 h e => by cases e
 | n + 1, acc, ha => fun r x r1 h e => by
  rw [dirsP] at e
  split at e
  ·obtain ⟨y, r2, h1, h2⟩ := bind_inv e; obtain ⟨k1, k2⟩ := gd_dir d _ y r2 h.tail h1
   exact gd_dirs d n _ (fun z hz => by
    rcases List.mem_append.1 hz with hz | hz
    ·exact ha z hz
    ·rw [List.mem_singleton] at hz; subst hz; exact k1) r2 x r1 k2 h2
  ·injection e with e1 e2; subst e1; subst e2; exact ⟨ha, h⟩
theorem gd_dirs' (d : Nat) : Gd (fun r => dirsP d (r.length + 1) [] r) (fun l => ∀ x ∈ l, GoodD d x) := fun r x r1 h e => gd_dirs d _ [] (by simp) r x r1 h e
theorem gd_sel (d : Nat) {g : List Tok → PR (List SL)} {G : List SL → Prop} (hg : Gd g G) : Gd (selP d g) (GoodSel d G) := fun r x r1 h e => by
 unfold selP at e
 split at e
 ·split at e
  ·obtain ⟨s, r2, h1, e⟩ := bind_inv e; obtain ⟨k1, q1⟩ := gd_name _ _ _ h.tail.tail h1; obtain ⟨ds, r3, h2, e⟩ := bind_inv e; obtain ⟨k2, q2⟩ := gd_dirs' d _ _ _ q1 h2; obtain ⟨sub, r4, h3, e⟩ := bind_inv e; obtain ⟨k3, q3⟩ := hg _ _ _ q2 h3
   injection e with e1 e2; subst e1; subst e2
   exact ⟨⟨k2, .inr (.inr ⟨rfl, rfl, rfl, .inr k1, rfl, k3⟩)⟩, q3⟩
  ·rename_i hon
   split at e
   ·rename_i hk
    obtain ⟨s, r2, h1, e⟩ := bind_inv e; obtain ⟨k1, q1⟩ := gd_name _ _ _ h.tail h1; obtain ⟨ds, r3, h2, e⟩ := bind_inv e; obtain ⟨k2, q2⟩ := gd_dirs' d _ _ _ q1 h2
    injection e with e1 e2; subst e1; subst e2
    refine ⟨⟨k2, .inr (.inl ⟨rfl, rfl, rfl, k1, ?_, rfl, rfl⟩)⟩, q2⟩
    intro hs
    cases hr : r.tail with
    | nil => rw [hr] at hk; cases hk
    | cons t u =>
     rw [hr] at hk h1 hon; have hk : t.kind = 1 := of_decide_eq_true hk; have h1 : (if t.kind = 1 then PR.ok t.text u else .bad t.at_ 4) = .ok s r2 := h1; rw [if_pos hk] at h1
     injection h1 with h1 _
     exact hon (by simp [isT, isS, isW, hk, h1, hs])
   ·obtain ⟨ds, r3, h2, e⟩ := bind_inv e; obtain ⟨k2, q2⟩ := gd_dirs' d _ _ _ h.tail h2; obtain ⟨sub, r4, h3, e⟩ := bind_inv e; obtain ⟨k3, q3⟩ := hg _ _ _ q2 h3
    injection e with e1 e2; subst e1; subst e2
    exact ⟨⟨k2, .inr (.inr ⟨rfl, rfl, rfl, .inl rfl, rfl, k3⟩)⟩, q3⟩
 ·obtain ⟨s, r2, h1, e⟩ := bind_inv e; obtain ⟨k1, q1⟩ := gd_name _ _ _ h h1; obtain ⟨p, r3, h2, e⟩ := bind_inv e; obtain ⟨k2, q2⟩ : ((p.1 = [] ∨ NameOk p.1) ∧ NameOk p.2) ∧ GT r3 := by
   split at h2
   ·obtain ⟨s2, r4, h3, h4⟩ := bind_inv h2; obtain ⟨k3, q3⟩ := gd_name _ _ _ q1.tail h3
    injection h4 with e1 e2; subst e1; subst e2
    exact ⟨⟨.inr k1, k3⟩, q3⟩
   ·injection h2 with e1 e2; subst e1; subst e2
    exact ⟨⟨.inl rfl, k1⟩, q1⟩
  obtain ⟨gs, r4, h3, e⟩ := bind_inv e; obtain ⟨k3, q3⟩ := gd_args d _ _ _ q2 h3; obtain ⟨ds, r5, h4, e⟩ := bind_inv e; obtain ⟨k4, q4⟩ := gd_dirs' d _ _ _ q3 h4; obtain ⟨sub, r6, h5, e⟩ := bind_inv e; obtain ⟨k5, q5⟩ : (sub = [] ∨ G sub) ∧ GT r6 := by
   split at h5
   ·have := hg _ _ _ q4 h5; exact ⟨.inr this.1, this.2⟩
   ·injection h5 with e1 e2; subst e1; subst e2; exact ⟨.inl rfl, q4⟩
  injection e with e1 e2; subst e1; subst e2
  exact ⟨⟨k4, .inl ⟨rfl, rfl, k2.1, k2.2, k3, k5⟩⟩, q5⟩
theorem gd_set : ∀ d, Gd (setP d) (GoodS d)
 | 0 => fun r x r1 h e => by cases e
 | d + 1 => (gd_want _).bind fun _ _ r x r1 h e => gd_many (gd_sel d (gd_set d)) _ _ [] (by simp) r x r1 h e
theorem gd_var : Gd varP (fun v => GoodI v.name v.t v.has v.v) :=
 (gd_want _).bind fun _ _ => gd_name.bind fun s hs => (gd_want _).bind fun _ _ => (gd_typ 24).bind fun t ht =>
  Gd.ite (c := fun r => isT [61] r) (Gd.tl ((gd_val true 24).bind fun v hv => Gd.ok _ ⟨hs, ht, .inl ⟨rfl, hv⟩⟩)) (Gd.ok _ ⟨hs, ht, .inr ⟨rfl, rfl⟩⟩)
theorem gd_op : Gd opP GoodO := by
 have h1 : Gd (fun r => if isT wMutation r then .ok true r.tail else (wantP wQuery r).bind fun _ r1 => .ok false r1) (fun _ => True) := Gd.ite (c := fun r => isT wMutation r) (Gd.tl (Gd.ok true trivial)) ((gd_want _).bind fun _ _ => Gd.ok false trivial); refine h1.bind fun m _ => Gd.bind (P := fun s => s = [] ∨ NameOk s) (Gd.ite (c := fun r => isK 1 r) (gd_name.mono fun _ h => .inr h) (Gd.ok _ (.inl rfl))) fun s hs => Gd.bind (P := fun vs => ∀ v ∈ vs, GoodI v.name v.t v.has v.v) (Gd.ite (c := fun r => isS [40] r) (fun r x r1 h e => ?_) (Gd.ok _ (by simp))) fun vs hv => (gd_set 24).bind fun sub hsub => Gd.ok _ ⟨hs, hv, hsub⟩
 have := gd_many gd_var _ _ [] (by simp) _ x r1 h.tail e; exact ⟨this.1.2, this.2⟩
theorem gd_frag : Gd fragP GoodF := fun r x r1 h e => by
 unfold fragP at e
 split at e
 ·cases e
 ·rename_i hon
  obtain ⟨s, r2, h1, e⟩ := bind_inv e; obtain ⟨k1, q1⟩ := gd_name _ _ _ h h1; obtain ⟨u, r3, h2, e⟩ := bind_inv e; obtain ⟨-, q2⟩ := gd_want _ _ _ _ q1 h2; obtain ⟨o, r4, h3, e⟩ := bind_inv e; obtain ⟨k3, q3⟩ := gd_name _ _ _ q2 h3; obtain ⟨sub, r5, h4, e⟩ := bind_inv e; obtain ⟨k4, q4⟩ := gd_set 24 _ _ _ q3 h4
  injection e with e1 e2; subst e1; subst e2
  refine ⟨⟨k1, fun hs => ?_, k3, k4⟩, q4⟩
  cases r with
  | nil => cases h1
  | cons t r =>
   have h1 : (if t.kind = 1 then PR.ok t.text r else .bad t.at_ 4) = .ok s r2 := h1
   split at h1
   ·rename_i hk
    injection h1 with h1 _
    exact hon (by simp only [isW, hk, decide_true, Bool.true_and, decide_eq_true_eq]; rw [h1]; exact hs)
   ·cases h1
theorem gd_doc : ∀ (n : Nat) (acc : DC), GoodDoc acc → Gd (docF n acc) (fun d => GoodDoc d ∧ (d.ops ≠ [] ∨ d.frags ≠ []))
 | 0, acc, _ => fun r x r1 h e => by cases e
 | n + 1, acc, ha => fun r x r1 h e => by
  rw [docF] at e; obtain ⟨d1, r2, h1, e⟩ := bind_inv e; obtain ⟨k1, q1⟩ : (GoodDoc d1 ∧ (d1.ops ≠ [] ∨ d1.frags ≠ [])) ∧ GT r2 := by
   unfold defP at h1; have app : ∀ {β : Type} {P : β → Prop} {l : List β} {y : β}, (∀ z ∈ l, P z) → P y → ∀ z ∈ l ++ [y], P z := fun hl hy z hz => by
    rcases List.mem_append.1 hz with hz | hz
    ·exact hl z hz
    ·rw [List.mem_singleton] at hz; subst hz; exact hy
   split at h1
   ·obtain ⟨sub, r3, h2, e⟩ := bind_inv h1; obtain ⟨k, q⟩ := gd_set 24 _ _ _ h h2
    injection e with e1 e2; subst e1; subst e2
    exact ⟨⟨⟨app ha.1 ⟨.inl rfl, by simp, k⟩, ha.2⟩, .inl (by simp)⟩, q⟩
   ·split at h1
    ·obtain ⟨f, r3, h2, e⟩ := bind_inv h1; obtain ⟨k, q⟩ := gd_frag _ _ _ h.tail h2
     injection e with e1 e2; subst e1; subst e2
     exact ⟨⟨⟨ha.1, app ha.2 k⟩, .inr (by simp)⟩, q⟩
    ·obtain ⟨o, r3, h2, e⟩ := bind_inv h1; obtain ⟨k, q⟩ := gd_op _ _ _ h h2
     injection e with e1 e2; subst e1; subst e2
     exact ⟨⟨⟨app ha.1 k, ha.2⟩, .inl (by simp)⟩, q⟩
  split at e
  ·injection e with e1 e2; subst e1; subst e2; exact ⟨k1, q1⟩
  ·exact gd_doc n d1 k1.1 r2 x r1 q1 e
theorem docP_good {s : List UInt8} {d : DC} (h : docP s = .ok d) : GoodDoc d ∧ (d.ops ≠ [] ∨ d.frags ≠ []) := by
 unfold docP at h
 cases ht : toks s with
 | bad a e => rw [ht] at h; cases h
 | ok ts =>
  rw [ht] at h; have h : (match docF (ts.length + 1) ⟨[], []⟩ ts with | .ok d _ => DR1.ok d | .bad a e => .bad a e) = .ok d := h
  cases hd : docF (ts.length + 1) ⟨[], []⟩ ts with
  | bad a e => rw [hd] at h; cases h
  | ok d1 r1 =>
   rw [hd] at h; injection h with h; subst h; exact (gd_doc _ ⟨[], []⟩ ⟨by simp, by simp⟩ ts d1 r1 (toks_good ht) hd).1
theorem LikeP.rel : ∀ {ts us : List Tok}, LikeP ts us → ∀ (E F : Tok), E.kind = F.kind → E.text = F.text → E.n = F.n → RelT (fun _ _ => True) (us ++ [F]) (ts ++ [E])
 | [], [], _, E, F, h1, h2, h3 => ⟨⟨h1.symm, h2.symm, h3.symm, trivial⟩, trivial⟩
 | [], _ :: _, h, _, _, _, _, _ => h.elim
 | _ :: _, [], h, _, _, _, _, _ => h.elim
 | t :: ts, u :: us, h, E, F, h1, h2, h3 => ⟨⟨h.1.1.symm, h.1.2.1.symm, h.1.2.2.symm, trivial⟩, LikeP.rel h.2 E F h1 h2 h3⟩
theorem LikeP.len : ∀ {ts us : List Tok}, LikeP ts us → ts.length = us.length
 | [], [], _ => rfl
 | [], _ :: _, h => h.elim
 | _ :: _, [], h => h.elim
 | t :: ts, u :: us, h => by simp only [List.length_cons]; rw [LikeP.len h.2]
theorem flat_len {α : Type} {T : α → List Tok} : ∀ {l : List α}, (∀ x ∈ l, 0 < (T x).length) → l.length ≤ (l.flatMap T).length
 | [], _ => by simp
 | x :: l, h => by
  have h1 := h x (by simp); have h2 := flat_len (l := l) (fun y hy => h y (by simp [hy])); rw [List.flatMap_cons, List.length_append, List.length_cons]; omega
theorem tok0_doc_len (d : DC) : d.ops.length + d.frags.length ≤ (tok0 (docI d)).length := by
 unfold docI; rw [tok0_sep rfl, List.flatMap_append, List.length_append, List.flatMap_map, List.flatMap_map]; have h1 := flat_len (T := fun o => tok0 (opI o)) (l := d.ops) (fun x _ => by show 0 < (_ :: _ : List Tok).length; simp); have h2 := flat_len (T := fun o => tok0 (frI o)) (l := d.frags) (fun x _ => by show 0 < (_ :: _ : List Tok).length; simp); omega
theorem doc_again {d : DC} (h : GoodDoc d) (hne : d.ops ≠ [] ∨ d.frags ≠ []) : ∃ ts, toksA 0 (ren (docI d)) = .ok ts ∧ ∃ r, docF (ts.length + 1) ⟨[], []⟩ ts = .ok d r := by
 obtain ⟨ts, h1, h2⟩ := toks_ren (docI d) 0 (ok_doc h [] Sep.nil); obtain ⟨E, hE⟩ : ∃ E : Tok, (⟨0, [], 0, 0 + (ren (docI d)).length⟩ : Tok) = E := ⟨_, rfl⟩; rw [hE] at h1; refine ⟨_, h1, ?_⟩
 have hr := h2.rel E ⟨0, [], 0, 0⟩ (by rw [← hE]) (by rw [← hE]) (by rw [← hE]); have he : EndR (tok0 (docI d) ++ [⟨0, [], 0, 0⟩]) := by
  have : ∀ l : List Tok, EndR (l ++ [⟨0, [], 0, 0⟩]) := fun l => by
   induction l with
   | nil => rfl
   | cons t l ih => cases l with
    | nil => exact ih
    | cons u l => exact ih
  exact this _
 have hs := doc_sim ((ts ++ [E]).length + 1) ⟨[], []⟩ _ _ _ hr he; rw [rd_doc (E := ⟨0, [], 0, 0⟩) rfl h hne (by rw [List.length_append, h2.len]; have := tok0_doc_len d; omega)] at hs
 cases hq : docF ((ts ++ [E]).length + 1) ⟨[], []⟩ (ts ++ [E]) with
 | ok x r =>
  rw [hq] at hs; have := hs.1; exact ⟨r, by rw [← this]⟩
 | bad a e => rw [hq] at hs; exact hs.elim
end Go.Proofs.YtnkpoddbbdmipaaGreatDoor
