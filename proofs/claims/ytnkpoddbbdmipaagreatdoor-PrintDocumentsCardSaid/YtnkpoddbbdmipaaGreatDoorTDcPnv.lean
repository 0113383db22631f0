/- . -/
import Derived.Test.YtnkpoddbbdmipaaGreatDoorTDcPnt
namespace Go.Proofs.YtnkpoddbbdmipaaGreatDoor
set_option linter.unusedVariables false
set_option linter.unusedSimpArgs false
def gapI : List It := [.sp 44, .sp 32]
def sepI (g : List It) : List (List It) → List It
 | [] => []
 | a :: l => a ++ l.flatMap (fun b => g ++ b)
theorem sepI_snoc (g : List It) (l : List (List It)) (b : List It) : sepI g (l ++ [b]) = if l = [] then b else sepI g l ++ g ++ b := by
 cases l with
 | nil => show b ++ [] = b; exact List.append_nil b
 | cons a l =>
  rw [if_neg (by simp)]
  show a ++ (l ++ [b]).flatMap (fun b => g ++ b) = a ++ l.flatMap (fun b => g ++ b) ++ g ++ b
  rw [List.flatMap_append]; simp
def pairI (k : List UInt8) (l : List It) : List It := nmI k :: sgI 58 :: .sp 32 :: l
mutual
def valI : VT → List It
 | .mk k n s ks vs =>
  if k = 1 then [nuI n] else if k = 2 ∨ k = 8 then [quI s] else if k = 3 then [nmI (if n = 1 then wTrue else wFalse)] else if k = 4 then [nmI s] else if k = 7 then [sgI 36, nmI s]
  else if k = 5 then sgI 91 :: (sepI gapI (valsI vs) ++ [sgI 93])
  else if k = 6 then sgI 123 :: (sepI gapI (List.zipWith pairI ks (valsI vs)) ++ [sgI 125])
  else [nmI wNull]
def valsI : List VT → List (List It)
 | [] => []
 | v :: vs => valI v :: valsI vs
end
theorem valsI_map : ∀ vs, valsI vs = vs.map valI
 | [] => by rw [valsI]; rfl
 | v :: vs => by rw [valsI, valsI_map vs]; rfl
theorem valI_eq (k : Nat) (n : Int) (s : List UInt8) (ks : List (List UInt8)) (vs : List VT) : valI (.mk k n s ks vs) =
  if k = 1 then [nuI n] else if k = 2 ∨ k = 8 then [quI s] else if k = 3 then [nmI (if n = 1 then wTrue else wFalse)] else if k = 4 then [nmI s] else if k = 7 then [sgI 36, nmI s]
  else if k = 5 then sgI 91 :: (sepI gapI (vs.map valI) ++ [sgI 93])
  else if k = 6 then sgI 123 :: (sepI gapI (List.zipWith pairI ks (vs.map valI)) ++ [sgI 125])
  else [nmI wNull] := by rw [valI, valsI_map]
def bangI (b : Bool) : List It := if b then [sgI 33] else []
def typI : TR → List It
 | .nm s b => nmI s :: bangI b
 | .ls t b => sgI 91 :: (typI t ++ sgI 93 :: bangI b)
def parI (l : List (List It)) : List It := if l = [] then [] else sgI 40 :: (sepI gapI l ++ [sgI 41])
def argI (a : AR) : List It := pairI a.name (valI a.v)
def argsI (l : List AR) : List It := parI (l.map argI)
def dirI (d : DR) : List It := .sp 32 :: sgI 64 :: nmI d.name :: argsI d.args
def brI (l : List It) : List It := .sp 32 :: sgI 123 :: (l ++ [.sp 32, sgI 125])
def headI (k : Nat) (al name on_ : List UInt8) (args : List AR) : List It :=
 if k = 1 then (if al = [] then [] else [nmI al, sgI 58, .sp 32]) ++ nmI name :: argsI args
 else if k = 2 then [doI, nmI name]
 else doI :: (if on_ = [] then [] else [.sp 32, nmI wOn, .sp 32, nmI on_])
mutual
def selI : SL → List It
 | .mk k al name on_ args dirs sub => headI k al name on_ args ++ dirs.flatMap dirI ++ (if sub = [] then [] else brI (selsI sub))
def selsI : List SL → List It
 | [] => []
 | x :: l => .sp 32 :: (selI x ++ selsI l)
end
theorem selsI_map : ∀ l, selsI l = l.flatMap fun x => .sp 32 :: selI x
 | [] => by rw [selsI]; rfl
 | x :: l => by rw [selsI, selsI_map l]; rfl
def setI (l : List SL) : List It := brI (selsI l)
theorem selI_eq (k : Nat) (al name on_ : List UInt8) (args : List AR) (dirs : List DR) (sub : List SL) : selI (.mk k al name on_ args dirs sub) = headI k al name on_ args ++ dirs.flatMap dirI ++ (if sub = [] then [] else setI sub) := by rw [selI]; rfl
def inpI (n : List It) (t : TR) (has : Bool) (v : VT) : List It := n ++ sgI 58 :: .sp 32 :: (typI t ++ (if has then .sp 32 :: sgI 61 :: .sp 32 :: valI v else []))
def varI (v : VD) : List It := sgI 36 :: inpI [nmI v.name] v.t v.has v.v
def opI (o : OP) : List It := nmI (if o.mut_ then wMutation else wQuery) :: ((if o.name = [] then [] else [.sp 32, nmI o.name]) ++ parI (o.vars.map varI) ++ setI o.sub)
def frI (f : FR) : List It := nmI wFragment :: .sp 32 :: nmI f.name :: .sp 32 :: nmI wOn :: .sp 32 :: nmI f.on_ :: setI f.sub
def docI (d : DC) : List It := sepI [.sp 32] (d.ops.map opI ++ d.frags.map frI)
def OkS (l : List It) : Prop := ∀ x, Sep x → OkF l x
def SepI (l : List It) : Prop := ∀ x, Sep x → Sep (ren l ++ x)
theorem SepI.nil : SepI [] := fun _ h => h
theorem SepI.sp {c : UInt8} {l : List It} (h : blkB c = true) : SepI (.sp c :: l) := fun x _ => by
 rw [ren_cons]
 show Sep (c :: (ren l ++ x))
 unfold blkB at h; simp only [Bool.or_eq_true, decide_eq_true_eq] at h; refine Sep.cons _ ?_ (by omega)
 unfold ldB letB digB; simp only [Bool.or_eq_false_iff, Bool.and_eq_false_iff, decide_eq_false_iff_not]; omega
theorem SepI.sg {c : UInt8} {l : List It} (h : signB c = true) : SepI (sgI c :: l) := fun x _ => by
 rw [ren_cons]
 show Sep (c :: (ren l ++ x))
 have hm : c.toNat ∈ [33, 36, 40, 41, 58, 61, 64, 91, 93, 123, 124, 125, 38] := of_decide_eq_true h; have hx : c.toNat = 33 ∨ c.toNat = 36 ∨ c.toNat = 40 ∨ c.toNat = 41 ∨ c.toNat = 58 ∨ c.toNat = 61 ∨ c.toNat = 64 ∨ c.toNat = 91 ∨ c.toNat = 93 ∨ c.toNat = 123 ∨ c.toNat = 124 ∨ c.toNat = 125 ∨ c.toNat = 38 := by simpa using hm
 refine Sep.cons _ ?_ (by omega)
 unfold ldB letB digB; simp only [Bool.or_eq_false_iff, Bool.and_eq_false_iff, decide_eq_false_iff_not]; omega
theorem SepI.app {a b : List It} (ha : SepI a) (hb : SepI b) : SepI (a ++ b) := fun x hx => by rw [ren_app, List.append_assoc]; exact ha _ (hb x hx)
theorem OkS.nil : OkS [] := fun _ _ => trivial
theorem OkS.sp {c : UInt8} {l : List It} (h : blkB c = true) (hl : OkS l) : OkS (.sp c :: l) := fun x hx => ⟨h, hl x hx⟩
theorem OkS.sg {c : UInt8} {l : List It} (h : signB c = true) (hl : OkS l) : OkS (sgI c :: l) := fun x hx => ⟨ok_sg h, hl x hx⟩
theorem OkS.dots {l : List It} (hl : OkS l) : OkS (doI :: l) := fun x hx => ⟨ok_do, hl x hx⟩
theorem OkS.qu {s : List UInt8} {l : List It} (h : s.length ≤ 200) (hl : OkS l) : OkS (quI s :: l) := fun x hx => ⟨ok_qu h, hl x hx⟩
theorem OkS.nm {s : List UInt8} {l : List It} (h : NameOk s) (hl : OkS l) (hs : SepI l) : OkS (nmI s :: l) := fun x hx => ⟨ok_nm h (hs x hx), hl x hx⟩
theorem OkS.nu {n : Int} {l : List It} (h : NumOk n) (hl : OkS l) (hs : SepI l) : OkS (nuI n :: l) := fun x hx => ⟨ok_nu h (hs x hx), hl x hx⟩
theorem OkS.app {a b : List It} (ha : OkS a) (hb : OkS b) (hs : SepI b) : OkS (a ++ b) := fun x hx => OkF.app (ha _ (hs x hx)) (hb x hx)
theorem OkS.flat {α : Type} {f : α → List It} : ∀ {l : List α}, (∀ x ∈ l, OkS (f x) ∧ SepI (f x)) → OkS (l.flatMap f) ∧ SepI (l.flatMap f)
 | [], _ => ⟨OkS.nil, SepI.nil⟩
 | x :: l, h => by
  have h1 := h x (by simp); have h2 := OkS.flat (l := l) (fun y hy => h y (by simp [hy])); rw [List.flatMap_cons]; exact ⟨h1.1.app h2.1 h2.2, h1.2.app h2.2⟩
theorem OkS.sep {g : List It} {l : List (List It)} (hg : ∀ b, OkS b → OkS (g ++ b)) (hs : ∀ b, SepI (g ++ b)) (h : ∀ b ∈ l, OkS b) : OkS (sepI g l) := by
 cases l with
 | nil => exact OkS.nil
 | cons a l =>
  have h2 := OkS.flat (f := fun b => g ++ b) (l := l) (fun b hb => ⟨hg b (h b (by simp [hb])), hs b⟩); exact (h a (by simp)).app h2.1 h2.2
theorem OkS.gap {l : List (List It)} (h : ∀ b ∈ l, OkS b) : OkS (sepI gapI l) := OkS.sep (fun b hb => OkS.sp (by decide) (OkS.sp (by decide) hb)) (fun b => SepI.sp (by decide)) h
theorem OkS.blk {l : List (List It)} (h : ∀ b ∈ l, OkS b) : OkS (sepI [.sp 32] l) := OkS.sep (fun b hb => OkS.sp (by decide) hb) (fun b => SepI.sp (by decide)) h
theorem SepI.par (l : List (List It)) : SepI (parI l) := by
 unfold parI
 split
 ·exact SepI.nil
 ·exact SepI.sg (by decide)
theorem OkS.par {l : List (List It)} (h : ∀ b ∈ l, OkS b) : OkS (parI l) := by
 unfold parI
 split
 ·exact OkS.nil
 ·exact OkS.sg (by decide) ((OkS.gap h).app (OkS.sg (by decide) OkS.nil) (SepI.sg (by decide)))
theorem OkS.br {l : List It} (h : OkS l) : OkS (brI l) := OkS.sp (by decide) (OkS.sg (by decide) (h.app (OkS.sp (by decide) (OkS.sg (by decide) OkS.nil)) (SepI.sp (by decide))))
theorem SepI.br (l : List It) : SepI (brI l) := SepI.sp (by decide)
theorem nameOk_of {s : List UInt8} (h : (match s with | [] => false | c :: _ => letB c) && s.all ldB && decide (s.length ≤ 32) = true) : NameOk s := by
 simp only [Bool.and_eq_true, decide_eq_true_eq] at h; obtain ⟨⟨h1, h2⟩, h3⟩ := h
 cases s with
 | nil => cases h1
 | cons c l => exact ⟨⟨c, l, rfl, h1⟩, fun x hx => List.all_eq_true.1 h2 x hx, h3⟩
theorem name_sign {s : List UInt8} (h : NameOk s) {c : UInt8} {l : List UInt8} (hc : letB c = false) : s ≠ c :: l := by
 obtain ⟨d, m, rfl, hd⟩ := h.first; intro e
 injection e with e _
 rw [e, hc] at hd; cases hd
def GoodV (fx : Bool) : Nat → VT → Prop
 | 0, _ => False
 | d + 1, .mk k n s ks vs =>
  (k = 1 ∧ NumOk n ∧ s = [] ∧ ks = [] ∧ vs = []) ∨ (k = 2 ∧ n = 0 ∧ s.length ≤ 200 ∧ ks = [] ∧ vs = []) ∨ (k = 3 ∧ (n = 0 ∨ n = 1) ∧ s = [] ∧ ks = [] ∧ vs = []) ∨ (k = 0 ∧ n = 0 ∧ s = [] ∧ ks = [] ∧ vs = []) ∨
  (k = 4 ∧ n = 0 ∧ NameOk s ∧ s ≠ wTrue ∧ s ≠ wFalse ∧ s ≠ wNull ∧ ks = [] ∧ vs = []) ∨ (k = 7 ∧ fx = false ∧ n = 0 ∧ NameOk s ∧ ks = [] ∧ vs = []) ∨
  (k = 5 ∧ n = 0 ∧ s = [] ∧ ks = [] ∧ ∀ v ∈ vs, GoodV fx d v) ∨ (k = 6 ∧ n = 0 ∧ s = [] ∧ ∃ ps : List (List UInt8 × VT), ks = ps.map (·.1) ∧ vs = ps.map (·.2) ∧ ∀ p ∈ ps, NameOk p.1 ∧ GoodV fx d p.2)
def GoodT : Nat → TR → Prop
 | 0, _ => False
 | _ + 1, .nm s _ => NameOk s
 | d + 1, .ls t _ => GoodT d t
def GoodA (d : Nat) (a : AR) : Prop := NameOk a.name ∧ GoodV false d a.v
def GoodD (d : Nat) (x : DR) : Prop := NameOk x.name ∧ ∀ a ∈ x.args, GoodA d a
def GoodSel (d : Nat) (G : List SL → Prop) : SL → Prop
 | .mk k al name on_ args dirs sub => (∀ x ∈ dirs, GoodD d x) ∧
  ((k = 1 ∧ on_ = [] ∧ (al = [] ∨ NameOk al) ∧ NameOk name ∧ (∀ a ∈ args, GoodA d a) ∧ (sub = [] ∨ G sub)) ∨
   (k = 2 ∧ al = [] ∧ on_ = [] ∧ NameOk name ∧ name ≠ wOn ∧ args = [] ∧ sub = []) ∨
   (k = 3 ∧ al = [] ∧ name = [] ∧ (on_ = [] ∨ NameOk on_) ∧ args = [] ∧ G sub))
def GoodS : Nat → List SL → Prop
 | 0, _ => False
 | d + 1, l => l ≠ [] ∧ ∀ x ∈ l, GoodSel d (GoodS d) x
def GoodI (n : List UInt8) (t : TR) (has : Bool) (v : VT) : Prop := NameOk n ∧ GoodT 24 t ∧ (has = true ∧ GoodV true 24 v ∨ has = false ∧ v = VT.zero)
def GoodO (o : OP) : Prop := (o.name = [] ∨ NameOk o.name) ∧ (∀ v ∈ o.vars, GoodI v.name v.t v.has v.v) ∧ GoodS 24 o.sub
def GoodF (f : FR) : Prop := NameOk f.name ∧ f.name ≠ wOn ∧ NameOk f.on_ ∧ GoodS 24 f.sub
def GoodDoc (d : DC) : Prop := (∀ o ∈ d.ops, GoodO o) ∧ ∀ f ∈ d.frags, GoodF f
theorem ok_val (fx : Bool) : ∀ (d : Nat) (v : VT), GoodV fx d v → OkS (valI v)
 | 0, _, h => h.elim
 | d + 1, .mk k n s ks vs, h => by
  rw [valI_eq]
  rcases h with ⟨rfl, h, -⟩ | ⟨rfl, -, h, -⟩ | ⟨rfl, h, -⟩ | ⟨rfl, -⟩ | ⟨rfl, -, h, -⟩ | ⟨rfl, -, -, h, -⟩ | ⟨rfl, -, -, -, h⟩ | ⟨rfl, -, -, ps, rfl, rfl, h⟩
  ·exact OkS.nu h OkS.nil SepI.nil
  ·exact OkS.qu h OkS.nil
  ·refine OkS.nm ?_ OkS.nil SepI.nil
   split <;> exact nameOk_of (by decide)
  ·exact OkS.nm (nameOk_of (by decide)) OkS.nil SepI.nil
  ·exact OkS.nm h OkS.nil SepI.nil
  ·exact OkS.sg (by decide) (OkS.nm h OkS.nil SepI.nil)
  ·refine OkS.sg (by decide) ((OkS.gap fun b hb => ?_).app (OkS.sg (by decide) OkS.nil) (SepI.sg (by decide)))
   obtain ⟨v, hv, rfl⟩ := List.mem_map.1 hb; exact ok_val fx d v (h v hv)
  ·refine OkS.sg (by decide) ((OkS.gap fun b hb => ?_).app (OkS.sg (by decide) OkS.nil) (SepI.sg (by decide)))
   rw [List.map_map, List.zipWith_map, List.zipWith_self] at hb; obtain ⟨p, hp, rfl⟩ := List.mem_map.1 hb; exact OkS.nm (h p hp).1 (OkS.sg (by decide) (OkS.sp (by decide) (ok_val fx d p.2 (h p hp).2))) (SepI.sg (by decide))
theorem ok_bang (b : Bool) : OkS (bangI b) ∧ SepI (bangI b) := by
 cases b
 ·exact ⟨OkS.nil, SepI.nil⟩
 ·exact ⟨OkS.sg (by decide) OkS.nil, SepI.sg (by decide)⟩
theorem ok_typ : ∀ (d : Nat) (t : TR), GoodT d t → OkS (typI t)
 | 0, _, h => h.elim
 | d + 1, .nm s b, h => by rw [typI]; exact OkS.nm h (ok_bang b).1 (ok_bang b).2
 | d + 1, .ls t b, h => by rw [typI]; exact OkS.sg (by decide) ((ok_typ d t h).app (OkS.sg (by decide) (ok_bang b).1) (SepI.sg (by decide)))
theorem ok_arg {d : Nat} {a : AR} (h : GoodA d a) : OkS (argI a) := OkS.nm h.1 (OkS.sg (by decide) (OkS.sp (by decide) (ok_val _ _ _ h.2))) (SepI.sg (by decide))
theorem ok_args {d : Nat} {l : List AR} (h : ∀ a ∈ l, GoodA d a) : OkS (argsI l) := OkS.par fun b hb => by
 obtain ⟨a, ha, rfl⟩ := List.mem_map.1 hb; exact ok_arg (h a ha)
theorem ok_dir {d : Nat} {x : DR} (h : GoodD d x) : OkS (dirI x) ∧ SepI (dirI x) := ⟨OkS.sp (by decide) (OkS.sg (by decide) (OkS.nm h.1 (ok_args h.2) (SepI.par _))), SepI.sp (by decide)⟩
theorem ok_head {d : Nat} {G : List SL → Prop} {k : Nat} {al name on_ : List UInt8} {args : List AR} {dirs : List DR} {sub : List SL} (h : GoodSel d G (.mk k al name on_ args dirs sub)) : OkS (headI k al name on_ args) := by
 obtain ⟨-, h⟩ := h; unfold headI
 rcases h with ⟨rfl, -, ha, hn, hg, -⟩ | ⟨rfl, -, -, hn, -⟩ | ⟨rfl, -, -, ho, -⟩
 ·rw [if_pos rfl]; have h1 : OkS (nmI name :: argsI args) := OkS.nm hn (ok_args hg) (SepI.par _)
  split
  ·exact h1
  ·rename_i hal
   rcases ha with ha | ha
   ·exact absurd ha hal
   ·exact OkS.nm ha (OkS.sg (by decide) (OkS.sp (by decide) h1)) (SepI.sg (by decide))
 ·exact OkS.dots (OkS.nm hn OkS.nil SepI.nil)
 ·rw [if_neg (by decide), if_neg (by decide)]; refine OkS.dots ?_
  split
  ·exact OkS.nil
  ·rename_i hal
   rcases ho with ho | ho
   ·exact absurd ho hal
   ·exact OkS.sp (by decide) (OkS.nm (nameOk_of (by decide)) (OkS.sp (by decide) (OkS.nm ho OkS.nil SepI.nil)) (SepI.sp (by decide)))
theorem ok_sel {d : Nat} {G : List SL → Prop} (hG : ∀ l, G l → OkS (setI l)) : ∀ (x : SL), GoodSel d G x → OkS (selI x)
 | .mk k al name on_ args dirs sub, h => by
  rw [selI_eq]; have h2 := OkS.flat (f := dirI) (l := dirs) (fun x hx => ok_dir (h.1 x hx)); have h3 : OkS (if sub = [] then [] else setI sub) ∧ SepI (if sub = [] then [] else setI sub) := by
   split
   ·exact ⟨OkS.nil, SepI.nil⟩
   ·rename_i hs
    refine ⟨hG _ ?_, SepI.br _⟩
    rcases h.2 with ⟨-, -, -, -, -, hg⟩ | ⟨-, -, -, -, -, -, hg⟩ | ⟨-, -, -, -, -, hg⟩
    ·rcases hg with hg | hg
     ·exact absurd hg hs
     ·exact hg
    ·exact absurd hg hs
    ·exact hg
  exact ((ok_head h).app h2.1 h2.2).app h3.1 h3.2
theorem ok_set : ∀ (d : Nat) (l : List SL), GoodS d l → OkS (setI l)
 | 0, _, h => h.elim
 | d + 1, l, h => by
  refine OkS.br ?_
  rw [selsI_map]; exact (OkS.flat fun x hx => ⟨OkS.sp (by decide) (ok_sel (fun l hl => ok_set d l hl) x (h.2 x hx)), SepI.sp (by decide)⟩).1
theorem ok_inp {n : List It} {t : TR} {has : Bool} {v : VT} (hn : OkS n) (ht : GoodT 24 t) (hv : has = true ∧ GoodV true 24 v ∨ has = false ∧ v = VT.zero) : OkS (inpI n t has v) := by
 refine hn.app (OkS.sg (by decide) (OkS.sp (by decide) ((ok_typ _ _ ht).app ?_ ?_))) (SepI.sg (by decide))
 ·rcases hv with ⟨rfl, hv⟩ | ⟨rfl, -⟩
  ·exact OkS.sp (by decide) (OkS.sg (by decide) (OkS.sp (by decide) (ok_val _ _ _ hv)))
  ·exact OkS.nil
 ·cases has
  ·exact SepI.nil
  ·exact SepI.sp (by decide)
theorem ok_op {o : OP} (h : GoodO o) : OkS (opI o) := by
 unfold opI; have h3 := ok_set _ _ h.2.2; have h2 : OkS (parI (o.vars.map varI)) := OkS.par fun b hb => by
  obtain ⟨v, hv, rfl⟩ := List.mem_map.1 hb; have := h.2.1 v hv; exact OkS.sg (by decide) (ok_inp (OkS.nm this.1 OkS.nil SepI.nil) this.2.1 this.2.2)
 have h1 : OkS (if o.name = [] then [] else [.sp 32, nmI o.name]) ∧ SepI (if o.name = [] then [] else [.sp 32, nmI o.name]) := by
  split
  ·exact ⟨OkS.nil, SepI.nil⟩
  ·rename_i hn
   rcases h.1 with h1 | h1
   ·exact absurd h1 hn
   ·exact ⟨OkS.sp (by decide) (OkS.nm h1 OkS.nil SepI.nil), SepI.sp (by decide)⟩
 refine OkS.nm (by split <;> exact nameOk_of (by decide)) ((h1.1.app h2 (SepI.par _)).app h3 (SepI.br _)) ((h1.2.app (SepI.par _)).app (SepI.br _))
theorem ok_fr {f : FR} (h : GoodF f) : OkS (frI f) :=
 OkS.nm (nameOk_of (by decide)) (OkS.sp (by decide) (OkS.nm h.1 (OkS.sp (by decide) (OkS.nm (nameOk_of (by decide)) (OkS.sp (by decide) (OkS.nm h.2.2.1 (ok_set _ _ h.2.2.2) (SepI.br _))) (SepI.sp (by decide)))) (SepI.sp (by decide)))) (SepI.sp (by decide))
theorem ok_doc {d : DC} (h : GoodDoc d) : OkS (docI d) := OkS.blk fun b hb => by
 rcases List.mem_append.1 hb with hb | hb
 ·obtain ⟨o, ho, rfl⟩ := List.mem_map.1 hb; exact ok_op (h.1 o ho)
 ·obtain ⟨f, hf, rfl⟩ := List.mem_map.1 hb; exact ok_fr (h.2 f hf)
end Go.Proofs.YtnkpoddbbdmipaaGreatDoor
