/- . -/
import Derived.Test.YtnkpoddbbdmipaaGreatDoorTTyPnt
namespace Go.Proofs.YtnkpoddbbdmipaaGreatDoor
set_option linter.unusedVariables false
set_option linter.unusedSimpArgs false
def gapI : List It := [.sp 44, .sp 32]
def sepI (g : List It) : List (List It) → List It
 | [] => []
 | a :: l => a ++ l.flatMap (fun b => g ++ b)
theorem sepI_snoc (g : List It) (l : List (List It)) (b : List It) : sepI g (l ++ [b]) = if l = [] then b else sepI g l ++ g ++ b := by
 cases l with
 | nil => show b ++ [] = b; exact List.append_nil b
 | cons a l =>
  rw [if_neg (by simp)]
  show a ++ (l ++ [b]).flatMap (fun b => g ++ b) = a ++ l.flatMap (fun b => g ++ b) ++ g ++ b
  rw [List.flatMap_append]; simp
def pairI (k : List UInt8) (l : List It) : List It := nmI k :: sgI 58 :: .sp 32 :: l
mutual
def valI : VT → List It
 | .mk k n s ks vs =>
  if k = 1 then [nuI n] else if k = 2 ∨ k = 8 then [quI s] else if k = 3 then [nmI (if n = 1 then wTrue else wFalse)] else if k = 4 then [nmI s] else if k = 7 then [sgI 36, nmI s]
  else if k = 5 then sgI 91 :: (sepI gapI (valsI vs) ++ [sgI 93])
  else if k = 6 then sgI 123 :: (sepI gapI (List.zipWith pairI ks (valsI vs)) ++ [sgI 125])
  else [nmI wNull]
def valsI : List VT → List (List It)
 | [] => []
 | v :: vs => valI v :: valsI vs
end
theorem valsI_map : ∀ vs, valsI vs = vs.map valI
 | [] => by rw [valsI]; rfl
 | v :: vs => by rw [valsI, valsI_map vs]; rfl
theorem valI_eq (k : Nat) (n : Int) (s : List UInt8) (ks : List (List UInt8)) (vs : List VT) : valI (.mk k n s ks vs) =
  if k = 1 then [nuI n] else if k = 2 ∨ k = 8 then [quI s] else if k = 3 then [nmI (if n = 1 then wTrue else wFalse)] else if k = 4 then [nmI s] else if k = 7 then [sgI 36, nmI s]
  else if k = 5 then sgI 91 :: (sepI gapI (vs.map valI) ++ [sgI 93])
  else if k = 6 then sgI 123 :: (sepI gapI (List.zipWith pairI ks (vs.map valI)) ++ [sgI 125])
  else [nmI wNull] := by rw [valI, valsI_map]
def bangI (b : Bool) : List It := if b then [sgI 33] else []
def typI : TR → List It
 | .nm s b => nmI s :: bangI b
 | .ls t b => sgI 91 :: (typI t ++ sgI 93 :: bangI b)
def parI (l : List (List It)) : List It := if l = [] then [] else sgI 40 :: (sepI gapI l ++ [sgI 41])
def argI (a : AR) : List It := pairI a.name (valI a.v)
def argsI (l : List AR) : List It := parI (l.map argI)
def dirI (d : DR) : List It := .sp 32 :: sgI 64 :: nmI d.name :: argsI d.args
def brI (l : List It) : List It := .sp 32 :: sgI 123 :: (l ++ [.sp 32, sgI 125])
def headI (k : Nat) (al name on_ : List UInt8) (args : List AR) : List It :=
 if k = 1 then (if al = [] then [] else [nmI al, sgI 58, .sp 32]) ++ nmI name :: argsI args
 else if k = 2 then [doI, nmI name]
 else doI :: (if on_ = [] then [] else [.sp 32, nmI wOn, .sp 32, nmI on_])
mutual
def selI : SL → List It
 | .mk k al name on_ args dirs sub => headI k al name on_ args ++ dirs.flatMap dirI ++ (if sub = [] then [] else brI (selsI sub))
def selsI : List SL → List It
 | [] => []
 | x :: l => .sp 32 :: (selI x ++ selsI l)
end
theorem selsI_map : ∀ l, selsI l = l.flatMap fun x => .sp 32 :: selI x
 | [] => by rw [selsI]; rfl
 | x :: l => by rw [selsI, selsI_map l]; rfl
def setI (l : List SL) : List It := brI (selsI l)
theorem selI_eq (k : Nat) (al name on_ : List UInt8) (args : List AR) (dirs : List DR) (sub : List SL) : selI (.mk k al name on_ args dirs sub) = headI k al name on_ args ++ dirs.flatMap dirI ++ (if sub = [] then [] else setI sub) := by rw [selI]; rfl
def inpI (n : List It) (t : TR) (has : Bool) (v : VT) : List It := n ++ sgI 58 :: .sp 32 :: (typI t ++ (if has then .sp 32 :: sgI 61 :: .sp 32 :: valI v else []))
def varI (v : VD) : List It := sgI 36 :: inpI [nmI v.name] v.t v.has v.v
def opI (o : OP) : List It := nmI (if o.mut_ then wMutation else wQuery) :: ((if o.name = [] then [] else [.sp 32, nmI o.name]) ++ parI (o.vars.map varI) ++ setI o.sub)
def frI (f : FR) : List It := nmI wFragment :: .sp 32 :: nmI f.name :: .sp 32 :: nmI wOn :: .sp 32 :: nmI f.on_ :: setI f.sub
def docI (d : DC) : List It := sepI [.sp 32] (d.ops.map opI ++ d.frags.map frI)
def inI (i : IN) : List It := inpI [nmI i.name] i.t i.has i.v
def fdI (f : FD) : List It := inpI (nmI f.name :: parI (f.args.map inI)) f.t f.has f.v
def namI (g : List It) (l : List (List UInt8)) : List It := sepI g (l.map fun s => [nmI s])
def tdI (t : TD) : List It :=
 if t.kind = 3 then nmI wUnion :: .sp 32 :: nmI t.name :: .sp 32 :: sgI 61 :: .sp 32 :: namI [.sp 32, sgI 124, .sp 32] t.names
 else if t.kind = 4 then nmI wEnum :: .sp 32 :: nmI t.name :: .sp 32 :: sgI 123 :: .sp 32 :: (namI [.sp 32] t.names ++ [.sp 32, sgI 125])
 else nmI (if t.kind = 1 then wType else if t.kind = 2 then wInterface else wInput) :: .sp 32 :: nmI t.name ::
  ((if t.kind = 1 ∧ t.names ≠ [] then .sp 32 :: nmI wImplements :: .sp 32 :: namI [.sp 32, sgI 38, .sp 32] t.names else []) ++ brI (t.fields.flatMap fun f => .sp 32 :: fdI f))
def tysI (l : List TD) : List It := sepI [.sp 32] (l.map tdI)
def OkS (l : List It) : Prop := ∀ x, Sep x → OkF l x
def SepI (l : List It) : Prop := ∀ x, Sep x → Sep (ren l ++ x)
theorem SepI.nil : SepI [] := fun _ h => h
theorem SepI.sp {c : UInt8} {l : List It} (h : blkB c = true) : SepI (.sp c :: l) := fun x _ => by
 rw [ren_cons]
 show Sep (c :: (ren l ++ x))
 unfold blkB at h; simp only [Bool.or_eq_true, decide_eq_true_eq] at h; refine Sep.cons _ ?_ (by omega)
 unfold ldB letB digB; simp only [Bool.or_eq_false_iff, Bool.and_eq_false_iff, decide_eq_false_iff_not]; omega
theorem SepI.sg {c : UInt8} {l : List It} (h : signB c = true) : SepI (sgI c :: l) := fun x _ => by
 rw [ren_cons]
 show Sep (c :: (ren l ++ x))
 have hm : c.toNat ∈ [33, 36, 40, 41, 58, 61, 64, 91, 93, 123, 124, 125, 38] := of_decide_eq_true h; have hx : c.toNat = 33 ∨ c.toNat = 36 ∨ c.toNat = 40 ∨ c.toNat = 41 ∨ c.toNat = 58 ∨ c.toNat = 61 ∨ c.toNat = 64 ∨ c.toNat = 91 ∨ c.toNat = 93 ∨ c.toNat = 123 ∨ c.toNat = 124 ∨ c.toNat = 125 ∨ c.toNat = 38 := by simpa using hm
 refine Sep.cons _ ?_ (by omega)
 unfold ldB letB digB; simp only [Bool.or_eq_false_iff, Bool.and_eq_false_iff, decide_eq_false_iff_not]; omega
theorem SepI.app {a b : List It} (ha : SepI a) (hb : SepI b) : SepI (a ++ b) := fun x hx => by rw [ren_app, List.append_assoc]; exact ha _ (hb x hx)
theorem OkS.nil : OkS [] := fun _ _ => trivial
theorem OkS.sp {c : UInt8} {l : List It} (h : blkB c = true) (hl : OkS l) : OkS (.sp c :: l) := fun x hx => ⟨h, hl x hx⟩
theorem OkS.sg {c : UInt8} {l : List It} (h : signB c = true) (hl : OkS l) : OkS (sgI c :: l) := fun x hx => ⟨ok_sg h, hl x hx⟩
theorem OkS.qu {s : List UInt8} {l : List It} (h : s.length ≤ 200) (hl : OkS l) : OkS (quI s :: l) := fun x hx => ⟨ok_qu h, hl x hx⟩
theorem OkS.nm {s : List UInt8} {l : List It} (h : NameOk s) (hl : OkS l) (hs : SepI l) : OkS (nmI s :: l) := fun x hx => ⟨ok_nm h (hs x hx), hl x hx⟩
theorem OkS.nu {n : Int} {l : List It} (h : NumOk n) (hl : OkS l) (hs : SepI l) : OkS (nuI n :: l) := fun x hx => ⟨ok_nu h (hs x hx), hl x hx⟩
theorem OkS.app {a b : List It} (ha : OkS a) (hb : OkS b) (hs : SepI b) : OkS (a ++ b) := fun x hx => OkF.app (ha _ (hs x hx)) (hb x hx)
theorem OkS.flat {α : Type} {f : α → List It} : ∀ {l : List α}, (∀ x ∈ l, OkS (f x) ∧ SepI (f x)) → OkS (l.flatMap f) ∧ SepI (l.flatMap f)
 | [], _ => ⟨OkS.nil, SepI.nil⟩
 | x :: l, h => by
  have h1 := h x (by simp); have h2 := OkS.flat (l := l) (fun y hy => h y (by simp [hy])); rw [List.flatMap_cons]; exact ⟨h1.1.app h2.1 h2.2, h1.2.app h2.2⟩
theorem OkS.sep {g : List It} {l : List (List It)} (hg : ∀ b, OkS b → OkS (g ++ b)) (hs : ∀ b, SepI (g ++ b)) (h : ∀ b ∈ l, OkS b) : OkS (sepI g l) := by
 cases l with
 | nil => exact OkS.nil
 | cons a l =>
  have h2 := OkS.flat (f := fun b => g ++ b) (l := l) (fun b hb => ⟨hg b (h b (by simp [hb])), hs b⟩); exact (h a (by simp)).app h2.1 h2.2
theorem OkS.gap {l : List (List It)} (h : ∀ b ∈ l, OkS b) : OkS (sepI gapI l) := OkS.sep (fun b hb => OkS.sp (by decide) (OkS.sp (by decide) hb)) (fun b => SepI.sp (by decide)) h
theorem OkS.blk {l : List (List It)} (h : ∀ b ∈ l, OkS b) : OkS (sepI [.sp 32] l) := OkS.sep (fun b hb => OkS.sp (by decide) hb) (fun b => SepI.sp (by decide)) h
theorem SepI.par (l : List (List It)) : SepI (parI l) := by
 unfold parI
 split
 ·exact SepI.nil
 ·exact SepI.sg (by decide)
theorem OkS.par {l : List (List It)} (h : ∀ b ∈ l, OkS b) : OkS (parI l) := by
 unfold parI
 split
 ·exact OkS.nil
 ·exact OkS.sg (by decide) ((OkS.gap h).app (OkS.sg (by decide) OkS.nil) (SepI.sg (by decide)))
theorem OkS.br {l : List It} (h : OkS l) : OkS (brI l) := OkS.sp (by decide) (OkS.sg (by decide) (h.app (OkS.sp (by decide) (OkS.sg (by decide) OkS.nil)) (SepI.sp (by decide))))
theorem SepI.br (l : List It) : SepI (brI l) := SepI.sp (by decide)
theorem nameOk_of {s : List UInt8} (h : (match s with | [] => false | c :: _ => letB c) && s.all ldB && decide (s.length ≤ 32) = true) : NameOk s := by
 simp only [Bool.and_eq_true, decide_eq_true_eq] at h; obtain ⟨⟨h1, h2⟩, h3⟩ := h
 cases s with
 | nil => cases h1
 | cons c l => exact ⟨⟨c, l, rfl, h1⟩, fun x hx => List.all_eq_true.1 h2 x hx, h3⟩
theorem name_sign {s : List UInt8} (h : NameOk s) {c : UInt8} {l : List UInt8} (hc : letB c = false) : s ≠ c :: l := by
 obtain ⟨d, m, rfl, hd⟩ := h.first; intro e
 injection e with e _
 rw [e, hc] at hd; cases hd
def GoodV (fx : Bool) : Nat → VT → Prop
 | 0, _ => False
 | d + 1, .mk k n s ks vs =>
  (k = 1 ∧ NumOk n ∧ s = [] ∧ ks = [] ∧ vs = []) ∨ (k = 2 ∧ n = 0 ∧ s.length ≤ 200 ∧ ks = [] ∧ vs = []) ∨ (k = 3 ∧ (n = 0 ∨ n = 1) ∧ s = [] ∧ ks = [] ∧ vs = []) ∨ (k = 0 ∧ n = 0 ∧ s = [] ∧ ks = [] ∧ vs = []) ∨
  (k = 4 ∧ n = 0 ∧ NameOk s ∧ s ≠ wTrue ∧ s ≠ wFalse ∧ s ≠ wNull ∧ ks = [] ∧ vs = []) ∨ (k = 7 ∧ fx = false ∧ n = 0 ∧ NameOk s ∧ ks = [] ∧ vs = []) ∨
  (k = 5 ∧ n = 0 ∧ s = [] ∧ ks = [] ∧ ∀ v ∈ vs, GoodV fx d v) ∨ (k = 6 ∧ n = 0 ∧ s = [] ∧ ∃ ps : List (List UInt8 × VT), ks = ps.map (·.1) ∧ vs = ps.map (·.2) ∧ ∀ p ∈ ps, NameOk p.1 ∧ GoodV fx d p.2)
def GoodT : Nat → TR → Prop
 | 0, _ => False
 | _ + 1, .nm s _ => NameOk s
 | d + 1, .ls t _ => GoodT d t
def GoodA (d : Nat) (a : AR) : Prop := NameOk a.name ∧ GoodV false d a.v
def GoodD (d : Nat) (x : DR) : Prop := NameOk x.name ∧ ∀ a ∈ x.args, GoodA d a
def GoodSel (d : Nat) (G : List SL → Prop) : SL → Prop
 | .mk k al name on_ args dirs sub => (∀ x ∈ dirs, GoodD d x) ∧
  ((k = 1 ∧ on_ = [] ∧ (al = [] ∨ NameOk al) ∧ NameOk name ∧ (∀ a ∈ args, GoodA d a) ∧ (sub = [] ∨ G sub)) ∨
   (k = 2 ∧ al = [] ∧ on_ = [] ∧ NameOk name ∧ name ≠ wOn ∧ args = [] ∧ sub = []) ∨
   (k = 3 ∧ al = [] ∧ name = [] ∧ (on_ = [] ∨ NameOk on_) ∧ args = [] ∧ G sub))
def GoodS : Nat → List SL → Prop
 | 0, _ => False
 | d + 1, l => l ≠ [] ∧ ∀ x ∈ l, GoodSel d (GoodS d) x
def GoodI (n : List UInt8) (t : TR) (has : Bool) (v : VT) : Prop := NameOk n ∧ GoodT 24 t ∧ (has = true ∧ GoodV true 24 v ∨ has = false ∧ v = VT.zero)
def GoodO (o : OP) : Prop := (o.name = [] ∨ NameOk o.name) ∧ (∀ v ∈ o.vars, GoodI v.name v.t v.has v.v) ∧ GoodS 24 o.sub
def GoodF (f : FR) : Prop := NameOk f.name ∧ f.name ≠ wOn ∧ NameOk f.on_ ∧ GoodS 24 f.sub
def GoodDoc (d : DC) : Prop := (∀ o ∈ d.ops, GoodO o) ∧ ∀ f ∈ d.frags, GoodF f
def GoodIn (i : IN) : Prop := GoodI i.name i.t i.has i.v
def GoodFd (f : FD) : Prop := GoodI f.name f.t f.has f.v ∧ ∀ i ∈ f.args, GoodIn i
def GoodTd (t : TD) : Prop := NameOk t.name ∧
 ((t.kind = 3 ∧ t.names ≠ [] ∧ (∀ s ∈ t.names, NameOk s) ∧ t.fields = []) ∨
  (t.kind = 4 ∧ t.names ≠ [] ∧ (∀ s ∈ t.names, NameOk s ∧ s ≠ wTrue ∧ s ≠ wFalse ∧ s ≠ wNull) ∧ t.fields = []) ∨
  (t.kind = 5 ∧ t.names = [] ∧ t.fields ≠ [] ∧ ∀ f ∈ t.fields, GoodFd f ∧ f.args = []) ∨
  ((t.kind = 1 ∨ t.kind = 2 ∧ t.names = []) ∧ (∀ s ∈ t.names, NameOk s) ∧ t.fields ≠ [] ∧ ∀ f ∈ t.fields, GoodFd f ∧ f.has = false))
theorem ok_val (fx : Bool) : ∀ (d : Nat) (v : VT), GoodV fx d v → OkS (valI v)
 | 0, _, h => h.elim
 | d + 1, .mk k n s ks vs, h => by
  rw [valI_eq]
  rcases h with ⟨rfl, h, -⟩ | ⟨rfl, -, h, -⟩ | ⟨rfl, h, -⟩ | ⟨rfl, -⟩ | ⟨rfl, -, h, -⟩ | ⟨rfl, -, -, h, -⟩ | ⟨rfl, -, -, -, h⟩ | ⟨rfl, -, -, ps, rfl, rfl, h⟩
  ·exact OkS.nu h OkS.nil SepI.nil
  ·exact OkS.qu h OkS.nil
  ·refine OkS.nm ?_ OkS.nil SepI.nil
   split <;> exact nameOk_of (by decide)
  ·exact OkS.nm (nameOk_of (by decide)) OkS.nil SepI.nil
  ·exact OkS.nm h OkS.nil SepI.nil
  ·exact OkS.sg (by decide) (OkS.nm h OkS.nil SepI.nil)
  ·refine OkS.sg (by decide) ((OkS.gap fun b hb => ?_).app (OkS.sg (by decide) OkS.nil) (SepI.sg (by decide)))
   obtain ⟨v, hv, rfl⟩ := List.mem_map.1 hb; exact ok_val fx d v (h v hv)
  ·refine OkS.sg (by decide) ((OkS.gap fun b hb => ?_).app (OkS.sg (by decide) OkS.nil) (SepI.sg (by decide)))
   rw [List.map_map, List.zipWith_map, List.zipWith_self] at hb; obtain ⟨p, hp, rfl⟩ := List.mem_map.1 hb; exact OkS.nm (h p hp).1 (OkS.sg (by decide) (OkS.sp (by decide) (ok_val fx d p.2 (h p hp).2))) (SepI.sg (by decide))
theorem ok_bang (b : Bool) : OkS (bangI b) ∧ SepI (bangI b) := by
 cases b
 ·exact ⟨OkS.nil, SepI.nil⟩
 ·exact ⟨OkS.sg (by decide) OkS.nil, SepI.sg (by decide)⟩
theorem ok_typ : ∀ (d : Nat) (t : TR), GoodT d t → OkS (typI t)
 | 0, _, h => h.elim
 | d + 1, .nm s b, h => by rw [typI]; exact OkS.nm h (ok_bang b).1 (ok_bang b).2
 | d + 1, .ls t b, h => by rw [typI]; exact OkS.sg (by decide) ((ok_typ d t h).app (OkS.sg (by decide) (ok_bang b).1) (SepI.sg (by decide)))
theorem ok_inp {n : List It} {t : TR} {has : Bool} {v : VT} (hn : OkS n) (ht : GoodT 24 t) (hv : has = true ∧ GoodV true 24 v ∨ has = false ∧ v = VT.zero) : OkS (inpI n t has v) := by
 refine hn.app (OkS.sg (by decide) (OkS.sp (by decide) ((ok_typ _ _ ht).app ?_ ?_))) (SepI.sg (by decide))
 ·rcases hv with ⟨rfl, hv⟩ | ⟨rfl, -⟩
  ·exact OkS.sp (by decide) (OkS.sg (by decide) (OkS.sp (by decide) (ok_val _ _ _ hv)))
  ·exact OkS.nil
 ·cases has
  ·exact SepI.nil
  ·exact SepI.sp (by decide)
theorem ok_nam {g : List It} {l : List (List UInt8)} (hg : ∀ b, OkS b → OkS (g ++ b)) (hs : ∀ b, SepI (g ++ b)) (h : ∀ s ∈ l, NameOk s) : OkS (namI g l) := OkS.sep hg hs fun b hb => by
 obtain ⟨s, hs, rfl⟩ := List.mem_map.1 hb; exact OkS.nm (h s hs) OkS.nil SepI.nil
theorem ok_in {i : IN} (h : GoodIn i) : OkS (inI i) := ok_inp (OkS.nm h.1 OkS.nil SepI.nil) h.2.1 h.2.2
theorem ok_fd {f : FD} (h : GoodFd f) : OkS (fdI f) := by
 refine ok_inp (OkS.nm h.1.1 (OkS.par fun b hb => ?_) (SepI.par _)) h.1.2.1 h.1.2.2
 obtain ⟨i, hi, rfl⟩ := List.mem_map.1 hb; exact ok_in (h.2 i hi)
theorem ok_fields {l : List FD} (h : ∀ f ∈ l, GoodFd f) : OkS (brI (l.flatMap fun f => .sp 32 :: fdI f)) := OkS.br (OkS.flat fun f hf => ⟨OkS.sp (by decide) (ok_fd (h f hf)), SepI.sp (by decide)⟩).1
theorem ok_td {t : TD} (h : GoodTd t) : OkS (tdI t) := by
 obtain ⟨hn, h⟩ := h; unfold tdI; have hw : NameOk (if t.kind = 1 then wType else if t.kind = 2 then wInterface else wInput) := by
  split
  ·exact nameOk_of (by decide)
  ·split <;> exact nameOk_of (by decide)
 rcases h with ⟨hk, -, hs, -⟩ | ⟨hk, -, hs, -⟩ | ⟨hk, h0, -, hf⟩ | ⟨hk, hs, -, hf⟩
 ·rw [if_pos hk]; exact OkS.nm (nameOk_of (by decide)) (OkS.sp (by decide) (OkS.nm hn (OkS.sp (by decide) (OkS.sg (by decide) (OkS.sp (by decide) (ok_nam (fun b hb => OkS.sp (by decide) (OkS.sg (by decide) (OkS.sp (by decide) hb))) (fun b => SepI.sp (by decide)) hs)))) (SepI.sp (by decide)))) (SepI.sp (by decide))
 ·rw [if_neg (show ¬ t.kind = 3 by omega), if_pos hk]; exact OkS.nm (nameOk_of (by decide)) (OkS.sp (by decide) (OkS.nm hn (OkS.sp (by decide) (OkS.sg (by decide) (OkS.sp (by decide) ((ok_nam (fun b hb => OkS.sp (by decide) hb) (fun b => SepI.sp (by decide)) (fun s h => (hs s h).1)).app (OkS.sp (by decide) (OkS.sg (by decide) OkS.nil)) (SepI.sp (by decide)))))) (SepI.sp (by decide)))) (SepI.sp (by decide))
 ·rw [if_neg (show ¬ t.kind = 3 by omega), if_neg (show ¬ t.kind = 4 by omega), if_neg (show ¬ (t.kind = 1 ∧ t.names ≠ []) by rintro ⟨h1, _⟩; omega)]; exact OkS.nm hw (OkS.sp (by decide) (OkS.nm hn (OkS.nil.app (ok_fields fun f h => (hf f h).1) (SepI.br _)) (SepI.nil.app (SepI.br _)))) (SepI.sp (by decide))
 ·have hk3 : ¬ t.kind = 3 := by rcases hk with hk | hk <;> omega
  have hk4 : ¬ t.kind = 4 := by rcases hk with hk | hk <;> omega
  rw [if_neg hk3, if_neg hk4]; have h1 : OkS (if t.kind = 1 ∧ t.names ≠ [] then .sp 32 :: nmI wImplements :: .sp 32 :: namI [.sp 32, sgI 38, .sp 32] t.names else []) ∧ SepI (if t.kind = 1 ∧ t.names ≠ [] then .sp 32 :: nmI wImplements :: .sp 32 :: namI [.sp 32, sgI 38, .sp 32] t.names else []) := by
   split
   ·exact ⟨OkS.sp (by decide) (OkS.nm (nameOk_of (by decide)) (OkS.sp (by decide) (ok_nam (fun b hb => OkS.sp (by decide) (OkS.sg (by decide) (OkS.sp (by decide) hb))) (fun b => SepI.sp (by decide)) hs)) (SepI.sp (by decide))), SepI.sp (by decide)⟩
   ·exact ⟨OkS.nil, SepI.nil⟩
  exact OkS.nm hw (OkS.sp (by decide) (OkS.nm hn (h1.1.app (ok_fields fun f h => (hf f h).1) (SepI.br _)) (h1.2.app (SepI.br _)))) (SepI.sp (by decide))
theorem ok_tys {l : List TD} (h : ∀ t ∈ l, GoodTd t) : OkS (tysI l) := OkS.blk fun b hb => by
 obtain ⟨t, ht, rfl⟩ := List.mem_map.1 hb; exact ok_td (h t ht)
abbrev sgT (c : UInt8) : Tok := ⟨4, [c], 0, 0⟩
abbrev nmT (s : List UInt8) : Tok := ⟨1, s, 0, 0⟩
theorem isT_sg (s : List UInt8) (c : UInt8) (r : List Tok) : isT s (sgT c :: r) = decide ([c] = s) := by simp [isT, isS, isW]
theorem isT_nm (s t : List UInt8) (r : List Tok) : isT s (nmT t :: r) = decide (t = s) := by simp [isT, isS, isW]
theorem isS_sg (s : List UInt8) (c : UInt8) (r : List Tok) : isS s (sgT c :: r) = decide ([c] = s) := by simp [isS]
theorem isS_nm (s t : List UInt8) (r : List Tok) : isS s (nmT t :: r) = false := by simp [isS]
theorem wantP_sg (c : UInt8) (r : List Tok) : wantP [c] (sgT c :: r) = .ok () r := by unfold wantP; rw [isT_sg, if_pos (by simp)]; rfl
theorem okb {α β : Type} (x : α) (r : List Tok) (f : α → List Tok → PR β) : (PR.ok x r).bind f = f x r := rfl
theorem nameP_nm (s : List UInt8) (r : List Tok) : nameP (nmT s :: r) = .ok s r := rfl
theorem nm_no {s : List UInt8} (h : NameOk s) (c : UInt8) (l : List UInt8) (r : List Tok) (hc : letB c = false) : isT (c :: l) (nmT s :: r) = false := by
 rw [isT_nm, decide_eq_false (name_sign h hc)]
theorem tok0_flat {α : Type} (f : α → List It) : ∀ l : List α, tok0 (l.flatMap f) = l.flatMap fun x => tok0 (f x)
 | [] => rfl
 | x :: l => by rw [List.flatMap_cons, tok0_app, tok0_flat f l, List.flatMap_cons]
theorem tok0_sep {g : List It} (hg : tok0 g = []) (l : List (List It)) : tok0 (sepI g l) = l.flatMap tok0 := by
 cases l with
 | nil => rfl
 | cons a l =>
  show tok0 (a ++ l.flatMap fun b => g ++ b) = _
  rw [tok0_app, tok0_flat, List.flatMap_cons]
  congr 1
  congr 1
  funext b
  rw [tok0_app, hg, List.nil_append]
theorem tok0_par (l : List (List It)) : tok0 (parI l) = if l = [] then [] else sgT 40 :: (l.flatMap tok0 ++ [sgT 41]) := by
 unfold parI
 split
 ·rfl
 ·show sgT 40 :: tok0 (sepI gapI l ++ [sgI 41]) = _
  rw [tok0_app, tok0_sep rfl]; rfl
theorem tok0_br (l : List It) : tok0 (brI l) = sgT 123 :: (tok0 l ++ [sgT 125]) := by
 show sgT 123 :: tok0 (l ++ [.sp 32, sgI 125]) = _
 rw [tok0_app]; rfl
theorem tk_pos {α : Type} {f : List Tok → PR α} (hf : Takes f) {T : List Tok} {x : α} {q : List Tok} (h : f (T ++ q) = .ok x q) : 0 < T.length := by
 have := hf _ _ _ h; rw [List.length_append] at this; omega
theorem rd_any {α : Type} {f : List Tok → PR α} (hf : Takes f) {T : α → List Tok} {c : UInt8} : ∀ (xs : List α), (∀ x ∈ xs, (∀ q, f (T x ++ q) = .ok x q) ∧ ∀ q, isT [c] (T x ++ q) = false) → ∀ (n : Nat) (acc : List α) (rest : List Tok), (xs.flatMap T).length < n → anyP f [c] n acc (xs.flatMap T ++ sgT c :: rest) = .ok (acc ++ xs) rest
 | _, _, 0, _, _, h => by omega
 | [], _, n + 1, acc, rest, _ => by
  show anyP f [c] (n + 1) acc (sgT c :: rest) = _
  rw [anyP, if_pos (by rw [isT_sg]; simp), List.append_nil]; rfl
 | x :: xs, h, n + 1, acc, rest, hn => by
  have hx := h x (by simp); have hp := tk_pos hf (hx.1 []); rw [List.flatMap_cons, List.length_append] at hn; rw [List.flatMap_cons, List.append_assoc, anyP, if_neg (by rw [hx.2]; decide), hx.1]
  show anyP f [c] n (acc ++ [x]) (xs.flatMap T ++ sgT c :: rest) = _
  rw [rd_any hf xs (fun y hy => h y (by simp [hy])) n (acc ++ [x]) rest (by omega)]; simp
theorem rd_many {α : Type} {f : List Tok → PR α} (hf : Takes f) {T : α → List Tok} {c : UInt8} {Stp : List Tok → Prop} (h3 : ∀ q, Stp (sgT c :: q)) : ∀ (xs : List α), xs ≠ [] → (∀ x ∈ xs, (∀ q, Stp q → f (T x ++ q) = .ok x q) ∧ ∀ q, isT [c] (T x ++ q) = false ∧ Stp (T x ++ q)) → ∀ (n : Nat) (acc : List α) (rest : List Tok), (xs.flatMap T).length ≤ n → manyP f [c] n acc (xs.flatMap T ++ sgT c :: rest) = .ok (acc ++ xs) rest
 | [], h, _, _, _, _, _ => absurd rfl h
 | x :: xs, _, h, 0, acc, rest, hn => by
  have hx := h x (by simp); have hp := tk_pos hf (hx.1 _ (h3 [])); rw [List.flatMap_cons, List.length_append] at hn; omega
 | [x], _, h, n + 1, acc, rest, hn => by
  have hx := h x (by simp); rw [List.flatMap_cons, List.flatMap_nil, List.append_nil, manyP, hx.1 _ (h3 rest)]
  show (if isT [c] (sgT c :: rest) then PR.ok (acc ++ [x]) rest else _) = _
  rw [if_pos (by rw [isT_sg]; simp)]
 | x :: y :: ys, _, h, n + 1, acc, rest, hn => by
  have hx := h x (by simp); have hy := h y (by simp); have hp := tk_pos hf (hx.1 _ (h3 [])); have e : (y :: ys).flatMap T ++ sgT c :: rest = T y ++ (ys.flatMap T ++ sgT c :: rest) := by rw [List.flatMap_cons, List.append_assoc]
  rw [List.flatMap_cons, List.length_append] at hn; rw [List.flatMap_cons, List.append_assoc, manyP, hx.1 _ (by rw [e]; exact (hy.2 _).2)]
  show (if isT [c] ((y :: ys).flatMap T ++ sgT c :: rest) then _ else manyP f [c] n (acc ++ [x]) ((y :: ys).flatMap T ++ sgT c :: rest)) = _
  rw [if_neg (by rw [e, (hy.2 _).1]; decide), rd_many hf h3 (y :: ys) (by simp) (fun z hz => h z (by simp [List.mem_cons.1 hz])) n (acc ++ [x]) rest (by omega)]; simp
theorem fst_val {fx : Bool} {c : UInt8} (hc : letB c = false) (h36 : c ≠ 36) (h91 : c ≠ 91) (h123 : c ≠ 123) : ∀ {d : Nat} {v : VT}, GoodV fx d v → ∀ q, isT [c] (tok0 (valI v) ++ q) = false
 | 0, _, h, _ => h.elim
 | d + 1, .mk k n s ks vs, h, q => by
  rw [valI_eq]
  rcases h with ⟨rfl, h, -⟩ | ⟨rfl, -, h, -⟩ | ⟨rfl, h, -⟩ | ⟨rfl, -⟩ | ⟨rfl, -, h, -⟩ | ⟨rfl, -, -, h, -⟩ | ⟨rfl, -, -, -, h⟩ | ⟨rfl, -, -, ps, rfl, rfl, h⟩
  ·rfl
  ·rfl
  ·show isT [c] (nmT (if n = 1 then wTrue else wFalse) :: q) = false
   refine nm_no ?_ c [] q hc
   split <;> exact nameOk_of (by decide)
  ·exact nm_no (nameOk_of (by decide)) c [] q hc
  ·exact nm_no h c [] q hc
  ·show isT [c] (sgT 36 :: _) = false
   rw [isT_sg]; simp; exact fun e => h36 e.symm
  ·show isT [c] (sgT 91 :: _) = false
   rw [isT_sg]; simp; exact fun e => h91 e.symm
  ·show isT [c] (sgT 123 :: _) = false
   rw [isT_sg]; simp; exact fun e => h123 e.symm
theorem vB_cons (fixed : Bool) (f : List Tok → PR VT) (t : Tok) (r : List Tok) : valueB fixed f (t :: r) =
  if t.kind = 2 then .ok (.mk 1 t.n [] [] []) r
  else if t.kind = 3 then .ok (.mk 2 0 t.text [] []) r
  else if isT wTrue (t :: r) then .ok (.mk 3 1 [] [] []) r
  else if isT wFalse (t :: r) then .ok (.mk 3 0 [] [] []) r
  else if isT wNull (t :: r) then .ok VT.zero r
  else if t.kind = 1 then .ok (.mk 4 0 t.text [] []) r
  else if !fixed && isT [36] (t :: r) then (nameP r).bind fun s r1 => .ok (.mk 7 0 s [] []) r1
  else if isT [91] (t :: r) then (anyP f [93] (r.length + 1) [] r).bind fun vs r1 => .ok (.mk 5 0 [] [] vs) r1
  else if isT [123] (t :: r) then (anyP (pairP f) [125] (r.length + 1) [] r).bind fun ps r1 => .ok (.mk 6 0 [] (ps.map (·.1)) (ps.map (·.2))) r1
  else .bad t.at_ 4 := rfl
theorem rd_val (fx : Bool) : ∀ (d : Nat) (v : VT), GoodV fx d v → ∀ q, valueP fx d (tok0 (valI v) ++ q) = .ok v q
 | 0, _, h, _ => h.elim
 | d + 1, .mk k n s ks vs, h, q => by
  rw [valI_eq, valueP]
  rcases h with ⟨rfl, h, rfl, rfl, rfl⟩ | ⟨rfl, rfl, h, rfl, rfl⟩ | ⟨rfl, h, rfl, rfl, rfl⟩ | ⟨rfl, rfl, rfl, rfl, rfl⟩ | ⟨rfl, rfl, h, h1, h2, h3, rfl, rfl⟩ | ⟨rfl, hx, rfl, h, rfl, rfl⟩ | ⟨rfl, rfl, rfl, rfl, h⟩ | ⟨rfl, rfl, rfl, ps, rfl, rfl, h⟩
  ·show valueB fx _ (⟨2, numS n, n, 0⟩ :: q) = _
   rw [vB_cons, if_pos rfl]
  ·show valueB fx _ (⟨3, s, 0, 0⟩ :: q) = _
   rw [vB_cons, if_neg (by simp), if_pos rfl]
  ·show valueB fx _ (nmT (if n = 1 then wTrue else wFalse) :: q) = _
   rw [vB_cons, if_neg (by simp), if_neg (by simp)]
   rcases h with rfl | rfl
   ·rw [if_neg (by rw [isT_nm]; decide), if_pos (by rw [isT_nm]; decide)]
   ·rw [if_pos (by rw [isT_nm]; decide)]
  ·show valueB fx _ (nmT wNull :: q) = _
   rw [vB_cons, if_neg (by simp), if_neg (by simp), if_neg (by rw [isT_nm]; decide), if_neg (by rw [isT_nm]; decide), if_pos (by rw [isT_nm]; decide)]; rfl
  ·show valueB fx _ (nmT s :: q) = _
   rw [vB_cons, if_neg (by simp), if_neg (by simp), if_neg (by rw [isT_nm, decide_eq_false h1]; decide), if_neg (by rw [isT_nm, decide_eq_false h2]; decide), if_neg (by rw [isT_nm, decide_eq_false h3]; decide), if_pos rfl]
  ·show valueB fx _ (sgT 36 :: nmT s :: q) = _
   rw [vB_cons, if_neg (by simp), if_neg (by simp), if_neg (by rw [isT_sg]; decide), if_neg (by rw [isT_sg]; decide), if_neg (by rw [isT_sg]; decide), if_neg (by decide), if_pos (by rw [isT_sg, hx]; decide)]; rfl
  ·have e : tok0 (sgI 91 :: (sepI gapI (vs.map valI) ++ [sgI 93])) ++ q = sgT 91 :: (vs.flatMap (fun v => tok0 (valI v)) ++ sgT 93 :: q) := by
    show sgT 91 :: (tok0 (sepI gapI (vs.map valI) ++ [sgI 93]) ++ q) = _
    rw [tok0_app, tok0_sep rfl, List.append_assoc, List.flatMap_map]; rfl
   show valueB fx _ (tok0 (sgI 91 :: (sepI gapI (vs.map valI) ++ [sgI 93])) ++ q) = _
   rw [e, vB_cons, if_neg (by simp), if_neg (by simp), if_neg (by rw [isT_sg]; decide), if_neg (by rw [isT_sg]; decide), if_neg (by rw [isT_sg]; decide), if_neg (by decide), if_neg (by rw [isT_sg]; simp), if_pos (by rw [isT_sg]; decide),
    rd_any (valueP_takes fx d) (T := fun v => tok0 (valI v)) vs (fun v hv => ⟨rd_val fx d v (h v hv), fst_val (by decide) (by decide) (by decide) (by decide) (h v hv)⟩) _ [] q (by rw [List.length_append, List.length_cons]; omega)]
   rfl
  ·have e : tok0 (sgI 123 :: (sepI gapI (List.zipWith pairI (ps.map (·.1)) ((ps.map (·.2)).map valI)) ++ [sgI 125])) ++ q = sgT 123 :: (ps.flatMap (fun p => nmT p.1 :: sgT 58 :: tok0 (valI p.2)) ++ sgT 125 :: q) := by
    show sgT 123 :: (tok0 (sepI gapI (List.zipWith pairI (ps.map (·.1)) ((ps.map (·.2)).map valI)) ++ [sgI 125]) ++ q) = _
    rw [tok0_app, tok0_sep rfl, List.append_assoc, List.map_map, List.zipWith_map, List.zipWith_self, List.flatMap_map]; rfl
   show valueB fx _ (tok0 (sgI 123 :: (sepI gapI (List.zipWith pairI (ps.map (·.1)) ((ps.map (·.2)).map valI)) ++ [sgI 125])) ++ q) = _
   rw [e, vB_cons, if_neg (by simp), if_neg (by simp), if_neg (by rw [isT_sg]; decide), if_neg (by rw [isT_sg]; decide), if_neg (by rw [isT_sg]; decide), if_neg (by decide), if_neg (by rw [isT_sg]; simp), if_neg (by rw [isT_sg]; decide), if_pos (by rw [isT_sg]; decide),
    rd_any (pairP_takes (valueP_takes fx d)) (T := fun p : List UInt8 × VT => nmT p.1 :: sgT 58 :: tok0 (valI p.2)) ps (fun p hp => ⟨fun q => ?_, fun q => nm_no (h p hp).1 125 [] _ (by decide)⟩) _ [] q (by rw [List.length_append, List.length_cons]; omega)]
   ·rfl
   ·show ((nameP (nmT p.1 :: sgT 58 :: (tok0 (valI p.2) ++ q))).bind fun s r1 => (wantP [58] r1).bind fun _ r2 => (valueP fx d r2).bind fun v r3 => .ok (s, v) r3) = _
    rw [nameP_nm]
    show ((wantP [58] (sgT 58 :: (tok0 (valI p.2) ++ q))).bind fun _ r2 => (valueP fx d r2).bind fun v r3 => .ok (p.1, v) r3) = _
    rw [wantP_sg]
    show ((valueP fx d (tok0 (valI p.2) ++ q)).bind fun v r3 => .ok (p.1, v) r3) = _
    rw [rd_val fx d p.2 (h p hp).2 q]; rfl
theorem rd_bang (mk : Bool → TR) (b : Bool) {q : List Tok} (h : isT [33] q = false) : bangP mk (tok0 (bangI b) ++ q) = .ok (mk b) q := by
 unfold bangP
 cases b
 ·show (if isT [33] q then _ else _) = _
  rw [if_neg (by rw [h]; decide)]; rfl
 ·show (if isT [33] (sgT 33 :: q) then PR.ok (mk true) q else _) = _
  rw [if_pos (by rw [isT_sg]; decide)]
theorem rd_typ : ∀ (d : Nat) (t : TR), GoodT d t → ∀ q, isT [33] q = false → typP d (tok0 (typI t) ++ q) = .ok t q
 | 0, _, h, _, _ => h.elim
 | d + 1, .nm s b, h, q, hq => by
  rw [typI, typP]
  show (if isT [91] (nmT s :: (tok0 (bangI b) ++ q)) then _ else (nameP (nmT s :: (tok0 (bangI b) ++ q))).bind fun s r1 => bangP (.nm s) r1) = _
  rw [if_neg (by rw [nm_no h 91 [] _ (by decide)]; decide), nameP_nm]; exact rd_bang _ b hq
 | d + 1, .ls t b, h, q, hq => by
  rw [typI, typP]; have e : tok0 (sgI 91 :: (typI t ++ sgI 93 :: bangI b)) ++ q = sgT 91 :: (tok0 (typI t) ++ (sgT 93 :: (tok0 (bangI b) ++ q))) := by
   show sgT 91 :: (tok0 (typI t ++ sgI 93 :: bangI b) ++ q) = _
   rw [tok0_app, List.append_assoc]; rfl
  rw [e, if_pos (by rw [isT_sg]; decide)]
  show ((typP d (tok0 (typI t) ++ (sgT 93 :: (tok0 (bangI b) ++ q)))).bind fun t r1 => (wantP [93] r1).bind fun _ r2 => bangP (.ls t) r2) = _
  rw [rd_typ d t h _ (by rw [isT_sg]; decide)]
  show ((wantP [93] (sgT 93 :: (tok0 (bangI b) ++ q))).bind fun _ r2 => bangP (.ls t) r2) = _
  rw [wantP_sg]; exact rd_bang _ b hq
structure StpS (q : List Tok) : Prop where
 c58 : isT [58] q = false
 c40 : isS [40] q = false
 c64 : isT [64] q = false
 c123 : isS [123] q = false
theorem StpS.nm {s : List UInt8} (h : NameOk s) (q : List Tok) : StpS (nmT s :: q) := ⟨nm_no h _ _ _ (by decide), isS_nm _ _ _, nm_no h _ _ _ (by decide), isS_nm _ _ _⟩
theorem StpS.sg (q : List Tok) : StpS (sgT 125 :: q) := ⟨by rw [isT_sg]; decide, by rw [isS_sg]; decide, by rw [isT_sg]; decide, by rw [isS_sg]; decide⟩
structure StpI (q : List Tok) : Prop where
 c33 : isT [33] q = false
 c61 : isT [61] q = false
theorem StpI.nm {s : List UInt8} (h : NameOk s) (q : List Tok) : StpI (nmT s :: q) := ⟨nm_no h _ _ _ (by decide), nm_no h _ _ _ (by decide)⟩
theorem rd_inp {n : List It} {t : TR} {has : Bool} {v : VT} (ht : GoodT 24 t) (hv : has = true ∧ GoodV true 24 v ∨ has = false ∧ v = VT.zero) {q : List Tok} (hq : StpI q) {β : Type} (mk : TR → Bool → VT → β) :
  ∃ R, tok0 (inpI n t has v) ++ q = tok0 n ++ sgT 58 :: R ∧
  ((typP 24 R).bind fun t r4 => if isT [61] r4 then (valueP true 24 r4.tail).bind fun v r5 => .ok (mk t true v) r5 else .ok (mk t false VT.zero) r4) = .ok (mk t has v) q := by
 refine ⟨tok0 (typI t) ++ (tok0 (if has then .sp 32 :: sgI 61 :: .sp 32 :: valI v else []) ++ q), ?_, ?_⟩
 ·unfold inpI; rw [tok0_app, List.append_assoc]
  show tok0 n ++ (sgT 58 :: (tok0 (typI t ++ _) ++ q)) = _
  rw [tok0_app, List.append_assoc]
 ·rcases hv with ⟨rfl, hv⟩ | ⟨rfl, rfl⟩
  ·rw [if_pos rfl, rd_typ _ _ ht _ (isT_sg _ _ _)]
   show (if isT [61] (sgT 61 :: (tok0 (valI v) ++ q)) then (valueP true 24 (tok0 (valI v) ++ q)).bind fun v r5 => .ok (mk t true v) r5 else .ok (mk t false VT.zero) (sgT 61 :: (tok0 (valI v) ++ q))) = _
   rw [if_pos (by rw [isT_sg]; decide), rd_val _ _ _ hv]; rfl
  ·rw [if_neg (by decide), show tok0 ([] : List It) ++ q = q from rfl, rd_typ _ _ ht _ (show isT [33] q = false from hq.c33)]
   show (if isT [61] q then (valueP true 24 q.tail).bind fun v r5 => .ok (mk t true v) r5 else .ok (mk t false VT.zero) q) = _
   rw [if_neg (by rw [hq.c61]; decide)]
def EndR : List Tok → Prop
 | [] => False
 | [t] => t.kind = 0
 | _ :: t :: r => EndR (t :: r)
theorem EndR.tail {t : Tok} {r : List Tok} (h : EndR (t :: r)) (hk : t.kind ≠ 0) : EndR r := by
 cases r with
 | nil => exact absurd h hk
 | cons u r => exact h
theorem numP_bad {l : List UInt8} {o e : Nat} (h : numP l = .bad o e) : e ≠ 0 := by
 unfold numP at h; simp only at h
 repeat' split at h
 all_goals first
  | (injection h with _ h; omega)
  | cases h
theorem txtP_bad : ∀ (m : Nat) (l acc : List UInt8) (k : Nat) {o e : Nat}, l.length ≤ m → txtP acc k l = .bad o e → e ≠ 0
 | _, [], acc, k, o, e, _, h => by
  rw [txtP.eq_def] at h; injection h with _ h; omega
 | 0, c :: l, acc, k, o, e, hl, h => by simp at hl
 | m + 1, c :: l, acc, k, o, e, hl, h => by
  simp only [List.length_cons] at hl; rw [txtP.eq_def] at h; simp only at h
  split at h
  ·split at h
   ·injection h with _ h; omega
   ·cases h
  ·split at h
   ·injection h with _ h; omega
   ·split at h
    ·cases l with
     | nil => injection h with _ h; omega
     | cons d l' =>
      simp only [List.length_cons] at hl; simp only at h
      split at h
      ·exact txtP_bad m l' _ _ (by omega) h
      ·split at h
       ·exact txtP_bad m l' _ _ (by omega) h
       ·split at h
        ·exact txtP_bad m l' _ _ (by omega) h
        ·injection h with _ h; omega
    ·exact txtP_bad m l _ _ (by omega) h
theorem oneP_bad {l : List UInt8} {o e : Nat} (h : oneP l = .bad o e) : e ≠ 0 := by
 cases l with
 | nil => injection h with _ h; omega
 | cons c l =>
  rw [oneP_cons] at h
  split at h
  ·split at h
   ·injection h with _ h; omega
   ·cases h
  ·split at h
   ·exact numP_bad h
   ·split at h
    ·exact txtP_bad _ l _ _ (Nat.le_refl _) h
    ·split at h
     ·cases h
     ·split at h
      ·cases h
      ·injection h with _ h; omega
theorem toksF_bad : ∀ (f a : Nat) (l : List UInt8) {x e : Nat}, toksF f a l = .bad x e → e ≠ 0
 | 0, a, l, x, e, h => by injection h with _ h; omega
 | f + 1, a, [], x, e, h => by cases h
 | f + 1, a, c :: l, x, e, h => by
  unfold toksF at h
  split at h
  ·exact toksF_bad f _ _ h
  ·split at h
   ·exact toksF_bad f _ _ h
   ·split at h
    ·rename_i hq; injection h with _ h; subst h; exact oneP_bad hq
    ·exact toksF_bad f _ _ (Out.cons_bad h)
theorem toks_bad {s : List UInt8} {x e : Nat} (h : toks s = .bad x e) : e ≠ 0 := by
 unfold toks at h
 split at h
 ·injection h with _ h; omega
 ·exact toksF_bad _ _ _ h
theorem toksF_end : ∀ (f a : Nat) (l : List UInt8) {ts : List Tok}, toksF f a l = .ok ts → EndR ts ∧ ts.length ≤ l.length + 1
 | 0, a, l, ts, h => by cases h
 | f + 1, a, [], ts, h => by injection h with h; subst h; exact ⟨rfl, by simp⟩
 | f + 1, a, c :: l, ts, h => by
  unfold toksF at h
  split at h
  ·have := toksF_end f _ _ h; exact ⟨this.1, by simp only [List.length_cons]; omega⟩
  ·split at h
   ·have := toksF_end f _ _ h; exact ⟨this.1, by rw [List.length_drop] at this; simp only [List.length_cons]; omega⟩
   ·split at h
    ·cases h
    ·rename_i k t n len hq
     obtain ⟨us, h1, rfl⟩ := Out.cons_ok h; have := toksF_end f _ _ h1; have hl := oneP_len hq; refine ⟨?_, ?_⟩
     ·cases us with
      | nil => exact this.1.elim
      | cons u us => exact this.1
     ·rw [List.length_drop] at this; simp only [List.length_cons] at this hl ⊢; omega
theorem toks_end {s : List UInt8} {ts : List Tok} (h : toks s = .ok ts) : EndR ts ∧ ts.length ≤ 2001 := by
 obtain ⟨h1, h2⟩ := toks_ok h; have := toksF_end _ _ _ h2; exact ⟨this.1, by omega⟩
def RelT (S : Nat → Nat → Prop) : List Tok → List Tok → Prop
 | [], [] => True
 | t :: r, t' :: r' => (t.kind = t'.kind ∧ t.text = t'.text ∧ t.n = t'.n ∧ S t.at_ t'.at_) ∧ RelT S r r'
 | _, _ => False
def SimP {α : Type} (S : Nat → Nat → Prop) : PR α → PR α → Prop
 | .ok x r, .ok x' r' => x = x' ∧ RelT S r r' ∧ EndR r
 | .bad a e, .bad a' e' => e = e' ∧ S a a'
 | _, _ => False
def Sim {α : Type} (f : List Tok → PR α) : Prop := ∀ S r r', RelT S r r' → EndR r → SimP S (f r) (f r')
theorem RelT.len {S : Nat → Nat → Prop} : ∀ {r r' : List Tok}, RelT S r r' → r.length = r'.length
 | [], [], _ => rfl
 | _ :: r, _ :: r', h => by have := RelT.len h.2; simp only [List.length_cons]; omega
 | [], _ :: _, h => h.elim
 | _ :: _, [], h => h.elim
theorem EndR.ne {r : List Tok} (h : EndR r) : ∃ t u, r = t :: u := by
 cases r with
 | nil => exact h.elim
 | cons t u => exact ⟨t, u, rfl⟩
theorem RelT.cons {S : Nat → Nat → Prop} {r r' : List Tok} (h : RelT S r r') (he : EndR r) : ∃ t u t' u', r = t :: u ∧ r' = t' :: u' ∧ t.kind = t'.kind ∧ t.text = t'.text ∧ t.n = t'.n ∧ S t.at_ t'.at_ ∧ RelT S u u' := by
 obtain ⟨t, u, rfl⟩ := he.ne
 cases r' with
 | nil => exact h.elim
 | cons t' u' => exact ⟨t, u, t', u', rfl, rfl, h.1.1, h.1.2.1, h.1.2.2.1, h.1.2.2.2, h.2⟩
theorem relT_isS {S : Nat → Nat → Prop} {r r' : List Tok} (h : RelT S r r') (he : EndR r) (s : List UInt8) : isS s r' = isS s r := by
 obtain ⟨t, u, t', u', rfl, rfl, h1, h2, -⟩ := h.cons he; simp only [isS, h1, h2]
theorem relT_isW {S : Nat → Nat → Prop} {r r' : List Tok} (h : RelT S r r') (he : EndR r) (s : List UInt8) : isW s r' = isW s r := by
 obtain ⟨t, u, t', u', rfl, rfl, h1, h2, -⟩ := h.cons he; simp only [isW, h1, h2]
theorem relT_isK {S : Nat → Nat → Prop} {r r' : List Tok} (h : RelT S r r') (he : EndR r) (k : Nat) : isK k r' = isK k r := by
 obtain ⟨t, u, t', u', rfl, rfl, h1, -⟩ := h.cons he; simp only [isK, h1]
theorem relT_isT {S : Nat → Nat → Prop} {r r' : List Tok} (h : RelT S r r') (he : EndR r) (s : List UInt8) : isT s r' = isT s r := by
 unfold isT; rw [relT_isS h he, relT_isW h he]
theorem relT_at {S : Nat → Nat → Prop} {r r' : List Tok} (h : RelT S r r') (he : EndR r) : S (atT r) (atT r') := by
 obtain ⟨t, u, t', u', rfl, rfl, -, -, -, h4, -⟩ := h.cons he; exact h4
theorem relT_tail {S : Nat → Nat → Prop} {r r' : List Tok} (h : RelT S r r') (he : EndR r) (hk : isK 0 r = false) : RelT S r.tail r'.tail ∧ EndR r.tail := by
 obtain ⟨t, u, t', u', rfl, rfl, h1, h2, h3, h4, h5⟩ := h.cons he; exact ⟨h5, he.tail (by simpa [isK] using hk)⟩
theorem isT_k0 {s : List UInt8} {r : List Tok} (h : isT s r = true) : isK 0 r = false := by
 obtain ⟨t, u, rfl⟩ := isT_cons h; simp only [isT, isS, isW, Bool.or_eq_true, Bool.and_eq_true, decide_eq_true_eq] at h
 rcases h with h | h <;> simp [isK, h.1]
theorem sim_bind {α β : Type} {S : Nat → Nat → Prop} {p p' : PR α} {f g : α → List Tok → PR β} (h : SimP S p p') (hf : ∀ x r r', RelT S r r' → EndR r → SimP S (f x r) (g x r')) : SimP S (p.bind f) (p'.bind g) := by
 cases p with
 | ok x r => cases p' with
  | ok x' r' => obtain ⟨rfl, h2, h3⟩ := h; exact hf x r r' h2 h3
  | bad a e => exact h.elim
 | bad a e => cases p' with
  | ok x' r' => exact h.elim
  | bad a' e' => exact h
theorem sim_if {α : Type} {S : Nat → Nat → Prop} {c c' : Bool} {p q p' q' : PR α} (hc : c' = c) (h1 : c = true → SimP S p p') (h2 : c = false → SimP S q q') : SimP S (if c then p else q) (if c' then p' else q') := by
 subst hc
 cases c' with
 | true => exact h1 rfl
 | false => exact h2 rfl
theorem want_sim (s : List UInt8) : Sim (wantP s) := fun S r r' h e => by
 unfold wantP; refine sim_if (relT_isT h e s) (fun hs => ?_) (fun _ => ?_)
 ·obtain ⟨h1, h2⟩ := relT_tail h e (isT_k0 hs); exact ⟨rfl, h1, h2⟩
 ·exact ⟨rfl, relT_at h e⟩
theorem name_sim : Sim nameP := fun S r r' h e => by
 obtain ⟨t, u, t', u', rfl, rfl, h1, h2, h3, h4, h5⟩ := h.cons e
 show SimP S (if t.kind = 1 then .ok t.text u else .bad t.at_ 4) (if t'.kind = 1 then .ok t'.text u' else .bad t'.at_ 4)
 rw [h1, h2]
 split
 ·rename_i hk
  exact ⟨rfl, h5, e.tail (by omega)⟩
 ·exact ⟨rfl, h4⟩
theorem many_sim {α : Type} {f : List Tok → PR α} (hf : Sim f) (close : List UInt8) : ∀ (n : Nat) (acc : List α), Sim (manyP f close n acc)
 | 0, acc => fun S r r' h e => ⟨rfl, relT_at h e⟩
 | n + 1, acc => fun S r r' h e => by
  rw [manyP, manyP]; exact sim_bind (hf S r r' h e) fun x r1 r1' h e => sim_if (relT_isT h e close) (fun hs => by obtain ⟨h1, h2⟩ := relT_tail h e (isT_k0 hs); exact ⟨rfl, h1, h2⟩) (fun _ => many_sim hf close n _ S _ _ h e)
theorem any_sim {α : Type} {f : List Tok → PR α} (hf : Sim f) (close : List UInt8) : ∀ (n : Nat) (acc : List α), Sim (anyP f close n acc)
 | 0, acc => fun S r r' h e => ⟨rfl, relT_at h e⟩
 | n + 1, acc => fun S r r' h e => by
  rw [anyP, anyP]; exact sim_if (relT_isT h e close) (fun hs => by obtain ⟨h1, h2⟩ := relT_tail h e (isT_k0 hs); exact ⟨rfl, h1, h2⟩) (fun _ => sim_bind (hf S r r' h e) fun x r1 r1' h e => any_sim hf close n _ S _ _ h e)
theorem pair_sim {f : List Tok → PR VT} (hf : Sim f) : Sim (pairP f) := fun S r r' h e => sim_bind (name_sim S r r' h e) fun s r1 r1' h e => sim_bind (want_sim _ S r1 r1' h e) fun _ r2 r2' h e => sim_bind (hf S r2 r2' h e) fun v r3 r3' h e => ⟨rfl, h, e⟩
theorem valueB_eqn (fixed : Bool) (f : List Tok → PR VT) (t : Tok) (r : List Tok) : valueB fixed f (t :: r) =
  if t.kind = 2 then .ok (.mk 1 t.n [] [] []) r
  else if t.kind = 3 then .ok (.mk 2 0 t.text [] []) r
  else if isT wTrue (t :: r) then .ok (.mk 3 1 [] [] []) r
  else if isT wFalse (t :: r) then .ok (.mk 3 0 [] [] []) r
  else if isT wNull (t :: r) then .ok VT.zero r
  else if t.kind = 1 then .ok (.mk 4 0 t.text [] []) r
  else if !fixed && isT [36] (t :: r) then (nameP r).bind fun s r1 => .ok (.mk 7 0 s [] []) r1
  else if isT [91] (t :: r) then (anyP f [93] (r.length + 1) [] r).bind fun vs r1 => .ok (.mk 5 0 [] [] vs) r1
  else if isT [123] (t :: r) then (anyP (pairP f) [125] (r.length + 1) [] r).bind fun ps r1 => .ok (.mk 6 0 [] (ps.map (·.1)) (ps.map (·.2))) r1
  else .bad t.at_ 4 := rfl
theorem valueB_sim (fixed : Bool) {f : List Tok → PR VT} (hf : Sim f) : Sim (valueB fixed f) := fun S r r' h e => by
 have hT := fun s => relT_isT h e s
 obtain ⟨t, u, t', u', rfl, rfl, h1, h2, h3, h4, h5⟩ := h.cons e; have hl := h5.len; rw [valueB_eqn, valueB_eqn, hT, hT, hT, hT, hT, hT, ← h1, ← h2, ← h3, ← hl]; have hu : isT wTrue (t :: u) = true ∨ isT wFalse (t :: u) = true ∨ isT wNull (t :: u) = true ∨ isT [36] (t :: u) = true ∨ isT [91] (t :: u) = true ∨ isT [123] (t :: u) = true → EndR u := fun hh => by
  have : isK 0 (t :: u) = false := by rcases hh with hh | hh | hh | hh | hh | hh <;> exact isT_k0 hh
  exact e.tail (by simpa [isK] using this)
 split
 ·exact ⟨rfl, h5, e.tail (by omega)⟩
 ·split
  ·exact ⟨rfl, h5, e.tail (by omega)⟩
  ·split
   ·rename_i hh; exact ⟨rfl, h5, hu (.inl hh)⟩
   ·split
    ·rename_i hh; exact ⟨rfl, h5, hu (.inr (.inl hh))⟩
    ·split
     ·rename_i hh; exact ⟨rfl, h5, hu (.inr (.inr (.inl hh)))⟩
     ·split
      ·exact ⟨rfl, h5, e.tail (by omega)⟩
      ·split
       ·rename_i hh
        simp only [Bool.and_eq_true] at hh; exact sim_bind (name_sim S u u' h5 (hu (.inr (.inr (.inr (.inl hh.2)))))) fun s r1 r1' h e => ⟨rfl, h, e⟩
       ·split
        ·rename_i hh
         exact sim_bind (any_sim hf _ _ _ S u u' h5 (hu (.inr (.inr (.inr (.inr (.inl hh))))))) fun s r1 r1' h e => ⟨rfl, h, e⟩
        ·split
         ·rename_i hh
          exact sim_bind (any_sim (pair_sim hf) _ _ _ S u u' h5 (hu (.inr (.inr (.inr (.inr (.inr hh))))))) fun s r1 r1' h e => ⟨rfl, h, e⟩
         ·exact ⟨rfl, h4⟩
theorem value_sim (fixed : Bool) : ∀ d, Sim (valueP fixed d)
 | 0 => fun S r r' h e => ⟨rfl, relT_at h e⟩
 | d + 1 => valueB_sim fixed (value_sim fixed d)
theorem bang_sim (mk : Bool → TR) : Sim (bangP mk) := fun S r r' h e => by
 unfold bangP; exact sim_if (relT_isT h e _) (fun hs => by obtain ⟨h1, h2⟩ := relT_tail h e (isT_k0 hs); exact ⟨rfl, h1, h2⟩) (fun _ => ⟨rfl, h, e⟩)
theorem typ_sim : ∀ d, Sim (typP d)
 | 0 => fun S r r' h e => ⟨rfl, relT_at h e⟩
 | d + 1 => fun S r r' h e => by
  rw [typP, typP]; refine sim_if (relT_isT h e _) (fun hs => ?_) (fun _ => ?_)
  ·obtain ⟨h1, h2⟩ := relT_tail h e (isT_k0 hs); exact sim_bind (typ_sim d S _ _ h1 h2) fun t r1 r1' h e => sim_bind (want_sim _ S _ _ h e) fun _ r2 r2' h e => bang_sim _ S _ _ h e
  ·exact sim_bind (name_sim S _ _ h e) fun s r1 r1' h e => bang_sim _ S _ _ h e
def JnP {α : Type} (E : Tok) (tl pre : List Tok) (p p' : PR α) : Prop := match p with
 | .bad _ _ => True
 | .ok x r1 => ∃ u, u <:+ pre ∧ r1 = u ++ [E] ∧ (u ≠ [] → p' = .ok x (u ++ tl))
def JcP {α : Type} (E : Tok) (tl pre : List Tok) (p p' : PR α) : Prop := match p with
 | .bad _ _ => True
 | .ok x r1 => ∃ u, u <:+ pre ∧ u.length < pre.length ∧ r1 = u ++ [E] ∧ p' = .ok x (u ++ tl)
section
variable {E : Tok} {tl : List Tok}
theorem JcP.jn {α : Type} {pre : List Tok} {p p' : PR α} (h : JcP E tl pre p p') : JnP E tl pre p p' := by
 cases p with
 | bad a e => trivial
 | ok x r => obtain ⟨u, h1, h2, h3, h4⟩ := h; exact ⟨u, h1, h3, fun _ => h4⟩
theorem JnP.ok {α : Type} (x : α) (pre : List Tok) : JnP E tl pre (.ok x (pre ++ [E])) (.ok x (pre ++ tl)) := ⟨pre, List.suffix_refl _, rfl, fun _ => rfl⟩
theorem JcP.ok {α : Type} (x : α) (a : Tok) (pre : List Tok) : JcP E tl (a :: pre) (.ok x (pre ++ [E])) (.ok x (pre ++ tl)) := ⟨pre, List.suffix_cons _ _, by simp, rfl, rfl⟩
def DC.app (d m : DC) : DC := ⟨d.ops ++ m.ops, d.frags ++ m.frags⟩
def PR.map {α β : Type} (h : α → β) : PR α → PR β
 | .ok x r => .ok (h x) r
 | .bad a e => .bad a e
end
def CutP {α : Type} (t E : Tok) (post : List Tok) (p p' : PR α) : Prop := match p with
 | .bad _ _ => True
 | .ok x r1 => (∃ u, r1 = u ++ t :: post ∧ p' = .ok x (u ++ [E])) ∨ (r1.length ≤ post.length ∧ p' = .bad E.at_ 4)
section
variable {t E : Tok} {post : List Tok}
theorem CutP.ok {α : Type} (x : α) (u : List Tok) : CutP t E post (.ok x (u ++ t :: post)) (.ok x (u ++ [E])) := .inl ⟨u, rfl, rfl⟩
theorem CutP.out {α : Type} {p p' : PR α} (h : ∀ x r, p ≠ .ok x r) : CutP t E post p p' := by
 cases p with
 | ok x r => exact absurd rfl (h x r)
 | bad a e => trivial
end
def DR1.up (n : Nat) (d : DC) : DR1 → DR1
 | .ok m => .ok (d.app m)
 | .bad a e => .bad (a + n) e
theorem DC.app_nil (d : DC) : d.app ⟨[], []⟩ = d := by cases d; simp [DC.app]
def GTok (t : Tok) : Prop := (t.kind = 1 → NameOk t.text) ∧ (t.kind = 2 → NumOk t.n) ∧ (t.kind = 3 → t.text.length ≤ 200)
def GT (r : List Tok) : Prop := ∀ t ∈ r, GTok t
theorem oneP_good {l : List UInt8} {k : Nat} {t : List UInt8} {n : Int} {len : Nat} (h : oneP l = .ok k t n len) (a : Nat) : GTok ⟨k, t, n, a⟩ := by
 cases l with
 | nil => cases h
 | cons c l =>
  rw [oneP_cons] at h
  split at h
  ·rename_i hc
   split at h
   ·cases h
   ·rename_i hl
    injection h with h1 h2 h3 h4
    subst h1; subst h2; refine ⟨fun _ => ?_, fun h => absurd h (by simp), fun h => absurd h (by simp)⟩
    have hp : 1 ≤ runL ldB (c :: l) := runL_pos (by unfold ldB; rw [hc]; rfl); have hle := runL_le ldB (c :: l); refine ⟨⟨c, l.take (runL ldB (c :: l) - 1), ?_, hc⟩, runL_take_all (c :: l), ?_⟩
    ·obtain ⟨m, hm⟩ : ∃ m, runL ldB (c :: l) = m + 1 := ⟨runL ldB (c :: l) - 1, by omega⟩
     show List.take (runL ldB (c :: l)) (c :: l) = _
     rw [hm]; rfl
    ·show (List.take (runL ldB (c :: l)) (c :: l)).length ≤ 32
     rw [List.length_take]; omega
  ·split at h
   ·obtain ⟨D, h1, h2, h3, h4, h5, h6, h7, -⟩ := numP_ok h; subst h4; refine ⟨fun h => absurd h (by simp), fun _ => ?_, fun h => absurd h (by simp)⟩
    have hall : ∀ x ∈ ((c :: l).drop (numFrom (c :: l))).take D, digB x = true := by
     rw [← h6]; exact runL_take_all _
    have hv := decV_lt (((c :: l).drop (numFrom (c :: l))).take D) 0 0 hall (by decide); have hll : (((c :: l).drop (numFrom (c :: l))).take D).length ≤ 18 := by rw [List.length_take]; omega
    have hp := pow18 _ hll; have hn : n.natAbs = decV 0 (((c :: l).drop (numFrom (c :: l))).take D) := by rw [h7]; split <;> omega
    unfold NumOk; rw [hn]; simp only [Nat.add_zero] at hv; have : 10 ^ 18 = 1000000000000000000 := by decide
    omega
   ·split at h
    ·have := txtP_len _ _ _ h; refine ⟨fun h => absurd h (by show ¬ k = 1; omega), fun h => absurd h (by show ¬ k = 2; omega), fun _ => this.2.2.2.2⟩
    ·split at h
     ·injection h with h1 h2 h3 h4
      subst h1; exact ⟨fun h => absurd h (by simp), fun h => absurd h (by simp), fun h => absurd h (by simp)⟩
     ·split at h
      ·injection h with h1 h2 h3 h4
       subst h1; exact ⟨fun h => absurd h (by simp), fun h => absurd h (by simp), fun h => absurd h (by simp)⟩
      ·cases h
theorem toksA_good : ∀ (a : Nat) (l : List UInt8), ∀ ts, toksA a l = .ok ts → GT ts := by
 refine toksA_ind ?_ ?_ ?_ ?_ ?_
 ·intro a ts h; rw [toksA_nil] at h; injection h with h; subst h; intro t ht; rw [List.mem_singleton] at ht; subst ht; exact ⟨fun h => absurd h (by simp), fun h => absurd h (by simp), fun h => absurd h (by simp)⟩
 ·intro a c l hb ih ts h; rw [toksA_blk a hb] at h; exact ih ts h
 ·intro a c l hr ih ts h; rw [toksA_rem a hr] at h; exact ih ts h
 ·intro a c l off e hb hr hx ts h; rw [toksA_bad a hb hr hx] at h; cases h
 ·intro a c l k t n len hb hr ho ih ts h; rw [toksA_one a hb hr ho] at h; obtain ⟨us, h1, rfl⟩ := Out.cons_ok h; intro u hu
  rcases List.mem_cons.1 hu with rfl | hu
  ·exact oneP_good ho a
  ·exact ih us h1 u hu
theorem toks_good {s : List UInt8} {ts : List Tok} (h : toks s = .ok ts) : GT ts := toksA_good 0 s ts (toks_ok h).2
def Gd {α : Type} (f : List Tok → PR α) (P : α → Prop) : Prop := ∀ r x r1, GT r → f r = .ok x r1 → P x ∧ GT r1
theorem GT.tail {r : List Tok} (h : GT r) : GT r.tail := fun t ht => h t (List.mem_of_mem_tail ht)
theorem Gd.ok {α : Type} {P : α → Prop} (x : α) (h : P x) : Gd (fun r => .ok x r) P := fun r y r1 hg e => by
 injection e with e1 e2; subst e1; subst e2; exact ⟨h, hg⟩
theorem Gd.bad {α : Type} {P : α → Prop} (a : List Tok → Nat) (e : Nat) : Gd (fun r => (.bad (a r) e : PR α)) P := fun r y r1 hg e => by cases e
theorem Gd.bind {α β : Type} {f : List Tok → PR α} {g : α → List Tok → PR β} {P : α → Prop} {Q : β → Prop} (hf : Gd f P) (hg : ∀ x, P x → Gd (g x) Q) : Gd (fun r => (f r).bind g) Q := fun r y r1 h e => by
 obtain ⟨x, r2, h1, h2⟩ := bind_inv e; obtain ⟨k1, k2⟩ := hf r x r2 h h1; exact hg x k1 r2 y r1 k2 h2
theorem Gd.ite {α : Type} {c : List Tok → Bool} {f g : List Tok → PR α} {P : α → Prop} (hf : Gd f P) (hg : Gd g P) : Gd (fun r => if c r then f r else g r) P := fun r y r1 h e => by
 have e : (if c r then f r else g r) = .ok y r1 := e
 split at e
 ·exact hf r y r1 h e
 ·exact hg r y r1 h e
theorem Gd.tl {α : Type} {f : List Tok → PR α} {P : α → Prop} (hf : Gd f P) : Gd (fun r => f r.tail) P := fun r y r1 h e => hf r.tail y r1 h.tail e
theorem Gd.mono {α : Type} {f : List Tok → PR α} {P Q : α → Prop} (hf : Gd f P) (h : ∀ x, P x → Q x) : Gd f Q := fun r y r1 hg e => ⟨h y (hf r y r1 hg e).1, (hf r y r1 hg e).2⟩
theorem gd_name : Gd nameP NameOk := fun r x r1 h e => by
 cases r with
 | nil => cases e
 | cons t r =>
  have e : (if t.kind = 1 then PR.ok t.text r else .bad t.at_ 4) = .ok x r1 := e
  split at e
  ·rename_i hk
   injection e with e1 e2; subst e1; subst e2
   exact ⟨(h t (by simp)).1 hk, fun u hu => h u (by simp [hu])⟩
  ·cases e
theorem gd_want (s : List UInt8) : Gd (wantP s) (fun _ => True) := fun r x r1 h e => by
 unfold wantP at e
 split at e
 ·injection e with e1 e2; subst e2; exact ⟨trivial, h.tail⟩
 ·cases e
theorem gd_many {α : Type} {f : List Tok → PR α} {P : α → Prop} (hf : Gd f P) (c : List UInt8) : ∀ (n : Nat) (acc : List α), (∀ x ∈ acc, P x) → Gd (manyP f c n acc) (fun l => l ≠ [] ∧ ∀ x ∈ l, P x)
 | 0, acc, _ => fun r x r1 h e => by cases e
 | n + 1, acc, ha => fun r x r1 h e => by
  rw [manyP] at e; obtain ⟨y, r2, h1, h2⟩ := bind_inv e; obtain ⟨k1, k2⟩ := hf r y r2 h h1; have ha2 : ∀ z ∈ acc ++ [y], P z := fun z hz => by
   rcases List.mem_append.1 hz with hz | hz
   ·exact ha z hz
   ·rw [List.mem_singleton] at hz; subst hz; exact k1
  split at h2
  ·injection h2 with e1 e2; subst e1; subst e2; exact ⟨⟨by simp, ha2⟩, k2.tail⟩
  ·exact gd_many hf c n _ ha2 r2 x r1 k2 h2
theorem gd_any {α : Type} {f : List Tok → PR α} {P : α → Prop} (hf : Gd f P) (c : List UInt8) : ∀ (n : Nat) (acc : List α), (∀ x ∈ acc, P x) → Gd (anyP f c n acc) (fun l => ∀ x ∈ l, P x)
 | 0, acc, _ => fun r x r1 h e => by cases e
 | n + 1, acc, ha => fun r x r1 h e => by
  rw [anyP] at e
  split at e
  ·injection e with e1 e2; subst e1; subst e2; exact ⟨ha, h.tail⟩
  ·obtain ⟨y, r2, h1, h2⟩ := bind_inv e; obtain ⟨k1, k2⟩ := hf r y r2 h h1
   exact gd_any hf c n _ (fun z hz => by
    rcases List.mem_append.1 hz with hz | hz
    ·exact ha z hz
    ·rw [List.mem_singleton] at hz; subst hz; exact k1) r2 x r1 k2 h2
theorem Gd.fuel {α : Type} {F : Nat → List Tok → PR α} {P : α → Prop} (h : ∀ n, Gd (F n) P) (m : List Tok → Nat) : Gd (fun r => F (m r) r) P := fun r y r1 hg e => h (m r) r y r1 hg e
theorem gd_pair {f : List Tok → PR VT} {P : VT → Prop} (hf : Gd f P) : Gd (pairP f) (fun p => NameOk p.1 ∧ P p.2) :=
 gd_name.bind fun s hs => (gd_want _).bind fun _ _ => hf.bind fun v hv => Gd.ok _ ⟨hs, hv⟩
theorem gd_val (fx : Bool) : ∀ d, Gd (valueP fx d) (GoodV fx d)
 | 0 => fun r x r1 h e => by cases e
 | d + 1 => fun r x r1 h e => by
  have ih := gd_val fx d
  cases r with
  | nil => cases e
  | cons t r =>
   rw [valueP, vB_cons] at e; have ht := h t (by simp); have hr : GT r := fun u hu => h u (by simp [hu])
   split at e
   ·rename_i hk
    injection e with e1 e2; subst e1; subst e2
    exact ⟨.inl ⟨rfl, ht.2.1 hk, rfl, rfl, rfl⟩, hr⟩
   split at e
   ·rename_i hk
    injection e with e1 e2; subst e1; subst e2
    exact ⟨.inr (.inl ⟨rfl, rfl, ht.2.2 hk, rfl, rfl⟩), hr⟩
   split at e
   ·injection e with e1 e2; subst e1; subst e2
    exact ⟨.inr (.inr (.inl ⟨rfl, .inr rfl, rfl, rfl, rfl⟩)), hr⟩
   rename_i h1
   split at e
   ·injection e with e1 e2; subst e1; subst e2
    exact ⟨.inr (.inr (.inl ⟨rfl, .inl rfl, rfl, rfl, rfl⟩)), hr⟩
   rename_i h2
   split at e
   ·injection e with e1 e2; subst e1; subst e2
    exact ⟨.inr (.inr (.inr (.inl ⟨rfl, rfl, rfl, rfl, rfl⟩))), hr⟩
   rename_i h3
   split at e
   ·rename_i hk
    injection e with e1 e2; subst e1; subst e2
    have hw : ∀ s, isT s (t :: r) = true ↔ t.text = s := fun s => by simp [isT, isS, isW, hk]
    exact ⟨.inr (.inr (.inr (.inr (.inl ⟨rfl, rfl, ht.1 hk, fun q => h1 ((hw _).2 q), fun q => h2 ((hw _).2 q), fun q => h3 ((hw _).2 q), rfl, rfl⟩)))), hr⟩
   split at e
   ·rename_i hf
    rw [Bool.and_eq_true] at hf; obtain ⟨s, r2, k1, k2⟩ := bind_inv e; obtain ⟨g1, g2⟩ := gd_name r s r2 hr k1
    injection k2 with e1 e2; subst e1; subst e2
    exact ⟨.inr (.inr (.inr (.inr (.inr (.inl ⟨rfl, by simpa using hf.1, rfl, g1, rfl, rfl⟩))))), g2⟩
   split at e
   ·obtain ⟨vs, r2, k1, k2⟩ := bind_inv e; obtain ⟨g1, g2⟩ := gd_any ih _ _ [] (by simp) r vs r2 hr k1
    injection k2 with e1 e2; subst e1; subst e2
    exact ⟨.inr (.inr (.inr (.inr (.inr (.inr (.inl ⟨rfl, rfl, rfl, rfl, g1⟩)))))), g2⟩
   split at e
   ·obtain ⟨ps, r2, k1, k2⟩ := bind_inv e; obtain ⟨g1, g2⟩ := gd_any (gd_pair ih) _ _ [] (by simp) r ps r2 hr k1
    injection k2 with e1 e2; subst e1; subst e2
    exact ⟨.inr (.inr (.inr (.inr (.inr (.inr (.inr ⟨rfl, rfl, rfl, ps, rfl, rfl, g1⟩)))))), g2⟩
   ·cases e
theorem gd_bang {P : TR → Prop} {mk : Bool → TR} (h : ∀ b, P (mk b)) : Gd (bangP mk) P := Gd.ite (c := fun r => isT [33] r) (Gd.tl (Gd.ok _ (h true))) (Gd.ok _ (h false))
theorem gd_typ : ∀ d, Gd (typP d) (GoodT d)
 | 0 => fun r x r1 h e => by cases e
 | d + 1 => Gd.ite (c := fun r => isT [91] r) (Gd.tl ((gd_typ d).bind fun t ht => (gd_want [93]).bind (Q := GoodT (d + 1)) fun _ _ => gd_bang (mk := TR.ls t) fun b => ht)) (gd_name.bind fun s hs => gd_bang (P := GoodT (d + 1)) (mk := TR.nm s) fun b => hs)
theorem LikeP.rel : ∀ {ts us : List Tok}, LikeP ts us → ∀ (E F : Tok), E.kind = F.kind → E.text = F.text → E.n = F.n → RelT (fun _ _ => True) (us ++ [F]) (ts ++ [E])
 | [], [], _, E, F, h1, h2, h3 => ⟨⟨h1.symm, h2.symm, h3.symm, trivial⟩, trivial⟩
 | [], _ :: _, h, _, _, _, _, _ => h.elim
 | _ :: _, [], h, _, _, _, _, _ => h.elim
 | t :: ts, u :: us, h, E, F, h1, h2, h3 => ⟨⟨h.1.1.symm, h.1.2.1.symm, h.1.2.2.symm, trivial⟩, LikeP.rel h.2 E F h1 h2 h3⟩
theorem LikeP.len : ∀ {ts us : List Tok}, LikeP ts us → ts.length = us.length
 | [], [], _ => rfl
 | [], _ :: _, h => h.elim
 | _ :: _, [], h => h.elim
 | t :: ts, u :: us, h => by simp only [List.length_cons]; rw [LikeP.len h.2]
theorem flat_len {α : Type} {T : α → List Tok} : ∀ {l : List α}, (∀ x ∈ l, 0 < (T x).length) → l.length ≤ (l.flatMap T).length
 | [], _ => by simp
 | x :: l, h => by
  have h1 := h x (by simp); have h2 := flat_len (l := l) (fun y hy => h y (by simp [hy])); rw [List.flatMap_cons, List.length_append, List.length_cons]; omega
theorem rd_in {i : IN} (h : GoodIn i) {q : List Tok} (hq : StpI q) : inP (tok0 (inI i) ++ q) = .ok i q := by
 obtain ⟨R, e, hr⟩ := rd_inp (n := [nmI i.name]) h.2.1 h.2.2 hq (fun t b x => (⟨i.name, t, b, x⟩ : IN))
 show inP (tok0 (inpI [nmI i.name] i.t i.has i.v) ++ q) = _
 rw [e]
 show inP (nmT i.name :: sgT 58 :: R) = _
 unfold inP; rw [nameP_nm]
 show ((wantP [58] (sgT 58 :: R)).bind fun _ r3 => (typP 24 r3).bind fun t r4 => if isT [61] r4 then (valueP true 24 r4.tail).bind fun x r5 => .ok (IN.mk i.name t true x) r5 else .ok (IN.mk i.name t false VT.zero) r4) = _
 rw [wantP_sg]; exact hr
theorem fst_in {i : IN} (h : GoodIn i) (q : List Tok) : ∃ r, tok0 (inI i) ++ q = nmT i.name :: r := ⟨_, rfl⟩
theorem ins_par {l : List IN} (h : ∀ i ∈ l, GoodIn i) (S : List Tok) (hS : isT [40] S = false) : (if isT [40] (tok0 (parI (l.map inI)) ++ S) then manyP inP [41] ((tok0 (parI (l.map inI)) ++ S).length + 1) [] (tok0 (parI (l.map inI)) ++ S).tail else .ok [] (tok0 (parI (l.map inI)) ++ S)) = .ok l S := by
 rw [tok0_par]
 by_cases hv : l = []
 ·subst hv
  show (if isT [40] S then manyP inP [41] (S.length + 1) [] S.tail else PR.ok ([] : List IN) S) = _
  rw [if_neg (by rw [hS]; decide)]
 ·rw [if_neg (show ¬ l.map inI = [] by simpa using hv)]; have e : (sgT 40 :: ((l.map inI).flatMap tok0 ++ [sgT 41]) ++ S) = sgT 40 :: (l.flatMap (fun x => tok0 (inI x)) ++ sgT 41 :: S) := by
   rw [List.flatMap_map, List.cons_append, List.append_assoc]; rfl
  rw [e, if_pos (by rw [isT_sg]; decide)]
  exact rd_many inP_takes (Stp := StpI) (fun q => ⟨by rw [isT_sg]; decide, by rw [isT_sg]; decide⟩) l hv (fun x hx => ⟨fun q hq => rd_in (h x hx) hq, fun q => by
   obtain ⟨r, er⟩ := fst_in (h x hx) q
   rw [er]; exact ⟨nm_no (h x hx).1 _ _ _ (by decide), StpI.nm (h x hx).1 _⟩⟩) _ [] S (by simp only [List.length_cons, List.length_append]; omega)
theorem rd_fd {f : FD} (h : GoodFd f) (hh : f.has = false) {q : List Tok} (hq : StpI q) : fdP (tok0 (fdI f) ++ q) = .ok f q := by
 obtain ⟨name, gs, t, has, v⟩ := f; obtain ⟨⟨h1, h2, h3⟩, h4⟩ := h; have hh : has = false := hh; subst hh; have hv : v = VT.zero := by rcases h3 with ⟨h3, _⟩ | ⟨_, h3⟩; cases h3; exact h3
 subst hv; have e : tok0 (fdI ⟨name, gs, t, false, VT.zero⟩) ++ q = nmT name :: (tok0 (parI (gs.map inI)) ++ (sgT 58 :: (tok0 (typI t) ++ q))) := by
  show tok0 (inpI (nmI name :: parI (gs.map inI)) t false VT.zero) ++ q = _
  unfold inpI; rw [tok0_app, List.append_assoc]
  show nmT name :: (tok0 (parI (gs.map inI)) ++ (sgT 58 :: (tok0 (typI t ++ []) ++ q))) = _
  rw [List.append_nil]
 rw [e]; unfold fdP; rw [nameP_nm, okb, ins_par h4 _ (by rw [isT_sg]; decide), okb, wantP_sg, okb, rd_typ _ _ h2 _ hq.c33, okb]
theorem rd_plain {s : List UInt8} (h : NameOk s ∧ s ≠ wTrue ∧ s ≠ wFalse ∧ s ≠ wNull) (q : List Tok) : plainP (nmT s :: q) = .ok s q := by
 unfold plainP; rw [isT_nm, isT_nm, isT_nm, decide_eq_false h.2.1, decide_eq_false h.2.2.1, decide_eq_false h.2.2.2, if_neg (by decide)]; rfl
theorem rd_more {c : UInt8} : ∀ (l : List (List UInt8)) {q : List Tok}, isT [c] q = false → ∀ (n : Nat) (acc : List (List UInt8)), l.length < n → moreP [c] n acc ((l.flatMap fun s => [sgT c, nmT s]) ++ q) = .ok (acc ++ l) q
 | _, _, _, 0, _, h => by omega
 | [], q, hq, n + 1, acc, _ => by
  show moreP [c] (n + 1) acc q = _
  rw [moreP, if_neg (by rw [hq]; decide), List.append_nil]
 | s :: l, q, hq, n + 1, acc, hn => by
  simp only [List.length_cons] at hn
  show moreP [c] (n + 1) acc (sgT c :: nmT s :: ((l.flatMap fun s => [sgT c, nmT s]) ++ q)) = _
  rw [moreP, if_pos (by rw [isT_sg]; simp)]
  show ((nameP (nmT s :: ((l.flatMap fun s => [sgT c, nmT s]) ++ q))).bind fun s r1 => moreP [c] n (acc ++ [s]) r1) = _
  rw [nameP_nm]
  show moreP [c] n (acc ++ [s]) ((l.flatMap fun s => [sgT c, nmT s]) ++ q) = _
  rw [rd_more l hq n _ (by omega)]; simp
theorem tok0_nam (c : UInt8) (l : List (List UInt8)) : tok0 (namI [.sp 32, sgI c, .sp 32] l) = match l with | [] => [] | s :: l => nmT s :: l.flatMap fun s => [sgT c, nmT s] := by
 unfold namI
 cases l with
 | nil => rfl
 | cons s l =>
  show tok0 (nmI s :: (l.map fun s => [nmI s]).flatMap fun b => [.sp 32, sgI c, .sp 32] ++ b) = _
  show nmT s :: tok0 ((l.map fun s => [nmI s]).flatMap fun b => [.sp 32, sgI c, .sp 32] ++ b) = _
  rw [tok0_flat, List.flatMap_map]; rfl
theorem rd_names {c : UInt8} (hc : letB c = false) {l : List (List UInt8)} (hl : l ≠ []) (h : ∀ s ∈ l, NameOk s) {q : List Tok} (hq : isT [c] q = false) : namesP [c] (tok0 (namI [.sp 32, sgI c, .sp 32] l) ++ q) = .ok l q := by
 rw [tok0_nam]
 cases l with
 | nil => exact absurd rfl hl
 | cons s l =>
  show namesP [c] (nmT s :: ((l.flatMap fun s => [sgT c, nmT s]) ++ q)) = _
  unfold namesP; rw [if_neg (by rw [nm_no (h s (by simp)) _ _ _ hc]; decide), nameP_nm]
  show moreP [c] _ [s] ((l.flatMap fun s => [sgT c, nmT s]) ++ q) = _
  rw [rd_more l hq _ [s] (by
   have := flat_len (T := fun s => [sgT c, nmT s]) (l := l) (fun _ _ => by simp)
   rw [List.length_append]; omega)]; rfl
theorem rd_obj {k : Nat} {s : List UInt8} {l : List (List UInt8)} {fs : List FD} (hf : fs ≠ []) (h : ∀ f ∈ fs, GoodFd f ∧ f.has = false) (q : List Tok) : objP k s l (tok0 (brI (fs.flatMap fun f => .sp 32 :: fdI f)) ++ q) = .ok ⟨k, s, fs, l⟩ q := by
 rw [tok0_br, tok0_flat]; have e : (sgT 123 :: ((fs.flatMap fun f => tok0 (.sp 32 :: fdI f)) ++ [sgT 125])) ++ q = sgT 123 :: ((fs.flatMap fun f => tok0 (fdI f)) ++ sgT 125 :: q) := by rw [List.cons_append, List.append_assoc]; rfl
 rw [e]; unfold objP
 rw [wantP_sg, okb, rd_many fdP_takes (Stp := StpI) (fun q => ⟨by rw [isT_sg]; decide, by rw [isT_sg]; decide⟩) fs hf (fun x hx => ⟨fun q hq => rd_fd (h x hx).1 (h x hx).2 hq, fun q => by
   show isT [125] (nmT x.name :: _) = false ∧ StpI (nmT x.name :: _)
   exact ⟨nm_no (h x hx).1.1.1 _ _ _ (by decide), StpI.nm (h x hx).1.1.1 _⟩⟩) _ [] q (by rw [List.length_append]; omega), okb]
 rfl
theorem map_of {l : List FD} (h : ∀ f ∈ l, GoodFd f ∧ f.args = []) : ∃ is : List IN, l = is.map FD.of ∧ ∀ i ∈ is, GoodIn i := by
 induction l with
 | nil => exact ⟨[], rfl, by simp⟩
 | cons f l ih =>
  obtain ⟨is, rfl, h2⟩ := ih (fun g hg => h g (by simp [hg])); obtain ⟨h3, h4⟩ := h f (by simp); obtain ⟨name, gs, t, has, v⟩ := f; have h4 : gs = [] := h4; subst h4; refine ⟨⟨name, t, has, v⟩ :: is, rfl, fun i hi => ?_⟩
  rcases List.mem_cons.1 hi with rfl | hi
  ·exact h3.1
  ·exact h2 i hi
theorem tdI_eq (k : Nat) (name : List UInt8) (fs : List FD) (names : List (List UInt8)) : tdI ⟨k, name, fs, names⟩ =
 if k = 3 then nmI wUnion :: .sp 32 :: nmI name :: .sp 32 :: sgI 61 :: .sp 32 :: namI [.sp 32, sgI 124, .sp 32] names
 else if k = 4 then nmI wEnum :: .sp 32 :: nmI name :: .sp 32 :: sgI 123 :: .sp 32 :: (namI [.sp 32] names ++ [.sp 32, sgI 125])
 else nmI (if k = 1 then wType else if k = 2 then wInterface else wInput) :: .sp 32 :: nmI name ::
  ((if k = 1 ∧ names ≠ [] then .sp 32 :: nmI wImplements :: .sp 32 :: namI [.sp 32, sgI 38, .sp 32] names else []) ++ brI (fs.flatMap fun f => .sp 32 :: fdI f)) := rfl
theorem rd_td {t : TD} (h : GoodTd t) {q : List Tok} (h1 : isT [124] q = false) : tdP (tok0 (tdI t) ++ q) = .ok t q := by
 obtain ⟨k, name, fs, names⟩ := t; obtain ⟨hn, h⟩ := h; have hn : NameOk name := hn; have h : (k = 3 ∧ names ≠ [] ∧ (∀ s ∈ names, NameOk s) ∧ fs = []) ∨ (k = 4 ∧ names ≠ [] ∧ (∀ s ∈ names, NameOk s ∧ s ≠ wTrue ∧ s ≠ wFalse ∧ s ≠ wNull) ∧ fs = []) ∨ (k = 5 ∧ names = [] ∧ fs ≠ [] ∧ ∀ f ∈ fs, GoodFd f ∧ f.args = []) ∨ ((k = 1 ∨ k = 2 ∧ names = []) ∧ (∀ s ∈ names, NameOk s) ∧ fs ≠ [] ∧ ∀ f ∈ fs, GoodFd f ∧ f.has = false) := h; rw [tdI_eq]; have go : ∀ (w : List UInt8) (r : List Tok) (j : Nat), kindN (nmT w :: nmT name :: r) = j → j ≠ 0 → tdP (nmT w :: nmT name :: r) = bodyP j name r := fun w r j hk h0 => by
  unfold tdP; rw [hk, if_neg h0]; rfl
 rcases h with ⟨hk, h2, h3, h4⟩ | ⟨hk, h2, h3, h4⟩ | ⟨hk, h2, h3, h4⟩ | ⟨hk, h2, h3, h4⟩
 ·have hk : k = 3 := hk; subst hk; subst h4; rw [if_pos rfl]
  show tdP (nmT wUnion :: nmT name :: sgT 61 :: (tok0 (namI [.sp 32, sgI 124, .sp 32] names) ++ q)) = _
  rw [go wUnion _ 3 (by unfold kindN; simp only [isT_nm]; decide) (by decide)]; unfold bodyP; rw [if_pos rfl]; unfold unionP; rw [wantP_sg, okb, rd_names (by decide) h2 h3 h1, okb]
 ·have hk : k = 4 := hk; subst hk; subst h4; rw [if_neg (by decide), if_pos rfl]; have e : tok0 (namI [.sp 32] names ++ [.sp 32, sgI 125]) ++ q = (names.flatMap fun s => [nmT s]) ++ sgT 125 :: q := by
   unfold namI; rw [tok0_app, tok0_sep rfl, List.append_assoc, List.flatMap_map]; rfl
  show tdP (nmT wEnum :: nmT name :: sgT 123 :: (tok0 (namI [.sp 32] names ++ [.sp 32, sgI 125]) ++ q)) = _
  rw [e, go wEnum _ 4 (by unfold kindN; simp only [isT_nm]; decide) (by decide)]; unfold bodyP; rw [if_neg (by decide), if_pos rfl]; unfold enumP; rw [wantP_sg, okb, rd_many plainP_takes (Stp := fun _ => True) (fun _ => trivial) names h2 (fun x hx => ⟨fun q _ => rd_plain (h3 x hx) q, fun q => ⟨nm_no (h3 x hx).1 _ _ _ (by decide), trivial⟩⟩) _ [] q (by rw [List.length_append]; omega)]
  rfl
 ·have hk : k = 5 := hk; subst hk; subst h2; obtain ⟨is, rfl, hi⟩ := map_of h4; have h3 : is ≠ [] := by rintro rfl; exact h3 rfl
  rw [if_neg (by decide), if_neg (by decide), if_neg (by decide), if_neg (by decide), if_neg (show ¬ (5 = 1 ∧ ([] : List (List UInt8)) ≠ []) by decide)]; have e : tok0 (brI ((is.map FD.of).flatMap fun f => .sp 32 :: fdI f)) ++ q = sgT 123 :: ((is.flatMap fun i => tok0 (inI i)) ++ sgT 125 :: q) := by
   rw [tok0_br, tok0_flat, List.flatMap_map, List.cons_append, List.append_assoc]; rfl
  show tdP (nmT wInput :: nmT name :: (tok0 (brI ((is.map FD.of).flatMap fun f => .sp 32 :: fdI f)) ++ q)) = _
  rw [e, go wInput _ 5 (by unfold kindN; simp only [isT_nm]; decide) (by decide)]; unfold bodyP; rw [if_neg (by decide), if_neg (by decide), if_pos rfl]; unfold inputP
  rw [wantP_sg, okb, rd_many inP_takes (Stp := StpI) (fun q => ⟨by rw [isT_sg]; decide, by rw [isT_sg]; decide⟩) is h3 (fun x hx => ⟨fun q hq => rd_in (hi x hx) hq, fun q => by
    show isT [125] (nmT x.name :: _) = false ∧ StpI (nmT x.name :: _)
    exact ⟨nm_no (hi x hx).1 _ _ _ (by decide), StpI.nm (hi x hx).1 _⟩⟩) _ [] q (by rw [List.length_append]; omega)]
  rfl
 ·have hk3 : ¬ k = 3 := by rcases hk with hk | hk <;> omega
  have hk4 : ¬ k = 4 := by rcases hk with hk | hk <;> omega
  have hk5 : ¬ k = 5 := by rcases hk with hk | hk <;> omega
  rw [if_neg hk3, if_neg hk4]; obtain ⟨S, hS⟩ : ∃ S, tok0 (brI (fs.flatMap fun f => .sp 32 :: fdI f)) ++ q = S := ⟨_, rfl⟩; have hobj : ∀ l, objP k name l S = .ok ⟨k, name, fs, l⟩ q := fun l => by rw [← hS]; exact rd_obj h3 h4 q
  have s1 : ∃ r, S = sgT 123 :: r := by rw [← hS, tok0_br]; exact ⟨_, rfl⟩
  obtain ⟨sr, s1⟩ := s1
  rcases hk with hk | hk
  ·have hk : k = 1 := hk; subst hk
   by_cases hnm : names = []
   ·subst hnm; rw [if_neg (show ¬ (1 = 1 ∧ ([] : List (List UInt8)) ≠ []) by simp), if_pos (show 1 = 1 from rfl)]
    show tdP (nmT wType :: nmT name :: (tok0 (brI (fs.flatMap fun f => .sp 32 :: fdI f)) ++ q)) = _
    rw [hS, go wType _ 1 (by unfold kindN; simp only [isT_nm]; decide) (by decide)]; unfold bodyP; rw [if_neg (by decide), if_neg (by decide), if_neg (by decide), if_neg (by rw [s1, isT_sg]; decide)]; exact hobj []
   ·rw [if_pos (show 1 = 1 ∧ names ≠ [] from ⟨rfl, hnm⟩), if_pos (show 1 = 1 from rfl)]; have e : tok0 ((.sp 32 :: nmI wImplements :: .sp 32 :: namI [.sp 32, sgI 38, .sp 32] names) ++ brI (fs.flatMap fun f => .sp 32 :: fdI f)) ++ q = nmT wImplements :: (tok0 (namI [.sp 32, sgI 38, .sp 32] names) ++ S) := by
     rw [tok0_app, List.append_assoc, hS]; rfl
    show tdP (nmT wType :: nmT name :: (tok0 ((.sp 32 :: nmI wImplements :: .sp 32 :: namI [.sp 32, sgI 38, .sp 32] names) ++ brI (fs.flatMap fun f => .sp 32 :: fdI f)) ++ q)) = _
    rw [e, go wType _ 1 (by unfold kindN; simp only [isT_nm]; decide) (by decide)]; unfold bodyP; rw [if_neg (by decide), if_neg (by decide), if_neg (by decide), if_pos (by rw [isT_nm]; decide)]
    show ((namesP [38] (tok0 (namI [.sp 32, sgI 38, .sp 32] names) ++ S)).bind fun l r1 => objP 1 name l r1) = _
    rw [rd_names (by decide) hnm h2 (by rw [s1, isT_sg]; decide)]; exact hobj names
  ·obtain ⟨hk, hnm⟩ := hk; have hk : k = 2 := hk; subst hk; subst hnm; rw [if_neg (show ¬ (2 = 1 ∧ ([] : List (List UInt8)) ≠ []) by simp), if_neg (show ¬ 2 = 1 by decide), if_pos (show 2 = 2 from rfl)]
   show tdP (nmT wInterface :: nmT name :: (tok0 (brI (fs.flatMap fun f => .sp 32 :: fdI f)) ++ q)) = _
   rw [hS, go wInterface _ 2 (by unfold kindN; simp only [isT_nm]; decide) (by decide)]; unfold bodyP; rw [if_neg (by decide), if_neg (by decide), if_neg (by decide), if_neg (by simp)]; exact hobj []
theorem fst_td {t : TD} (h : GoodTd t) (q : List Tok) : ∃ w r, tok0 (tdI t) ++ q = nmT w :: r ∧ NameOk w := by
 unfold tdI
 split
 ·exact ⟨wUnion, _, rfl, nameOk_of (by decide)⟩
 ·split
  ·exact ⟨wEnum, _, rfl, nameOk_of (by decide)⟩
  ·refine ⟨_, _, rfl, ?_⟩
   split
   ·exact nameOk_of (by decide)
   ·split <;> exact nameOk_of (by decide)
theorem rd_tys {E : Tok} (h0 : E.kind = 0) : ∀ (l : List TD), l ≠ [] → (∀ t ∈ l, GoodTd t) → ∀ (n : Nat) (acc : List TD), l.length ≤ n → tysF n acc ((l.flatMap fun t => tok0 (tdI t)) ++ [E]) = .ok (acc ++ l) [E]
 | [], h, _, _, _, _ => absurd rfl h
 | t :: l, _, h, 0, _, hn => by simp at hn
 | [t], _, h, n + 1, acc, _ => by
  rw [List.flatMap_cons, List.flatMap_nil, List.append_nil, tysF, rd_td (h t (by simp)) (by simp [isT, isS, isW, h0])]
  show (if isK 0 [E] then _ else _) = _
  rw [if_pos (by unfold isK; exact decide_eq_true h0)]
 | t :: t2 :: l, _, h, n + 1, acc, hn => by
  obtain ⟨w, r, e, hw⟩ := fst_td (h t2 (by simp)) ((l.flatMap fun t => tok0 (tdI t)) ++ [E]); have e2 : ((t2 :: l).flatMap fun t => tok0 (tdI t)) ++ [E] = nmT w :: r := by rw [List.flatMap_cons, List.append_assoc, e]
  rw [List.flatMap_cons, List.append_assoc, tysF, rd_td (h t (by simp)) (by rw [e2]; exact nm_no hw _ _ _ (by decide)), okb, if_neg (by rw [e2]; simp [isK]), rd_tys h0 (t2 :: l) (by simp) (fun g hg => h g (by simp [List.mem_cons.1 hg])) n _ (by simp only [List.length_cons] at hn ⊢; omega)]; simp
theorem gd_in : Gd inP GoodIn :=
 gd_name.bind fun s hs => (gd_want _).bind fun _ _ => (gd_typ 24).bind fun t ht =>
  Gd.ite (c := fun r => isT [61] r) (Gd.tl ((gd_val true 24).bind fun v hv => Gd.ok _ ⟨hs, ht, .inl ⟨rfl, hv⟩⟩)) (Gd.ok _ ⟨hs, ht, .inr ⟨rfl, rfl⟩⟩)
theorem gd_fd : Gd fdP (fun f => GoodFd f ∧ f.has = false) :=
 gd_name.bind fun s hs => Gd.bind (P := fun l => ∀ i ∈ l, GoodIn i) (Gd.ite (c := fun r => isT [40] r) (fun r x r1 h e => by have := gd_many gd_in _ _ [] (by simp) _ x r1 h.tail e; exact ⟨this.1.2, this.2⟩) (Gd.ok _ (by simp))) fun gs hgs =>
  (gd_want _).bind fun _ _ => (gd_typ 24).bind fun t ht => Gd.ok _ ⟨⟨⟨hs, ht, .inr ⟨rfl, rfl⟩⟩, hgs⟩, rfl⟩
theorem gd_plain : Gd plainP (fun s => NameOk s ∧ s ≠ wTrue ∧ s ≠ wFalse ∧ s ≠ wNull) := fun r x r1 h e => by
 unfold plainP at e
 split at e
 ·cases e
 ·rename_i hn
  obtain ⟨k, q⟩ := gd_name r x r1 h e; simp only [Bool.or_eq_true, not_or] at hn; have hx : ∀ s, x = s → isT s r = true := fun s hs => by
   cases r with
   | nil => cases e
   | cons t r =>
    have e : (if t.kind = 1 then PR.ok t.text r else .bad t.at_ 4) = .ok x r1 := e
    split at e
    ·rename_i hk
     injection e with e _
     simp [isT, isS, isW, hk, e, hs]
    ·cases e
  exact ⟨⟨k, fun hs => hn.1.1 (hx _ hs), fun hs => hn.1.2 (hx _ hs), fun hs => hn.2 (hx _ hs)⟩, q⟩
theorem gd_more (c : List UInt8) : ∀ (n : Nat) (acc : List (List UInt8)), acc ≠ [] → (∀ s ∈ acc, NameOk s) → Gd (moreP c n acc) (fun l => l ≠ [] ∧ ∀ s ∈ l, NameOk s)
 | 0, acc, _, _ => fun r x r1 h e => by cases e
 | n + 1, acc, h0, ha => fun r x r1 h e => by
  rw [moreP] at e
  split at e
  ·obtain ⟨y, r2, h1, h2⟩ := bind_inv e; obtain ⟨k1, k2⟩ := gd_name _ y r2 h.tail h1
   exact gd_more c n _ (by simp) (fun z hz => by
    rcases List.mem_append.1 hz with hz | hz
    ·exact ha z hz
    ·rw [List.mem_singleton] at hz; subst hz; exact k1) r2 x r1 k2 h2
  ·injection e with e1 e2; subst e1; subst e2; exact ⟨⟨h0, ha⟩, h⟩
theorem gd_names (c : List UInt8) : Gd (namesP c) (fun l => l ≠ [] ∧ ∀ s ∈ l, NameOk s) := fun r x r1 h e => by
 unfold namesP at e; obtain ⟨y, r2, h1, h2⟩ := bind_inv e; have hr : GT (if isT c r then r.tail else r) := by split; exact h.tail; exact h
 obtain ⟨k1, k2⟩ := gd_name _ y r2 hr h1; exact gd_more c _ [y] (by simp) (fun z hz => by rw [List.mem_singleton] at hz; subst hz; exact k1) r2 x r1 k2 h2
theorem gd_obj {k : Nat} (hk : k = 1 ∨ k = 2) {s : List UInt8} (hs : NameOk s) {l : List (List UInt8)} (hl : ∀ s ∈ l, NameOk s) (hl2 : k = 2 → l = []) : Gd (objP k s l) GoodTd :=
 (gd_want _).bind fun _ _ => Gd.bind (P := fun fs => fs ≠ [] ∧ ∀ f ∈ fs, GoodFd f ∧ f.has = false) (fun r x r1 h e => gd_many gd_fd _ _ [] (by simp) r x r1 h e) fun fs hf => Gd.ok _ ⟨hs, .inr (.inr (.inr ⟨hk.imp id fun h => ⟨h, hl2 h⟩, hl, hf.1, hf.2⟩))⟩
theorem gd_td : Gd tdP GoodTd := fun r x r1 h e => by
 unfold tdP at e
 split at e
 ·cases e
 ·rename_i hk0
  obtain ⟨s, r2, h1, e⟩ := bind_inv e; obtain ⟨hs, q1⟩ := gd_name _ _ _ h.tail h1; have hk5 : kindN r ≤ 5 := by
    unfold kindN; repeat' split
    all_goals omega
  unfold bodyP at e
  split at e
  ·exact ((gd_want _).bind (Q := GoodTd) fun _ _ => (gd_names _).bind fun l hl => Gd.ok _ ⟨hs, .inl ⟨rfl, hl.1, hl.2, rfl⟩⟩) r2 x r1 q1 e
  ·split at e
   ·exact ((gd_want _).bind (Q := GoodTd) fun _ _ => Gd.bind (P := fun l => l ≠ [] ∧ ∀ s ∈ l, NameOk s ∧ s ≠ wTrue ∧ s ≠ wFalse ∧ s ≠ wNull) (fun r x r1 h e => gd_many gd_plain _ _ [] (by simp) r x r1 h e) fun l hl => Gd.ok _ ⟨hs, .inr (.inl ⟨rfl, hl.1, hl.2, rfl⟩)⟩) r2 x r1 q1 e
   ·split at e
    ·refine ((gd_want _).bind (Q := GoodTd) fun _ _ => Gd.bind (P := fun l => l ≠ [] ∧ ∀ i ∈ l, GoodIn i) (fun r x r1 h e => gd_many gd_in _ _ [] (by simp) r x r1 h e) fun l hl => Gd.ok _ ⟨hs, .inr (.inr (.inl ⟨rfl, rfl, by simpa using hl.1, fun f hf => ?_⟩))⟩) r2 x r1 q1 e
     obtain ⟨i, hi, rfl⟩ := List.mem_map.1 hf; exact ⟨⟨hl.2 i hi, by simp [FD.of]⟩, rfl⟩
    ·rename_i n3 n4 n5
     split at e
     ·rename_i hb
      rw [Bool.and_eq_true] at hb; obtain ⟨l, r3, h2, e⟩ := bind_inv e; obtain ⟨hl, q2⟩ := gd_names _ _ _ _ q1.tail h2; have hk1 : kindN r = 1 := of_decide_eq_true hb.1; exact gd_obj (.inl hk1) hs hl.2 (fun h => by omega) r3 x r1 q2 e
     ·exact gd_obj (by omega) hs (by simp) (fun _ => rfl) r2 x r1 q1 e
theorem gd_tys : ∀ (n : Nat) (acc : List TD), (∀ t ∈ acc, GoodTd t) → Gd (tysF n acc) (fun l => l ≠ [] ∧ ∀ t ∈ l, GoodTd t)
 | 0, acc, _ => fun r x r1 h e => by cases e
 | n + 1, acc, ha => fun r x r1 h e => by
  rw [tysF] at e; obtain ⟨y, r2, h1, h2⟩ := bind_inv e; obtain ⟨k1, k2⟩ := gd_td r y r2 h h1; have ha2 : ∀ z ∈ acc ++ [y], GoodTd z := fun z hz => by
   rcases List.mem_append.1 hz with hz | hz
   ·exact ha z hz
   ·rw [List.mem_singleton] at hz; subst hz; exact k1
  split at h2
  ·injection h2 with e1 e2; subst e1; subst e2; exact ⟨⟨by simp, ha2⟩, k2⟩
  ·exact gd_tys n _ ha2 r2 x r1 k2 h2
theorem tysP_good {s : List UInt8} {l : List TD} (h : tysP s = .ok l) : l ≠ [] ∧ ∀ t ∈ l, GoodTd t := by
 unfold tysP at h
 cases ht : toks s with
 | bad a e => rw [ht] at h; cases h
 | ok ts =>
  rw [ht] at h; have h : (match tysF (ts.length + 1) [] ts with | .ok d _ => TR1.ok d | .bad a e => .bad a e) = .ok l := h
  cases hd : tysF (ts.length + 1) [] ts with
  | bad a e => rw [hd] at h; cases h
  | ok d1 r1 =>
   rw [hd] at h; injection h with h; subst h; exact (gd_tys _ [] (by simp) ts d1 r1 (toks_good ht) hd).1
theorem in_sim : Sim inP := fun S r r' h e => by
 unfold inP; refine sim_bind (name_sim S _ _ h e) fun s r2 r2' h e => sim_bind (want_sim _ S _ _ h e) fun _ r3 r3' h e => sim_bind (typ_sim _ S _ _ h e) fun t r4 r4' h e => sim_if (relT_isT h e _) (fun hs => ?_) (fun _ => ⟨rfl, h, e⟩)
 obtain ⟨h, e⟩ := relT_tail h e (isT_k0 hs); exact sim_bind (value_sim _ _ S _ _ h e) fun v r5 r5' h e => ⟨rfl, h, e⟩
theorem fd_sim : Sim fdP := fun S r r' h e => by
 unfold fdP; refine sim_bind (name_sim S _ _ h e) fun s r2 r2' h e => sim_bind ?_ fun gs r3 r3' h e => sim_bind (want_sim _ S _ _ h e) fun _ r3 r3' h e => sim_bind (typ_sim _ S _ _ h e) fun t r4 r4' h e => ⟨rfl, h, e⟩
 rw [h.len]; refine sim_if (relT_isT h e _) (fun hs => ?_) (fun _ => ⟨rfl, h, e⟩)
 obtain ⟨h, e⟩ := relT_tail h e (isT_k0 hs); exact many_sim in_sim _ _ _ S _ _ h e
theorem plain_sim : Sim plainP := fun S r r' h e => by
 unfold plainP; rw [relT_isT h e, relT_isT h e, relT_isT h e]; exact sim_if rfl (fun _ => ⟨rfl, relT_at h e⟩) (fun _ => name_sim S _ _ h e)
theorem more_sim (c : List UInt8) : ∀ (n : Nat) (acc : List (List UInt8)), Sim (moreP c n acc)
 | 0, acc => fun S r r' h e => ⟨rfl, relT_at h e⟩
 | n + 1, acc => fun S r r' h e => by
  rw [moreP, moreP]; refine sim_if (relT_isT h e _) (fun hs => ?_) (fun _ => ⟨rfl, h, e⟩)
  obtain ⟨h1, h2⟩ := relT_tail h e (isT_k0 hs); exact sim_bind (name_sim S _ _ h1 h2) fun x r1 r1' h e => more_sim c n _ S _ _ h e
theorem names_sim (c : List UInt8) : Sim (namesP c) := fun S r r' h e => by
 unfold namesP; rw [relT_isT h e]; have hh : RelT S (if isT c r then r.tail else r) (if isT c r then r'.tail else r') ∧ EndR (if isT c r then r.tail else r) := by
  by_cases hs : isT c r = true
  ·rw [if_pos hs, if_pos hs]; exact relT_tail h e (isT_k0 hs)
  ·rw [if_neg hs, if_neg hs]; exact ⟨h, e⟩
 exact sim_bind (name_sim S _ _ hh.1 hh.2) fun s r1 r1' h e => by rw [h.len]; exact more_sim c _ _ S _ _ h e
theorem obj_sim (k : Nat) (s : List UInt8) (l : List (List UInt8)) : Sim (objP k s l) := fun S r r' h e => by
 unfold objP; exact sim_bind (want_sim _ S _ _ h e) fun _ r1 r1' h e => sim_bind (by rw [h.len]; exact many_sim fd_sim _ _ _ S _ _ h e) fun fs r2 r2' h e => ⟨rfl, h, e⟩
theorem kind_sim {S : Nat → Nat → Prop} {r r' : List Tok} (h : RelT S r r') (he : EndR r) : kindN r' = kindN r := by
 unfold kindN; rw [relT_isT h he, relT_isT h he, relT_isT h he, relT_isT h he, relT_isT h he]
theorem kind_k0 {r : List Tok} (h : kindN r ≠ 0) : isK 0 r = false := by
 unfold kindN at h
 split at h
 ·rename_i h2; exact isT_k0 h2
 split at h
 ·rename_i h2; exact isT_k0 h2
 split at h
 ·rename_i h2; exact isT_k0 h2
 split at h
 ·rename_i h2; exact isT_k0 h2
 split at h
 ·rename_i h2; exact isT_k0 h2
 ·exact absurd rfl h
theorem td_sim : Sim tdP := fun S r r' h e => by
 unfold tdP; rw [kind_sim h e]
 by_cases hk : kindN r = 0
 ·rw [if_pos hk, if_pos hk]; exact ⟨rfl, relT_at h e⟩
 ·rw [if_neg hk, if_neg hk]; obtain ⟨h, e⟩ := relT_tail h e (kind_k0 hk); refine sim_bind (name_sim S _ _ h e) fun s r1 r1' h e => ?_
  obtain ⟨k, hk⟩ : ∃ k, kindN r = k := ⟨_, rfl⟩; rw [hk]; unfold bodyP
  split
  ·unfold unionP; exact sim_bind (want_sim _ S _ _ h e) fun _ r1 r1' h e => sim_bind (names_sim _ S _ _ h e) fun l r2 r2' h e => ⟨rfl, h, e⟩
  split
  ·unfold enumP; exact sim_bind (want_sim _ S _ _ h e) fun _ r1 r1' h e => sim_bind (by rw [h.len]; exact many_sim plain_sim _ _ _ S _ _ h e) fun l r2 r2' h e => ⟨rfl, h, e⟩
  split
  ·unfold inputP; exact sim_bind (want_sim _ S _ _ h e) fun _ r1 r1' h e => sim_bind (by rw [h.len]; exact many_sim in_sim _ _ _ S _ _ h e) fun l r2 r2' h e => ⟨rfl, h, e⟩
  ·rw [relT_isT h e]; refine sim_if rfl (fun hs => ?_) (fun _ => obj_sim _ _ _ S _ _ h e)
   rw [Bool.and_eq_true] at hs; obtain ⟨h, e⟩ := relT_tail h e (isT_k0 hs.2); exact sim_bind (names_sim _ S _ _ h e) fun l r2 r2' h e => obj_sim _ _ _ S _ _ h e
theorem tys_sim : ∀ (n : Nat) (acc : List TD), Sim (tysF n acc)
 | 0, d => fun S r r' h e => ⟨rfl, relT_at h e⟩
 | n + 1, d => fun S r r' h e => by
  rw [tysF, tysF]; exact sim_bind (td_sim S _ _ h e) fun d1 r1 r1' h e => sim_if (relT_isK h e _) (fun _ => ⟨rfl, h, e⟩) (fun _ => tys_sim n _ S _ _ h e)
theorem endR_snoc (l : List Tok) {E : Tok} (h : E.kind = 0) : EndR (l ++ [E]) := by
 induction l with
 | nil => exact h
 | cons t l ih => cases l with
  | nil => exact ih
  | cons u l => exact ih
theorem tys_again {l : List TD} (h : ∀ t ∈ l, GoodTd t) (hne : l ≠ []) : ∃ ts, toksA 0 (ren (tysI l)) = .ok ts ∧ ∃ r, tysF (ts.length + 1) [] ts = .ok l r := by
 obtain ⟨ts, h1, h2⟩ := toks_ren (tysI l) 0 (ok_tys h [] Sep.nil); obtain ⟨E, hE⟩ : ∃ E : Tok, (⟨0, [], 0, 0 + (ren (tysI l)).length⟩ : Tok) = E := ⟨_, rfl⟩; rw [hE] at h1; refine ⟨_, h1, ?_⟩
 have hr := h2.rel E ⟨0, [], 0, 0⟩ (by rw [← hE]) (by rw [← hE]) (by rw [← hE]); have hs := tys_sim ((ts ++ [E]).length + 1) [] _ _ _ hr (endR_snoc _ rfl); have e : tok0 (tysI l) = l.flatMap fun t => tok0 (tdI t) := by unfold tysI; rw [tok0_sep rfl, List.flatMap_map]
 have hl : l.length ≤ (tok0 (tysI l)).length := by
  rw [e]; refine flat_len fun t ht => ?_
  obtain ⟨w, r, e2, _⟩ := fst_td (h t ht) []; rw [List.append_nil] at e2; rw [e2]; simp
 have h3 := rd_tys (E := ⟨0, [], 0, 0⟩) rfl l hne h ((ts ++ [E]).length + 1) [] (by rw [List.length_append, h2.len]; omega); rw [← e] at h3; rw [h3] at hs
 cases hq : tysF ((ts ++ [E]).length + 1) [] (ts ++ [E]) with
 | ok x r =>
  rw [hq] at hs; have := hs.1; exact ⟨r, by rw [← this]; rfl⟩
 | bad a e => rw [hq] at hs; exact hs.elim
theorem tysP_back {s : List UInt8} {l : List TD} (h : tysP s = .ok l) : tysP (ren (tysI l)) = .ok l ∨ tysP (ren (tysI l)) = .bad 0 2 := by
 obtain ⟨hne, hg⟩ := tysP_good h; obtain ⟨ts, h1, r, h2⟩ := tys_again hg hne
 by_cases hl : 2000 < (ren (tysI l)).length
 ·right
  unfold tysP toks; rw [if_pos hl]
 ·left
  unfold tysP; rw [toks_short (by omega), h1]
  show (match tysF (ts.length + 1) [] ts with | .ok d _ => TR1.ok d | .bad a e => .bad a e) = _
  rw [h2]
end Go.Proofs.YtnkpoddbbdmipaaGreatDoor
