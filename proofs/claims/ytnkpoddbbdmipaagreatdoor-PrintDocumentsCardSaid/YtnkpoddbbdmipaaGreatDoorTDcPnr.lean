/- . -/
import Derived.Test.YtnkpoddbbdmipaaGreatDoorTDcPnv
namespace Go.Proofs.YtnkpoddbbdmipaaGreatDoor
set_option linter.unusedVariables false
set_option linter.unusedSimpArgs false
abbrev sgT (c : UInt8) : Tok := ⟨4, [c], 0, 0⟩
abbrev nmT (s : List UInt8) : Tok := ⟨1, s, 0, 0⟩
abbrev doT : Tok := ⟨4, [46, 46, 46], 0, 0⟩
theorem isT_sg (s : List UInt8) (c : UInt8) (r : List Tok) : isT s (sgT c :: r) = decide ([c] = s) := by simp [isT, isS, isW]
theorem isT_nm (s t : List UInt8) (r : List Tok) : isT s (nmT t :: r) = decide (t = s) := by simp [isT, isS, isW]
theorem isT_do (s : List UInt8) (r : List Tok) : isT s (doT :: r) = decide ([46, 46, 46] = s) := by simp [isT, isS, isW]
theorem isS_sg (s : List UInt8) (c : UInt8) (r : List Tok) : isS s (sgT c :: r) = decide ([c] = s) := by simp [isS]
theorem isS_nm (s t : List UInt8) (r : List Tok) : isS s (nmT t :: r) = false := by simp [isS]
theorem isS_do (s : List UInt8) (r : List Tok) : isS s (doT :: r) = decide ([46, 46, 46] = s) := by simp [isS]
theorem wantP_sg (c : UInt8) (r : List Tok) : wantP [c] (sgT c :: r) = .ok () r := by unfold wantP; rw [isT_sg, if_pos (by simp)]; rfl
theorem wantP_nm (s : List UInt8) (r : List Tok) : wantP s (nmT s :: r) = .ok () r := by unfold wantP; rw [isT_nm, if_pos (by simp)]; rfl
theorem okb {α β : Type} (x : α) (r : List Tok) (f : α → List Tok → PR β) : (PR.ok x r).bind f = f x r := rfl
theorem nameP_nm (s : List UInt8) (r : List Tok) : nameP (nmT s :: r) = .ok s r := rfl
theorem nm_no {s : List UInt8} (h : NameOk s) (c : UInt8) (l : List UInt8) (r : List Tok) (hc : letB c = false) : isT (c :: l) (nmT s :: r) = false := by
 rw [isT_nm, decide_eq_false (name_sign h hc)]
theorem tok0_flat {α : Type} (f : α → List It) : ∀ l : List α, tok0 (l.flatMap f) = l.flatMap fun x => tok0 (f x)
 | [] => rfl
 | x :: l => by rw [List.flatMap_cons, tok0_app, tok0_flat f l, List.flatMap_cons]
theorem tok0_sep {g : List It} (hg : tok0 g = []) (l : List (List It)) : tok0 (sepI g l) = l.flatMap tok0 := by
 cases l with
 | nil => rfl
 | cons a l =>
  show tok0 (a ++ l.flatMap fun b => g ++ b) = _
  rw [tok0_app, tok0_flat, List.flatMap_cons]
  congr 1
  congr 1
  funext b
  rw [tok0_app, hg, List.nil_append]
theorem tok0_par (l : List (List It)) : tok0 (parI l) = if l = [] then [] else sgT 40 :: (l.flatMap tok0 ++ [sgT 41]) := by
 unfold parI
 split
 ·rfl
 ·show sgT 40 :: tok0 (sepI gapI l ++ [sgI 41]) = _
  rw [tok0_app, tok0_sep rfl]; rfl
theorem tok0_br (l : List It) : tok0 (brI l) = sgT 123 :: (tok0 l ++ [sgT 125]) := by
 show sgT 123 :: tok0 (l ++ [.sp 32, sgI 125]) = _
 rw [tok0_app]; rfl
theorem tk_pos {α : Type} {f : List Tok → PR α} (hf : Takes f) {T : List Tok} {x : α} {q : List Tok} (h : f (T ++ q) = .ok x q) : 0 < T.length := by
 have := hf _ _ _ h; rw [List.length_append] at this; omega
theorem rd_any {α : Type} {f : List Tok → PR α} (hf : Takes f) {T : α → List Tok} {c : UInt8} : ∀ (xs : List α), (∀ x ∈ xs, (∀ q, f (T x ++ q) = .ok x q) ∧ ∀ q, isT [c] (T x ++ q) = false) → ∀ (n : Nat) (acc : List α) (rest : List Tok), (xs.flatMap T).length < n → anyP f [c] n acc (xs.flatMap T ++ sgT c :: rest) = .ok (acc ++ xs) rest
 | _, _, 0, _, _, h => by omega
 | [], _, n + 1, acc, rest, _ => by
  show anyP f [c] (n + 1) acc (sgT c :: rest) = _
  rw [anyP, if_pos (by rw [isT_sg]; simp), List.append_nil]; rfl
 | x :: xs, h, n + 1, acc, rest, hn => by
  have hx := h x (by simp); have hp := tk_pos hf (hx.1 []); rw [List.flatMap_cons, List.length_append] at hn; rw [List.flatMap_cons, List.append_assoc, anyP, if_neg (by rw [hx.2]; decide), hx.1]
  show anyP f [c] n (acc ++ [x]) (xs.flatMap T ++ sgT c :: rest) = _
  rw [rd_any hf xs (fun y hy => h y (by simp [hy])) n (acc ++ [x]) rest (by omega)]; simp
theorem rd_many {α : Type} {f : List Tok → PR α} (hf : Takes f) {T : α → List Tok} {c : UInt8} {Stp : List Tok → Prop} (h3 : ∀ q, Stp (sgT c :: q)) : ∀ (xs : List α), xs ≠ [] → (∀ x ∈ xs, (∀ q, Stp q → f (T x ++ q) = .ok x q) ∧ ∀ q, isT [c] (T x ++ q) = false ∧ Stp (T x ++ q)) → ∀ (n : Nat) (acc : List α) (rest : List Tok), (xs.flatMap T).length ≤ n → manyP f [c] n acc (xs.flatMap T ++ sgT c :: rest) = .ok (acc ++ xs) rest
 | [], h, _, _, _, _, _ => absurd rfl h
 | x :: xs, _, h, 0, acc, rest, hn => by
  have hx := h x (by simp); have hp := tk_pos hf (hx.1 _ (h3 [])); rw [List.flatMap_cons, List.length_append] at hn; omega
 | [x], _, h, n + 1, acc, rest, hn => by
  have hx := h x (by simp); rw [List.flatMap_cons, List.flatMap_nil, List.append_nil, manyP, hx.1 _ (h3 rest)]
  show (if isT [c] (sgT c :: rest) then PR.ok (acc ++ [x]) rest else _) = _
  rw [if_pos (by rw [isT_sg]; simp)]
 | x :: y :: ys, _, h, n + 1, acc, rest, hn => by
  have hx := h x (by simp); have hy := h y (by simp); have hp := tk_pos hf (hx.1 _ (h3 [])); have e : (y :: ys).flatMap T ++ sgT c :: rest = T y ++ (ys.flatMap T ++ sgT c :: rest) := by rw [List.flatMap_cons, List.append_assoc]
  rw [List.flatMap_cons, List.length_append] at hn; rw [List.flatMap_cons, List.append_assoc, manyP, hx.1 _ (by rw [e]; exact (hy.2 _).2)]
  show (if isT [c] ((y :: ys).flatMap T ++ sgT c :: rest) then _ else manyP f [c] n (acc ++ [x]) ((y :: ys).flatMap T ++ sgT c :: rest)) = _
  rw [if_neg (by rw [e, (hy.2 _).1]; decide), rd_many hf h3 (y :: ys) (by simp) (fun z hz => h z (by simp [List.mem_cons.1 hz])) n (acc ++ [x]) rest (by omega)]; simp
theorem fst_val {fx : Bool} {c : UInt8} (hc : letB c = false) (h36 : c ≠ 36) (h91 : c ≠ 91) (h123 : c ≠ 123) : ∀ {d : Nat} {v : VT}, GoodV fx d v → ∀ q, isT [c] (tok0 (valI v) ++ q) = false
 | 0, _, h, _ => h.elim
 | d + 1, .mk k n s ks vs, h, q => by
  rw [valI_eq]
  rcases h with ⟨rfl, h, -⟩ | ⟨rfl, -, h, -⟩ | ⟨rfl, h, -⟩ | ⟨rfl, -⟩ | ⟨rfl, -, h, -⟩ | ⟨rfl, -, -, h, -⟩ | ⟨rfl, -, -, -, h⟩ | ⟨rfl, -, -, ps, rfl, rfl, h⟩
  ·rfl
  ·rfl
  ·show isT [c] (nmT (if n = 1 then wTrue else wFalse) :: q) = false
   refine nm_no ?_ c [] q hc
   split <;> exact nameOk_of (by decide)
  ·exact nm_no (nameOk_of (by decide)) c [] q hc
  ·exact nm_no h c [] q hc
  ·show isT [c] (sgT 36 :: _) = false
   rw [isT_sg]; simp; exact fun e => h36 e.symm
  ·show isT [c] (sgT 91 :: _) = false
   rw [isT_sg]; simp; exact fun e => h91 e.symm
  ·show isT [c] (sgT 123 :: _) = false
   rw [isT_sg]; simp; exact fun e => h123 e.symm
theorem vB_cons (fixed : Bool) (f : List Tok → PR VT) (t : Tok) (r : List Tok) : valueB fixed f (t :: r) =
  if t.kind = 2 then .ok (.mk 1 t.n [] [] []) r
  else if t.kind = 3 then .ok (.mk 2 0 t.text [] []) r
  else if isT wTrue (t :: r) then .ok (.mk 3 1 [] [] []) r
  else if isT wFalse (t :: r) then .ok (.mk 3 0 [] [] []) r
  else if isT wNull (t :: r) then .ok VT.zero r
  else if t.kind = 1 then .ok (.mk 4 0 t.text [] []) r
  else if !fixed && isT [36] (t :: r) then (nameP r).bind fun s r1 => .ok (.mk 7 0 s [] []) r1
  else if isT [91] (t :: r) then (anyP f [93] (r.length + 1) [] r).bind fun vs r1 => .ok (.mk 5 0 [] [] vs) r1
  else if isT [123] (t :: r) then (anyP (pairP f) [125] (r.length + 1) [] r).bind fun ps r1 => .ok (.mk 6 0 [] (ps.map (·.1)) (ps.map (·.2))) r1
  else .bad t.at_ 4 := rfl
theorem rd_val (fx : Bool) : ∀ (d : Nat) (v : VT), GoodV fx d v → ∀ q, valueP fx d (tok0 (valI v) ++ q) = .ok v q
 | 0, _, h, _ => h.elim
 | d + 1, .mk k n s ks vs, h, q => by
  rw [valI_eq, valueP]
  rcases h with ⟨rfl, h, rfl, rfl, rfl⟩ | ⟨rfl, rfl, h, rfl, rfl⟩ | ⟨rfl, h, rfl, rfl, rfl⟩ | ⟨rfl, rfl, rfl, rfl, rfl⟩ | ⟨rfl, rfl, h, h1, h2, h3, rfl, rfl⟩ | ⟨rfl, hx, rfl, h, rfl, rfl⟩ | ⟨rfl, rfl, rfl, rfl, h⟩ | ⟨rfl, rfl, rfl, ps, rfl, rfl, h⟩
  ·show valueB fx _ (⟨2, numS n, n, 0⟩ :: q) = _
   rw [vB_cons, if_pos rfl]
  ·show valueB fx _ (⟨3, s, 0, 0⟩ :: q) = _
   rw [vB_cons, if_neg (by simp), if_pos rfl]
  ·show valueB fx _ (nmT (if n = 1 then wTrue else wFalse) :: q) = _
   rw [vB_cons, if_neg (by simp), if_neg (by simp)]
   rcases h with rfl | rfl
   ·rw [if_neg (by rw [isT_nm]; decide), if_pos (by rw [isT_nm]; decide)]
   ·rw [if_pos (by rw [isT_nm]; decide)]
  ·show valueB fx _ (nmT wNull :: q) = _
   rw [vB_cons, if_neg (by simp), if_neg (by simp), if_neg (by rw [isT_nm]; decide), if_neg (by rw [isT_nm]; decide), if_pos (by rw [isT_nm]; decide)]; rfl
  ·show valueB fx _ (nmT s :: q) = _
   rw [vB_cons, if_neg (by simp), if_neg (by simp), if_neg (by rw [isT_nm, decide_eq_false h1]; decide), if_neg (by rw [isT_nm, decide_eq_false h2]; decide), if_neg (by rw [isT_nm, decide_eq_false h3]; decide), if_pos rfl]
  ·show valueB fx _ (sgT 36 :: nmT s :: q) = _
   rw [vB_cons, if_neg (by simp), if_neg (by simp), if_neg (by rw [isT_sg]; decide), if_neg (by rw [isT_sg]; decide), if_neg (by rw [isT_sg]; decide), if_neg (by decide), if_pos (by rw [isT_sg, hx]; decide)]; rfl
  ·have e : tok0 (sgI 91 :: (sepI gapI (vs.map valI) ++ [sgI 93])) ++ q = sgT 91 :: (vs.flatMap (fun v => tok0 (valI v)) ++ sgT 93 :: q) := by
    show sgT 91 :: (tok0 (sepI gapI (vs.map valI) ++ [sgI 93]) ++ q) = _
    rw [tok0_app, tok0_sep rfl, List.append_assoc, List.flatMap_map]; rfl
   show valueB fx _ (tok0 (sgI 91 :: (sepI gapI (vs.map valI) ++ [sgI 93])) ++ q) = _
   rw [e, vB_cons, if_neg (by simp), if_neg (by simp), if_neg (by rw [isT_sg]; decide), if_neg (by rw [isT_sg]; decide), if_neg (by rw [isT_sg]; decide), if_neg (by decide), if_neg (by rw [isT_sg]; simp), if_pos (by rw [isT_sg]; decide),
    rd_any (valueP_takes fx d) (T := fun v => tok0 (valI v)) vs (fun v hv => ⟨rd_val fx d v (h v hv), fst_val (by decide) (by decide) (by decide) (by decide) (h v hv)⟩) _ [] q (by rw [List.length_append, List.length_cons]; omega)]
   rfl
  ·have e : tok0 (sgI 123 :: (sepI gapI (List.zipWith pairI (ps.map (·.1)) ((ps.map (·.2)).map valI)) ++ [sgI 125])) ++ q = sgT 123 :: (ps.flatMap (fun p => nmT p.1 :: sgT 58 :: tok0 (valI p.2)) ++ sgT 125 :: q) := by
    show sgT 123 :: (tok0 (sepI gapI (List.zipWith pairI (ps.map (·.1)) ((ps.map (·.2)).map valI)) ++ [sgI 125]) ++ q) = _
    rw [tok0_app, tok0_sep rfl, List.append_assoc, List.map_map, List.zipWith_map, List.zipWith_self, List.flatMap_map]; rfl
   show valueB fx _ (tok0 (sgI 123 :: (sepI gapI (List.zipWith pairI (ps.map (·.1)) ((ps.map (·.2)).map valI)) ++ [sgI 125])) ++ q) = _
   rw [e, vB_cons, if_neg (by simp), if_neg (by simp), if_neg (by rw [isT_sg]; decide), if_neg (by rw [isT_sg]; decide), if_neg (by rw [isT_sg]; decide), if_neg (by decide), if_neg (by rw [isT_sg]; simp), if_neg (by rw [isT_sg]; decide), if_pos (by rw [isT_sg]; decide),
    rd_any (pairP_takes (valueP_takes fx d)) (T := fun p : List UInt8 × VT => nmT p.1 :: sgT 58 :: tok0 (valI p.2)) ps (fun p hp => ⟨fun q => ?_, fun q => nm_no (h p hp).1 125 [] _ (by decide)⟩) _ [] q (by rw [List.length_append, List.length_cons]; omega)]
   ·rfl
   ·show ((nameP (nmT p.1 :: sgT 58 :: (tok0 (valI p.2) ++ q))).bind fun s r1 => (wantP [58] r1).bind fun _ r2 => (valueP fx d r2).bind fun v r3 => .ok (s, v) r3) = _
    rw [nameP_nm]
    show ((wantP [58] (sgT 58 :: (tok0 (valI p.2) ++ q))).bind fun _ r2 => (valueP fx d r2).bind fun v r3 => .ok (p.1, v) r3) = _
    rw [wantP_sg]
    show ((valueP fx d (tok0 (valI p.2) ++ q)).bind fun v r3 => .ok (p.1, v) r3) = _
    rw [rd_val fx d p.2 (h p hp).2 q]; rfl
theorem rd_bang (mk : Bool → TR) (b : Bool) {q : List Tok} (h : isT [33] q = false) : bangP mk (tok0 (bangI b) ++ q) = .ok (mk b) q := by
 unfold bangP
 cases b
 ·show (if isT [33] q then _ else _) = _
  rw [if_neg (by rw [h]; decide)]; rfl
 ·show (if isT [33] (sgT 33 :: q) then PR.ok (mk true) q else _) = _
  rw [if_pos (by rw [isT_sg]; decide)]
theorem rd_typ : ∀ (d : Nat) (t : TR), GoodT d t → ∀ q, isT [33] q = false → typP d (tok0 (typI t) ++ q) = .ok t q
 | 0, _, h, _, _ => h.elim
 | d + 1, .nm s b, h, q, hq => by
  rw [typI, typP]
  show (if isT [91] (nmT s :: (tok0 (bangI b) ++ q)) then _ else (nameP (nmT s :: (tok0 (bangI b) ++ q))).bind fun s r1 => bangP (.nm s) r1) = _
  rw [if_neg (by rw [nm_no h 91 [] _ (by decide)]; decide), nameP_nm]; exact rd_bang _ b hq
 | d + 1, .ls t b, h, q, hq => by
  rw [typI, typP]; have e : tok0 (sgI 91 :: (typI t ++ sgI 93 :: bangI b)) ++ q = sgT 91 :: (tok0 (typI t) ++ (sgT 93 :: (tok0 (bangI b) ++ q))) := by
   show sgT 91 :: (tok0 (typI t ++ sgI 93 :: bangI b) ++ q) = _
   rw [tok0_app, List.append_assoc]; rfl
  rw [e, if_pos (by rw [isT_sg]; decide)]
  show ((typP d (tok0 (typI t) ++ (sgT 93 :: (tok0 (bangI b) ++ q)))).bind fun t r1 => (wantP [93] r1).bind fun _ r2 => bangP (.ls t) r2) = _
  rw [rd_typ d t h _ (by rw [isT_sg]; decide)]
  show ((wantP [93] (sgT 93 :: (tok0 (bangI b) ++ q))).bind fun _ r2 => bangP (.ls t) r2) = _
  rw [wantP_sg]; exact rd_bang _ b hq
theorem rd_arg {d : Nat} {a : AR} (h : GoodA d a) (q : List Tok) : argP d (tok0 (argI a) ++ q) = .ok a q := by
 show ((nameP (nmT a.name :: sgT 58 :: (tok0 (valI a.v) ++ q))).bind fun s r1 => (wantP [58] r1).bind fun _ r2 => (valueP false d r2).bind fun v r3 => .ok (AR.mk s v) r3) = _
 rw [nameP_nm]
 show ((wantP [58] (sgT 58 :: (tok0 (valI a.v) ++ q))).bind fun _ r2 => (valueP false d r2).bind fun v r3 => .ok (AR.mk a.name v) r3) = _
 rw [wantP_sg]
 show ((valueP false d (tok0 (valI a.v) ++ q)).bind fun v r3 => .ok (AR.mk a.name v) r3) = _
 rw [rd_val _ _ _ h.2]; rfl
theorem rd_args {d : Nat} {l : List AR} (h : ∀ a ∈ l, GoodA d a) {q : List Tok} (hq : isS [40] q = false) : argsP d (tok0 (argsI l) ++ q) = .ok l q := by
 unfold argsI argsP; rw [tok0_par]
 cases l with
 | nil =>
  show (if isS [40] q then _ else _) = _
  rw [if_neg (by rw [hq]; decide)]; rfl
 | cons a l =>
  rw [if_neg (show ¬ (a :: l).map argI = [] by simp)]; have e : (sgT 40 :: (((a :: l).map argI).flatMap tok0 ++ [sgT 41])) ++ q = sgT 40 :: ((a :: l).flatMap (fun x => tok0 (argI x)) ++ sgT 41 :: q) := by
   rw [List.flatMap_map, List.cons_append, List.append_assoc]; rfl
  rw [e, if_pos (by rw [isS_sg]; decide)]
  show manyP (argP d) [41] _ [] ((a :: l).flatMap (fun x => tok0 (argI x)) ++ sgT 41 :: q) = _
  exact rd_many (argP_takes d) (Stp := fun _ => True) (fun _ => trivial) (a :: l) (by simp) (fun x hx => ⟨fun q _ => rd_arg (h x hx) q, fun q => ⟨nm_no (h x hx).1 41 [] _ (by decide), trivial⟩⟩) _ [] q (by simp only [List.length_cons, List.length_append]; omega)
theorem args_fst (l : List AR) {c : UInt8} {q : List Tok} (hc : c ≠ 40) (hq : isT [c] q = false) : isT [c] (tok0 (argsI l) ++ q) = false := by
 unfold argsI; rw [tok0_par]
 split
 ·exact hq
 ·show isT [c] (sgT 40 :: _) = false
  rw [isT_sg]; simp; exact fun e => hc e.symm
theorem rd_dirs {d : Nat} : ∀ (l : List DR), (∀ x ∈ l, GoodD d x) → ∀ {q : List Tok}, isT [64] q = false → isS [40] q = false → ∀ (n : Nat) (acc : List DR), (l.flatMap fun x => tok0 (dirI x)).length < n → dirsP d n acc ((l.flatMap fun x => tok0 (dirI x)) ++ q) = .ok (acc ++ l) q
 | _, _, _, _, _, 0, _, h => by omega
 | [], _, q, h1, _, n + 1, acc, _ => by
  show dirsP d (n + 1) acc q = _
  rw [dirsP, if_neg (by rw [h1]; decide), List.append_nil]
 | x :: l, h, q, h1, h2, n + 1, acc, hn => by
  obtain ⟨r', hr'⟩ : ∃ r', (l.flatMap fun x => tok0 (dirI x)) ++ q = r' := ⟨_, rfl⟩; have h40 : isS [40] r' = false := by
   rw [← hr']
   cases l with
   | nil => exact h2
   | cons y l => rw [List.flatMap_cons]; exact isS_sg _ _ _
  have hx := h x (by simp); have e : ((x :: l).flatMap fun x => tok0 (dirI x)) ++ q = sgT 64 :: nmT x.name :: (tok0 (argsI x.args) ++ r') := by
   rw [List.flatMap_cons, List.append_assoc, hr']; rfl
  rw [List.flatMap_cons, List.length_append] at hn; have hl : (tok0 (dirI x)).length = (tok0 (argsI x.args)).length + 2 := rfl; rw [e, dirsP, if_pos (by rw [isT_sg]; decide)]
  show (((nameP (nmT x.name :: (tok0 (argsI x.args) ++ r'))).bind fun s r1 => (argsP d r1).bind fun l r2 => .ok (DR.mk s l) r2).bind fun x r1 => dirsP d n (acc ++ [x]) r1) = _
  rw [nameP_nm]
  show (((argsP d (tok0 (argsI x.args) ++ r')).bind fun l r2 => .ok (DR.mk x.name l) r2).bind fun x r1 => dirsP d n (acc ++ [x]) r1) = _
  rw [rd_args hx.2 h40]
  show dirsP d n (acc ++ [x]) r' = _
  rw [← hr', rd_dirs l (fun y hy => h y (by simp [hy])) h1 h2 n (acc ++ [x]) (by omega)]; simp
structure StpS (q : List Tok) : Prop where
 c58 : isT [58] q = false
 c40 : isS [40] q = false
 c64 : isT [64] q = false
 c123 : isS [123] q = false
theorem StpS.nm {s : List UInt8} (h : NameOk s) (q : List Tok) : StpS (nmT s :: q) := ⟨nm_no h _ _ _ (by decide), isS_nm _ _ _, nm_no h _ _ _ (by decide), isS_nm _ _ _⟩
theorem StpS.dots (q : List Tok) : StpS (doT :: q) := ⟨by rw [isT_do]; decide, by rw [isS_do]; decide, by rw [isT_do]; decide, by rw [isS_do]; decide⟩
theorem StpS.sg (q : List Tok) : StpS (sgT 125 :: q) := ⟨by rw [isT_sg]; decide, by rw [isS_sg]; decide, by rw [isT_sg]; decide, by rw [isS_sg]; decide⟩
theorem rd_sel {d : Nat} {G : List SL → Prop} {g : List Tok → PR (List SL)} (hG : ∀ l, G l → l ≠ []) (hg : ∀ l, G l → ∀ q, g (tok0 (setI l) ++ q) = .ok l q) : ∀ (x : SL), GoodSel d G x → ∀ q, StpS q → selP d g (tok0 (selI x) ++ q) = .ok x q
 | .mk k al name on_ args dirs sub, h, q, hq => by
  rw [selI_eq]; obtain ⟨hd, h⟩ := h
  -- what stands behind the head
  obtain ⟨S, hS⟩ : ∃ S, tok0 (if sub = [] then [] else setI sub) ++ q = S := ⟨_, rfl⟩; obtain ⟨D, hD⟩ : ∃ D, (dirs.flatMap fun x => tok0 (dirI x)) ++ S = D := ⟨_, rfl⟩; have e : tok0 (headI k al name on_ args ++ dirs.flatMap dirI ++ (if sub = [] then [] else setI sub)) ++ q = tok0 (headI k al name on_ args) ++ D := by
   rw [tok0_app, tok0_app, List.append_assoc, List.append_assoc, hS, tok0_flat, hD]
  have s64 : isT [64] S = false ∧ isS [40] S = false ∧ isT [58] S = false ∧ isS [123] S = decide (sub ≠ []) := by
   rw [← hS]
   by_cases hs : sub = []
   ·rw [if_pos hs, hs]; exact ⟨hq.c64, hq.c40, hq.c58, by rw [show tok0 [] ++ q = q from rfl, hq.c123]; rfl⟩
   ·rw [if_neg hs]; unfold setI; rw [tok0_br]; exact ⟨isT_sg _ _ _, isS_sg _ _ _, isT_sg _ _ _, by rw [decide_eq_true hs]; exact isS_sg _ _ _⟩
  have hsub : sub ≠ [] → G sub → g S = .ok sub q := fun hs hs2 => by rw [← hS, if_neg hs]; exact hg _ hs2 q
  have d1 : isS [40] D = false ∧ isT [58] D = false := by
   rw [← hD]
   cases dirs with
   | nil => exact ⟨s64.2.1, s64.2.2.1⟩
   | cons x l => rw [List.flatMap_cons]; exact ⟨isS_sg _ _ _, isT_sg _ _ _⟩
  have hdd : dirsP d (D.length + 1) [] D = .ok dirs S := by
   have := rd_dirs dirs hd s64.1 s64.2.1 (D.length + 1) [] (by rw [← hD, List.length_append]; omega); rw [hD] at this; exact this
  rw [e]; unfold headI
  rcases h with ⟨rfl, rfl, ha, hn, hga, hs⟩ | ⟨rfl, rfl, rfl, hn, hno, rfl, rfl⟩ | ⟨rfl, rfl, rfl, ho, rfl, hs⟩
  ·rw [if_pos rfl]; obtain ⟨A, hA⟩ : ∃ A, tok0 (argsI args) ++ D = A := ⟨_, rfl⟩; have ha2 : argsP d A = .ok args D := by rw [← hA]; exact rd_args hga d1.1
   have h58 : isT [58] A = false := by rw [← hA]; exact args_fst args (by decide) d1.2
   have hend : ∀ p : List UInt8 × List UInt8, ((argsP d A).bind fun gs1 r3 => (dirsP d (r3.length + 1) [] r3).bind fun ds r4 => (if isS [123] r4 then g r4 else .ok [] r4).bind fun sub r5 => .ok (SL.mk 1 p.1 p.2 [] gs1 ds sub) r5) = .ok (SL.mk 1 p.1 p.2 [] args dirs sub) q := fun p => by
    rw [ha2]
    show ((dirsP d (D.length + 1) [] D).bind fun ds r4 => (if isS [123] r4 then g r4 else .ok [] r4).bind fun sub r5 => .ok (SL.mk 1 p.1 p.2 [] args ds sub) r5) = _
    rw [hdd]
    show ((if isS [123] S then g S else .ok [] S).bind fun sub r5 => .ok (SL.mk 1 p.1 p.2 [] args dirs sub) r5) = _
    by_cases hs0 : sub = []
    ·rw [if_neg (by rw [s64.2.2.2, hs0]; decide), hs0, ← hS, if_pos hs0]; rfl
    ·rw [if_pos (by rw [s64.2.2.2]; exact decide_eq_true hs0), hsub hs0 (hs.resolve_left hs0)]; rfl
   by_cases hal : al = []
   ·rw [if_pos hal, hal]
    show selP d g (nmT name :: (tok0 (argsI args) ++ D)) = _
    rw [hA]; unfold selP; rw [if_neg (by unfold wDots; rw [nm_no hn _ _ _ (by decide)]; decide), nameP_nm]
    show ((if isT [58] A then (nameP A.tail).bind fun s2 r2 => .ok (name, s2) r2 else .ok (([] : List UInt8), name) A).bind fun p r2 => _) = _
    rw [if_neg (by rw [h58]; decide)]; exact hend ([], name)
   ·rw [if_neg hal]; have hal2 := ha.resolve_left hal
    show selP d g (nmT al :: sgT 58 :: nmT name :: (tok0 (argsI args) ++ D)) = _
    rw [hA]; unfold selP; rw [if_neg (by unfold wDots; rw [nm_no hal2 _ _ _ (by decide)]; decide), nameP_nm]
    show ((if isT [58] (sgT 58 :: nmT name :: A) then (nameP (nmT name :: A)).bind fun s2 r2 => .ok (al, s2) r2 else .ok (([] : List UInt8), al) (sgT 58 :: nmT name :: A)).bind fun p r2 => _) = _
    rw [if_pos (by rw [isT_sg]; decide), nameP_nm]; exact hend (al, name)
  ·rw [if_neg (by decide), if_pos rfl]
   show selP d g (doT :: nmT name :: D) = _
   unfold selP; rw [if_pos (by unfold wDots; rw [isT_do]; decide)]
   show (if isT wOn (nmT name :: D) then _ else if isK 1 (nmT name :: D) then (nameP (nmT name :: D)).bind fun s r1 => (dirsP d (r1.length + 1) [] r1).bind fun ds r2 => .ok (SL.mk 2 [] s [] [] ds []) r2 else _) = _
   rw [if_neg (by rw [isT_nm, decide_eq_false hno]; decide), if_pos (show isK 1 (nmT name :: D) = true from rfl), nameP_nm]
   show ((dirsP d (D.length + 1) [] D).bind fun ds r2 => .ok (SL.mk 2 [] name [] [] ds []) r2) = _
   rw [hdd, ← hS]; rfl
  ·have hs0 := hG _ hs; have hss := hsub hs0 hs; rw [if_neg (by decide), if_neg (by decide)]
   by_cases ho0 : on_ = []
   ·rw [if_pos ho0, ho0]
    show selP d g (doT :: D) = _
    have d2 : isT wOn D = false ∧ isK 1 D = false := by
     rw [← hD]
     cases dirs with
     | nil =>
      show isT wOn S = false ∧ isK 1 S = false
      rw [← hS, if_neg hs0]; unfold setI; rw [tok0_br]; exact ⟨by rw [List.cons_append, isT_sg]; decide, rfl⟩
     | cons x l => rw [List.flatMap_cons]; exact ⟨isT_sg _ _ _, rfl⟩
    unfold selP; rw [if_pos (by unfold wDots; rw [isT_do]; decide)]
    show (if isT wOn D then _ else if isK 1 D then _ else (dirsP d (D.length + 1) [] D).bind fun ds r2 => (g r2).bind fun sub r3 => .ok (SL.mk 3 [] [] [] [] ds sub) r3) = _
    rw [if_neg (by rw [d2.1]; decide), if_neg (by rw [d2.2]; decide), hdd]
    show ((g S).bind fun sub r3 => .ok (SL.mk 3 [] [] [] [] dirs sub) r3) = _
    rw [hss]; rfl
   ·rw [if_neg ho0]
    show selP d g (doT :: nmT wOn :: nmT on_ :: D) = _
    unfold selP; rw [if_pos (by unfold wDots; rw [isT_do]; decide)]
    show (if isT wOn (nmT wOn :: nmT on_ :: D) then (nameP (nmT on_ :: D)).bind fun s r1 => (dirsP d (r1.length + 1) [] r1).bind fun ds r2 => (g r2).bind fun sub r3 => .ok (SL.mk 3 [] [] s [] ds sub) r3 else _) = _
    rw [if_pos (by rw [isT_nm]; decide), nameP_nm]
    show ((dirsP d (D.length + 1) [] D).bind fun ds r2 => (g r2).bind fun sub r3 => .ok (SL.mk 3 [] [] on_ [] ds sub) r3) = _
    rw [hdd]
    show ((g S).bind fun sub r3 => .ok (SL.mk 3 [] [] on_ [] dirs sub) r3) = _
    rw [hss]; rfl
theorem fst_sel {d : Nat} {G : List SL → Prop} : ∀ {x : SL}, GoodSel d G x → ∃ t r, tok0 (selI x) = t :: r ∧ ((∃ s, NameOk s ∧ t = nmT s) ∨ t = doT)
 | .mk k al name on_ args dirs sub, h => by
  rw [selI_eq, tok0_app, tok0_app]; unfold headI
  rcases h.2 with ⟨rfl, -, ha, hn, -⟩ | ⟨rfl, -⟩ | ⟨rfl, -⟩
  ·rw [if_pos rfl]
   by_cases hal : al = []
   ·rw [if_pos hal]; exact ⟨_, _, rfl, .inl ⟨name, hn, rfl⟩⟩
   ·rw [if_neg hal]; exact ⟨_, _, rfl, .inl ⟨al, ha.resolve_left hal, rfl⟩⟩
  ·exact ⟨_, _, rfl, .inr rfl⟩
  ·exact ⟨_, _, rfl, .inr rfl⟩
theorem goodS_ne : ∀ {d : Nat} {l : List SL}, GoodS d l → l ≠ []
 | 0, _, h => h.elim
 | _ + 1, _, h => h.1
theorem rd_set : ∀ (d : Nat) (l : List SL), GoodS d l → ∀ q, setP d (tok0 (setI l) ++ q) = .ok l q
 | 0, _, h, _ => h.elim
 | d + 1, l, h, q => by
  unfold setI; rw [tok0_br, selsI_map, tok0_flat, setP]; have e : (sgT 123 :: ((l.flatMap fun x => tok0 (.sp 32 :: selI x)) ++ [sgT 125])) ++ q = sgT 123 :: ((l.flatMap fun x => tok0 (selI x)) ++ sgT 125 :: q) := by
   rw [List.cons_append, List.append_assoc]; rfl
  rw [e, wantP_sg]; refine rd_many (selP_takes d (setP_takes d)) (Stp := StpS) StpS.sg l h.1 (fun x hx => ⟨fun q hq => rd_sel (fun l hl => goodS_ne hl) (fun l hl q => rd_set d l hl q) x (h.2 x hx) q hq, fun q => ?_⟩) _ [] q (by rw [List.length_append]; omega)
  obtain ⟨t, r, et, ht⟩ := fst_sel (h.2 x hx); rw [et]
  rcases ht with ⟨s, hs, rfl⟩ | rfl
  ·exact ⟨nm_no hs _ _ _ (by decide), StpS.nm hs _⟩
  ·exact ⟨by rw [List.cons_append, isT_do]; decide, StpS.dots _⟩
structure StpI (q : List Tok) : Prop where
 c33 : isT [33] q = false
 c61 : isT [61] q = false
theorem StpI.nm {s : List UInt8} (h : NameOk s) (q : List Tok) : StpI (nmT s :: q) := ⟨nm_no h _ _ _ (by decide), nm_no h _ _ _ (by decide)⟩
theorem rd_inp {n : List It} {t : TR} {has : Bool} {v : VT} (ht : GoodT 24 t) (hv : has = true ∧ GoodV true 24 v ∨ has = false ∧ v = VT.zero) {q : List Tok} (hq : StpI q) {β : Type} (mk : TR → Bool → VT → β) :
  ∃ R, tok0 (inpI n t has v) ++ q = tok0 n ++ sgT 58 :: R ∧
  ((typP 24 R).bind fun t r4 => if isT [61] r4 then (valueP true 24 r4.tail).bind fun v r5 => .ok (mk t true v) r5 else .ok (mk t false VT.zero) r4) = .ok (mk t has v) q := by
 refine ⟨tok0 (typI t) ++ (tok0 (if has then .sp 32 :: sgI 61 :: .sp 32 :: valI v else []) ++ q), ?_, ?_⟩
 ·unfold inpI; rw [tok0_app, List.append_assoc]
  show tok0 n ++ (sgT 58 :: (tok0 (typI t ++ _) ++ q)) = _
  rw [tok0_app, List.append_assoc]
 ·rcases hv with ⟨rfl, hv⟩ | ⟨rfl, rfl⟩
  ·rw [if_pos rfl, rd_typ _ _ ht _ (isT_sg _ _ _)]
   show (if isT [61] (sgT 61 :: (tok0 (valI v) ++ q)) then (valueP true 24 (tok0 (valI v) ++ q)).bind fun v r5 => .ok (mk t true v) r5 else .ok (mk t false VT.zero) (sgT 61 :: (tok0 (valI v) ++ q))) = _
   rw [if_pos (by rw [isT_sg]; decide), rd_val _ _ _ hv]; rfl
  ·rw [if_neg (by decide), show tok0 ([] : List It) ++ q = q from rfl, rd_typ _ _ ht _ (show isT [33] q = false from hq.c33)]
   show (if isT [61] q then (valueP true 24 q.tail).bind fun v r5 => .ok (mk t true v) r5 else .ok (mk t false VT.zero) q) = _
   rw [if_neg (by rw [hq.c61]; decide)]
theorem rd_var {v : VD} (h : GoodI v.name v.t v.has v.v) {q : List Tok} (hq : StpI q) : varP (tok0 (varI v) ++ q) = .ok v q := by
 obtain ⟨R, e, hr⟩ := rd_inp (n := [nmI v.name]) h.2.1 h.2.2 hq (fun t b x => (⟨v.name, t, b, x⟩ : VD))
 show varP (sgT 36 :: (tok0 (inpI [nmI v.name] v.t v.has v.v) ++ q)) = _
 rw [e]
 show varP (sgT 36 :: nmT v.name :: sgT 58 :: R) = _
 unfold varP; rw [wantP_sg]
 show ((nameP (nmT v.name :: sgT 58 :: R)).bind fun s r2 => (wantP [58] r2).bind fun _ r3 => (typP 24 r3).bind fun t r4 => if isT [61] r4 then (valueP true 24 r4.tail).bind fun v r5 => .ok (VD.mk s t true v) r5 else .ok (VD.mk s t false VT.zero) r4) = _
 rw [nameP_nm]
 show ((wantP [58] (sgT 58 :: R)).bind fun _ r3 => (typP 24 r3).bind fun t r4 => if isT [61] r4 then (valueP true 24 r4.tail).bind fun x r5 => .ok (VD.mk v.name t true x) r5 else .ok (VD.mk v.name t false VT.zero) r4) = _
 rw [wantP_sg]; exact hr
theorem rd_op {o : OP} (h : GoodO o) (q : List Tok) : opP (tok0 (opI o) ++ q) = .ok o q := by
 obtain ⟨mu, name, vars, sub⟩ := o; obtain ⟨h1, h2, h3⟩ := h; have h1 : name = [] ∨ NameOk name := h1; have h3 : GoodS 24 sub := h3; have h2 : ∀ v ∈ vars, GoodI v.name v.t v.has v.v := h2; obtain ⟨S, hS⟩ : ∃ S, tok0 (setI sub) ++ q = S := ⟨_, rfl⟩; obtain ⟨V, hV⟩ : ∃ V, tok0 (parI (vars.map varI)) ++ S = V := ⟨_, rfl⟩; have s1 : ∃ r, S = sgT 123 :: r := by rw [← hS]; unfold setI; rw [tok0_br]; exact ⟨_, rfl⟩
 obtain ⟨sr, s1⟩ := s1; have v1 : isK 1 V = false ∧ isS [40] V = decide (vars ≠ []) := by
  rw [← hV, tok0_par]
  by_cases hv : vars = []
  ·subst hv; rw [if_pos (show ([] : List VD).map varI = [] from rfl), s1]; exact ⟨rfl, isS_sg _ _ _⟩
  ·rw [if_neg (by simpa using hv), decide_eq_true hv]; exact ⟨rfl, isS_sg _ _ _⟩
 have hvs : (if isS [40] V then manyP varP [41] (V.length + 1) [] V.tail else .ok [] V) = .ok vars S := by
  by_cases hv : vars = []
  ·rw [if_neg (by rw [v1.2, hv]; decide), hv, ← hV, hv]; rfl
  ·rw [if_pos (by rw [v1.2]; exact decide_eq_true hv), ← hV, tok0_par, if_neg (by simpa using hv)]; have e : (sgT 40 :: ((vars.map varI).flatMap tok0 ++ [sgT 41]) ++ S) = sgT 40 :: (vars.flatMap (fun x => tok0 (varI x)) ++ sgT 41 :: S) := by
    rw [List.flatMap_map, List.cons_append, List.append_assoc]; rfl
   rw [e]; exact rd_many varP_takes (Stp := StpI) (fun q => ⟨by rw [isT_sg]; decide, by rw [isT_sg]; decide⟩) vars hv (fun x hx => ⟨fun q hq => rd_var (h2 x hx) hq, fun q => ⟨isT_sg _ _ _, ⟨isT_sg _ _ _, isT_sg _ _ _⟩⟩⟩) _ [] S (by simp only [List.length_cons, List.length_append]; omega)
 have hend : ∀ (m : Bool) (s : List UInt8), ((if isS [40] V then manyP varP [41] (V.length + 1) [] V.tail else .ok [] V).bind fun vs r3 => (setP 24 r3).bind fun sub r4 => .ok (OP.mk m s vs sub) r4) = .ok ⟨m, s, vars, sub⟩ q := fun m s => by
  rw [hvs]
  show ((setP 24 S).bind fun sub r4 => .ok (OP.mk m s vars sub) r4) = _
  rw [← hS, rd_set 24 sub h3]; rfl
 have e : tok0 (opI ⟨mu, name, vars, sub⟩) ++ q = nmT (if mu then wMutation else wQuery) :: (tok0 (if name = [] then [] else [.sp 32, nmI name]) ++ V) := by
  show nmT (if mu then wMutation else wQuery) :: (tok0 ((if name = [] then [] else [.sp 32, nmI name]) ++ parI (vars.map varI) ++ setI sub) ++ q) = _
  rw [tok0_app, tok0_app, List.append_assoc, List.append_assoc, hS, hV]
 rw [e]; unfold opP
 have hn : ∀ m : Bool, ((if isK 1 (tok0 (if name = [] then [] else [.sp 32, nmI name]) ++ V) then nameP (tok0 (if name = [] then [] else [.sp 32, nmI name]) ++ V) else .ok [] (tok0 (if name = [] then [] else [.sp 32, nmI name]) ++ V)).bind fun s r2 =>
   (if isS [40] r2 then manyP varP [41] (r2.length + 1) [] r2.tail else .ok [] r2).bind fun vs r3 => (setP 24 r3).bind fun sub r4 => .ok (OP.mk m s vs sub) r4) = .ok ⟨m, name, vars, sub⟩ q := fun m => by
  by_cases hn0 : name = []
  ·subst hn0; rw [if_pos rfl]
   show ((if isK 1 V then nameP V else .ok [] V).bind _) = _
   rw [if_neg (by rw [v1.1]; decide)]; exact hend m []
  ·rw [if_neg hn0]
   show ((if isK 1 (nmT name :: V) then nameP (nmT name :: V) else _).bind _) = _
   rw [if_pos (show isK 1 (nmT name :: V) = true from rfl), nameP_nm]; exact hend m name
 cases mu
 ·rw [if_neg (show ¬ false = true by decide), if_neg (by rw [isT_nm]; decide), wantP_nm]; exact hn false
 ·rw [if_pos (show true = true from rfl), if_pos (by rw [isT_nm]; decide)]; exact hn true
theorem rd_fr {f : FR} (h : GoodF f) (q : List Tok) : ∃ r, tok0 (frI f) ++ q = nmT wFragment :: r ∧ fragP r = .ok f q := by
 obtain ⟨name, on_, sub⟩ := f; obtain ⟨h1, h2, h3, h4⟩ := h; refine ⟨nmT name :: nmT wOn :: nmT on_ :: (tok0 (setI sub) ++ q), rfl, ?_⟩
 unfold fragP; rw [if_neg (by show ¬ (decide (1 = 1) && decide (name = wOn)) = true; rw [decide_eq_false h2]; simp), nameP_nm, okb, wantP_nm, okb, nameP_nm, okb, rd_set 24 sub h4, okb]
theorem def_op (acc : DC) {o : OP} (h : GoodO o) (q : List Tok) : defP acc (tok0 (opI o) ++ q) = .ok ⟨acc.ops ++ [o], acc.frags⟩ q ∧ isK 0 (tok0 (opI o) ++ q) = false := by
 refine ⟨?_, rfl⟩
 obtain ⟨r, hr⟩ : ∃ r, tok0 (opI o) ++ q = nmT (if o.mut_ then wMutation else wQuery) :: r := ⟨_, rfl⟩; have h2 := rd_op h q; unfold defP; rw [hr, if_neg (by rw [isS_nm]; decide), if_neg (by rw [isT_nm]; cases o.mut_ <;> decide), ← hr, h2]; rfl
theorem def_fr (acc : DC) {f : FR} (h : GoodF f) (q : List Tok) : defP acc (tok0 (frI f) ++ q) = .ok ⟨acc.ops, acc.frags ++ [f]⟩ q ∧ isK 0 (tok0 (frI f) ++ q) = false := by
 obtain ⟨r, hr, h2⟩ := rd_fr h q; rw [hr]; refine ⟨?_, rfl⟩
 unfold defP; rw [if_neg (by rw [isS_nm]; decide), if_pos (by rw [isT_nm]; decide)]
 show ((fragP r).bind _) = _
 rw [h2]; rfl
theorem rd_frs {E : Tok} (h0 : E.kind = 0) : ∀ (fs : List FR), fs ≠ [] → (∀ f ∈ fs, GoodF f) → ∀ (n : Nat) (acc : DC), fs.length ≤ n → docF n acc ((fs.flatMap fun f => tok0 (frI f)) ++ [E]) = .ok ⟨acc.ops, acc.frags ++ fs⟩ [E]
 | [], h, _, _, _, _ => absurd rfl h
 | f :: fs, _, h, 0, _, hn => by simp at hn
 | [f], _, h, n + 1, acc, _ => by
  rw [List.flatMap_cons, List.flatMap_nil, List.append_nil, docF, (def_fr acc (h f (by simp)) [E]).1]
  show (if isK 0 [E] then _ else _) = _
  rw [if_pos (by unfold isK; exact decide_eq_true h0)]
 | f :: f2 :: fs, _, h, n + 1, acc, hn => by
  rw [List.flatMap_cons, List.append_assoc, docF, (def_fr acc (h f (by simp)) _).1, okb, if_neg (by rw [List.flatMap_cons, List.append_assoc, (def_fr acc (h f2 (by simp)) _).2]; decide), rd_frs h0 (f2 :: fs) (by simp) (fun g hg => h g (by simp [List.mem_cons.1 hg])) n _ (by simp only [List.length_cons] at hn ⊢; omega)]; simp
theorem rd_ops {E : Tok} (h0 : E.kind = 0) (fs : List FR) (hf : ∀ f ∈ fs, GoodF f) : ∀ (os : List OP), os ≠ [] ∨ fs ≠ [] → (∀ o ∈ os, GoodO o) → ∀ (n : Nat) (acc : DC), os.length + fs.length ≤ n → docF n acc ((os.flatMap fun o => tok0 (opI o)) ++ ((fs.flatMap fun f => tok0 (frI f)) ++ [E])) = .ok ⟨acc.ops ++ os, acc.frags ++ fs⟩ [E]
 | [], h, _, n, acc, hn => by
  have h : fs ≠ [] := by rcases h with h | h; exact absurd rfl h; exact h
  show docF n acc ((fs.flatMap fun f => tok0 (frI f)) ++ [E]) = _
  rw [rd_frs h0 fs h hf n acc (by simpa using hn), List.append_nil]
 | o :: os, _, h, 0, _, hn => by simp at hn
 | o :: os, _, h, n + 1, acc, hn => by
  simp only [List.length_cons] at hn; obtain ⟨q, hq⟩ : ∃ q, (os.flatMap fun o => tok0 (opI o)) ++ ((fs.flatMap fun f => tok0 (frI f)) ++ [E]) = q := ⟨_, rfl⟩; rw [List.flatMap_cons, List.append_assoc, hq, docF, (def_op acc (h o (by simp)) q).1, okb]
  by_cases he : os = [] ∧ fs = []
  ·obtain ⟨rfl, rfl⟩ := he; rw [if_pos (by rw [← hq]; show isK 0 [E] = true; unfold isK; exact decide_eq_true h0), ← hq]; simp
  ·have hk : isK 0 q = false := by
    rw [← hq]
    cases os with
    | nil =>
     cases fs with
     | nil => exact absurd ⟨rfl, rfl⟩ he
     | cons f fs => show isK 0 (((f :: fs).flatMap fun f => tok0 (frI f)) ++ [E]) = false; rw [List.flatMap_cons, List.append_assoc]; exact (def_fr acc (hf f (by simp)) _).2
    | cons o2 os => rw [List.flatMap_cons, List.append_assoc]; exact (def_op acc (h o2 (by simp)) _).2
   rw [if_neg (by rw [hk]; decide), ← hq, rd_ops h0 fs hf os (by rcases Classical.em (os = []) with h1 | h1; exact .inr (fun h2 => he ⟨h1, h2⟩); exact .inl h1) (fun g hg => h g (by simp [hg])) n _ (by omega)]; simp
theorem rd_doc {E : Tok} (h0 : E.kind = 0) {d : DC} (h : GoodDoc d) (hne : d.ops ≠ [] ∨ d.frags ≠ []) {n : Nat} (hn : d.ops.length + d.frags.length ≤ n) : docF n ⟨[], []⟩ (tok0 (docI d) ++ [E]) = .ok d [E] := by
 unfold docI; rw [tok0_sep rfl, List.flatMap_append, List.flatMap_map, List.flatMap_map, List.append_assoc, rd_ops h0 d.frags h.2 d.ops hne h.1 n ⟨[], []⟩ hn]
 rfl
end Go.Proofs.YtnkpoddbbdmipaaGreatDoor
