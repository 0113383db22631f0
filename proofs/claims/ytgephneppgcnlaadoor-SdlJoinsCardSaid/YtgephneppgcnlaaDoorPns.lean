/- Declarations that are printed, in plain Lean: their tokens are read as what was printed; what was read is well formed. -/
import Derived.Test.YtgephneppgcnlaaDoorPng
namespace Go.Proofs.YtgephneppgcnlaaDoor
set_option linter.unusedVariables false
set_option linter.unusedSimpArgs false

theorem rd_in {i : IN} (h : GoodIn i) {q : List Tok} (hq : StpI q) : inP (tok0 (inI i) ++ q) = .ok i q := by
  obtain ⟨R, e, hr⟩ := rd_inp (n := [nmI i.name]) h.2.1 h.2.2 hq (fun t b x => (⟨i.name, t, b, x⟩ : IN))
  show inP (tok0 (inpI [nmI i.name] i.t i.has i.v) ++ q) = _
  rw [e]
  show inP (nmT i.name :: sgT 58 :: R) = _
  unfold inP
  rw [nameP_nm]
  show ((wantP [58] (sgT 58 :: R)).bind fun _ r3 => (typP 24 r3).bind fun t r4 => if isT [61] r4 then (valueP true 24 r4.tail).bind fun x r5 => .ok (IN.mk i.name t true x) r5 else .ok (IN.mk i.name t false VT.zero) r4) = _
  rw [wantP_sg]
  exact hr
theorem fst_in {i : IN} (h : GoodIn i) (q : List Tok) : ∃ r, tok0 (inI i) ++ q = nmT i.name :: r := ⟨_, rfl⟩
theorem ins_par {l : List IN} (h : ∀ i ∈ l, GoodIn i) (S : List Tok) (hS : isT [40] S = false) : (if isT [40] (tok0 (parI (l.map inI)) ++ S) then manyP inP [41] ((tok0 (parI (l.map inI)) ++ S).length + 1) [] (tok0 (parI (l.map inI)) ++ S).tail else .ok [] (tok0 (parI (l.map inI)) ++ S)) = .ok l S := by
  rw [tok0_par]
  by_cases hv : l = []
  · subst hv
    show (if isT [40] S then manyP inP [41] (S.length + 1) [] S.tail else PR.ok ([] : List IN) S) = _
    rw [if_neg (by rw [hS]; decide)]
  · rw [if_neg (show ¬ l.map inI = [] by simpa using hv)]
    have e : (sgT 40 :: ((l.map inI).flatMap tok0 ++ [sgT 41]) ++ S) = sgT 40 :: (l.flatMap (fun x => tok0 (inI x)) ++ sgT 41 :: S) := by
      rw [List.flatMap_map, List.cons_append, List.append_assoc]; rfl
    rw [e, if_pos (by rw [isT_sg]; decide)]
    exact rd_many inP_takes (Stp := StpI) (fun q => ⟨by rw [isT_sg]; decide, by rw [isT_sg]; decide⟩) l hv (fun x hx => ⟨fun q hq => rd_in (h x hx) hq, fun q => by
      obtain ⟨r, er⟩ := fst_in (h x hx) q
      rw [er]; exact ⟨nm_no (h x hx).1 _ _ _ (by decide), StpI.nm (h x hx).1 _⟩⟩) _ [] S (by simp only [List.length_cons, List.length_append]; omega)
theorem rd_fd {f : FD} (h : GoodFd f) (hh : f.has = false) {q : List Tok} (hq : StpI q) : fdP (tok0 (fdI f) ++ q) = .ok f q := by
  obtain ⟨name, gs, t, has, v⟩ := f
  obtain ⟨⟨h1, h2, h3⟩, h4⟩ := h
  have hh : has = false := hh
  subst hh
  have hv : v = VT.zero := by rcases h3 with ⟨h3, _⟩ | ⟨_, h3⟩; cases h3; exact h3
  subst hv
  have e : tok0 (fdI ⟨name, gs, t, false, VT.zero⟩) ++ q = nmT name :: (tok0 (parI (gs.map inI)) ++ (sgT 58 :: (tok0 (typI t) ++ q))) := by
    show tok0 (inpI (nmI name :: parI (gs.map inI)) t false VT.zero) ++ q = _
    unfold inpI
    rw [tok0_app, List.append_assoc]
    show nmT name :: (tok0 (parI (gs.map inI)) ++ (sgT 58 :: (tok0 (typI t ++ []) ++ q))) = _
    rw [List.append_nil]
  rw [e]
  unfold fdP
  rw [nameP_nm, okb, ins_par h4 _ (by rw [isT_sg]; decide), okb, wantP_sg, okb, rd_typ _ _ h2 _ hq.c33, okb]
theorem rd_plain {s : List UInt8} (h : NameOk s ∧ s ≠ wTrue ∧ s ≠ wFalse ∧ s ≠ wNull) (q : List Tok) : plainP (nmT s :: q) = .ok s q := by
  unfold plainP
  rw [isT_nm, isT_nm, isT_nm, decide_eq_false h.2.1, decide_eq_false h.2.2.1, decide_eq_false h.2.2.2, if_neg (by decide)]; rfl
theorem rd_more {c : UInt8} : ∀ (l : List (List UInt8)) {q : List Tok}, isT [c] q = false → ∀ (n : Nat) (acc : List (List UInt8)), l.length < n → moreP [c] n acc ((l.flatMap fun s => [sgT c, nmT s]) ++ q) = .ok (acc ++ l) q
  | _, _, _, 0, _, h => by omega
  | [], q, hq, n + 1, acc, _ => by
    show moreP [c] (n + 1) acc q = _
    rw [moreP, if_neg (by rw [hq]; decide), List.append_nil]
  | s :: l, q, hq, n + 1, acc, hn => by
    simp only [List.length_cons] at hn
    show moreP [c] (n + 1) acc (sgT c :: nmT s :: ((l.flatMap fun s => [sgT c, nmT s]) ++ q)) = _
    rw [moreP, if_pos (by rw [isT_sg]; simp)]
    show ((nameP (nmT s :: ((l.flatMap fun s => [sgT c, nmT s]) ++ q))).bind fun s r1 => moreP [c] n (acc ++ [s]) r1) = _
    rw [nameP_nm]
    show moreP [c] n (acc ++ [s]) ((l.flatMap fun s => [sgT c, nmT s]) ++ q) = _
    rw [rd_more l hq n _ (by omega)]; simp
theorem tok0_nam (c : UInt8) (l : List (List UInt8)) : tok0 (namI [.sp 32, sgI c, .sp 32] l) = match l with | [] => [] | s :: l => nmT s :: l.flatMap fun s => [sgT c, nmT s] := by
  unfold namI
  cases l with
  | nil => rfl
  | cons s l =>
    show tok0 (nmI s :: (l.map fun s => [nmI s]).flatMap fun b => [.sp 32, sgI c, .sp 32] ++ b) = _
    show nmT s :: tok0 ((l.map fun s => [nmI s]).flatMap fun b => [.sp 32, sgI c, .sp 32] ++ b) = _
    rw [tok0_flat, List.flatMap_map]; rfl
theorem rd_names {c : UInt8} (hc : letB c = false) {l : List (List UInt8)} (hl : l ≠ []) (h : ∀ s ∈ l, NameOk s) {q : List Tok} (hq : isT [c] q = false) : namesP [c] (tok0 (namI [.sp 32, sgI c, .sp 32] l) ++ q) = .ok l q := by
  rw [tok0_nam]
  cases l with
  | nil => exact absurd rfl hl
  | cons s l =>
    show namesP [c] (nmT s :: ((l.flatMap fun s => [sgT c, nmT s]) ++ q)) = _
    unfold namesP
    rw [if_neg (by rw [nm_no (h s (by simp)) _ _ _ hc]; decide), nameP_nm]
    show moreP [c] _ [s] ((l.flatMap fun s => [sgT c, nmT s]) ++ q) = _
    rw [rd_more l hq _ [s] (by
      have := flat_len (T := fun s => [sgT c, nmT s]) (l := l) (fun _ _ => by simp)
      rw [List.length_append]; omega)]; rfl
theorem rd_obj {k : Nat} {s : List UInt8} {l : List (List UInt8)} {fs : List FD} (hf : fs ≠ []) (h : ∀ f ∈ fs, GoodFd f ∧ f.has = false) (q : List Tok) : objP k s l (tok0 (brI (fs.flatMap fun f => .sp 32 :: fdI f)) ++ q) = .ok ⟨k, s, fs, l⟩ q := by
  rw [tok0_br, tok0_flat]
  have e : (sgT 123 :: ((fs.flatMap fun f => tok0 (.sp 32 :: fdI f)) ++ [sgT 125])) ++ q = sgT 123 :: ((fs.flatMap fun f => tok0 (fdI f)) ++ sgT 125 :: q) := by rw [List.cons_append, List.append_assoc]; rfl
  rw [e]
  unfold objP
  rw [wantP_sg, okb, rd_many fdP_takes (Stp := StpI) (fun q => ⟨by rw [isT_sg]; decide, by rw [isT_sg]; decide⟩) fs hf (fun x hx => ⟨fun q hq => rd_fd (h x hx).1 (h x hx).2 hq, fun q => by
      show isT [125] (nmT x.name :: _) = false ∧ StpI (nmT x.name :: _)
      exact ⟨nm_no (h x hx).1.1.1 _ _ _ (by decide), StpI.nm (h x hx).1.1.1 _⟩⟩) _ [] q (by rw [List.length_append]; omega), okb]
  rfl
theorem map_of {l : List FD} (h : ∀ f ∈ l, GoodFd f ∧ f.args = []) : ∃ is : List IN, l = is.map FD.of ∧ ∀ i ∈ is, GoodIn i := by
  induction l with
  | nil => exact ⟨[], rfl, by simp⟩
  | cons f l ih =>
    obtain ⟨is, rfl, h2⟩ := ih (fun g hg => h g (by simp [hg]))
    obtain ⟨h3, h4⟩ := h f (by simp)
    obtain ⟨name, gs, t, has, v⟩ := f
    have h4 : gs = [] := h4
    subst h4
    refine ⟨⟨name, t, has, v⟩ :: is, rfl, fun i hi => ?_⟩
    rcases List.mem_cons.1 hi with rfl | hi
    · exact h3.1
    · exact h2 i hi
theorem tdI_eq (k : Nat) (name : List UInt8) (fs : List FD) (names : List (List UInt8)) : tdI ⟨k, name, fs, names⟩ =
  if k = 3 then nmI wUnion :: .sp 32 :: nmI name :: .sp 32 :: sgI 61 :: .sp 32 :: namI [.sp 32, sgI 124, .sp 32] names
  else if k = 4 then nmI wEnum :: .sp 32 :: nmI name :: .sp 32 :: sgI 123 :: .sp 32 :: (namI [.sp 32] names ++ [.sp 32, sgI 125])
  else nmI (if k = 1 then wType else if k = 2 then wInterface else wInput) :: .sp 32 :: nmI name ::
    ((if k = 1 ∧ names ≠ [] then .sp 32 :: nmI wImplements :: .sp 32 :: namI [.sp 32, sgI 38, .sp 32] names else []) ++ brI (fs.flatMap fun f => .sp 32 :: fdI f)) := rfl
theorem rd_td {t : TD} (h : GoodTd t) {q : List Tok} (h1 : isT [124] q = false) : tdP (tok0 (tdI t) ++ q) = .ok t q := by
  obtain ⟨k, name, fs, names⟩ := t
  obtain ⟨hn, h⟩ := h
  have hn : NameOk name := hn
  have h : (k = 3 ∧ names ≠ [] ∧ (∀ s ∈ names, NameOk s) ∧ fs = []) ∨ (k = 4 ∧ names ≠ [] ∧ (∀ s ∈ names, NameOk s ∧ s ≠ wTrue ∧ s ≠ wFalse ∧ s ≠ wNull) ∧ fs = []) ∨ (k = 5 ∧ names = [] ∧ fs ≠ [] ∧ ∀ f ∈ fs, GoodFd f ∧ f.args = []) ∨ ((k = 1 ∨ k = 2 ∧ names = []) ∧ (∀ s ∈ names, NameOk s) ∧ fs ≠ [] ∧ ∀ f ∈ fs, GoodFd f ∧ f.has = false) := h
  rw [tdI_eq]
  have go : ∀ (w : List UInt8) (r : List Tok) (j : Nat), kindN (nmT w :: nmT name :: r) = j → j ≠ 0 → tdP (nmT w :: nmT name :: r) = bodyP j name r := fun w r j hk h0 => by
    unfold tdP
    rw [hk, if_neg h0]; rfl
  rcases h with ⟨hk, h2, h3, h4⟩ | ⟨hk, h2, h3, h4⟩ | ⟨hk, h2, h3, h4⟩ | ⟨hk, h2, h3, h4⟩
  · have hk : k = 3 := hk
    subst hk
    subst h4
    rw [if_pos rfl]
    show tdP (nmT wUnion :: nmT name :: sgT 61 :: (tok0 (namI [.sp 32, sgI 124, .sp 32] names) ++ q)) = _
    rw [go wUnion _ 3 (by unfold kindN; simp only [isT_nm]; decide) (by decide)]
    unfold bodyP
    rw [if_pos rfl]
    unfold unionP
    rw [wantP_sg, okb, rd_names (by decide) h2 h3 h1, okb]
  · have hk : k = 4 := hk
    subst hk
    subst h4
    rw [if_neg (by decide), if_pos rfl]
    have e : tok0 (namI [.sp 32] names ++ [.sp 32, sgI 125]) ++ q = (names.flatMap fun s => [nmT s]) ++ sgT 125 :: q := by
      unfold namI
      rw [tok0_app, tok0_sep rfl, List.append_assoc, List.flatMap_map]; rfl
    show tdP (nmT wEnum :: nmT name :: sgT 123 :: (tok0 (namI [.sp 32] names ++ [.sp 32, sgI 125]) ++ q)) = _
    rw [e, go wEnum _ 4 (by unfold kindN; simp only [isT_nm]; decide) (by decide)]
    unfold bodyP
    rw [if_neg (by decide), if_pos rfl]
    unfold enumP
    rw [wantP_sg, okb, rd_many plainP_takes (Stp := fun _ => True) (fun _ => trivial) names h2 (fun x hx => ⟨fun q _ => rd_plain (h3 x hx) q, fun q => ⟨nm_no (h3 x hx).1 _ _ _ (by decide), trivial⟩⟩) _ [] q (by rw [List.length_append]; omega)]
    rfl
  · have hk : k = 5 := hk
    subst hk
    subst h2
    obtain ⟨is, rfl, hi⟩ := map_of h4
    have h3 : is ≠ [] := by rintro rfl; exact h3 rfl
    rw [if_neg (by decide), if_neg (by decide), if_neg (by decide), if_neg (by decide), if_neg (show ¬ (5 = 1 ∧ ([] : List (List UInt8)) ≠ []) by decide)]
    have e : tok0 (brI ((is.map FD.of).flatMap fun f => .sp 32 :: fdI f)) ++ q = sgT 123 :: ((is.flatMap fun i => tok0 (inI i)) ++ sgT 125 :: q) := by
      rw [tok0_br, tok0_flat, List.flatMap_map, List.cons_append, List.append_assoc]; rfl
    show tdP (nmT wInput :: nmT name :: (tok0 (brI ((is.map FD.of).flatMap fun f => .sp 32 :: fdI f)) ++ q)) = _
    rw [e, go wInput _ 5 (by unfold kindN; simp only [isT_nm]; decide) (by decide)]
    unfold bodyP
    rw [if_neg (by decide), if_neg (by decide), if_pos rfl]
    unfold inputP
    rw [wantP_sg, okb, rd_many inP_takes (Stp := StpI) (fun q => ⟨by rw [isT_sg]; decide, by rw [isT_sg]; decide⟩) is h3 (fun x hx => ⟨fun q hq => rd_in (hi x hx) hq, fun q => by
        show isT [125] (nmT x.name :: _) = false ∧ StpI (nmT x.name :: _)
        exact ⟨nm_no (hi x hx).1 _ _ _ (by decide), StpI.nm (hi x hx).1 _⟩⟩) _ [] q (by rw [List.length_append]; omega)]
    rfl
  · have hk3 : ¬ k = 3 := by rcases hk with hk | hk <;> omega
    have hk4 : ¬ k = 4 := by rcases hk with hk | hk <;> omega
    have hk5 : ¬ k = 5 := by rcases hk with hk | hk <;> omega
    rw [if_neg hk3, if_neg hk4]
    obtain ⟨S, hS⟩ : ∃ S, tok0 (brI (fs.flatMap fun f => .sp 32 :: fdI f)) ++ q = S := ⟨_, rfl⟩
    have hobj : ∀ l, objP k name l S = .ok ⟨k, name, fs, l⟩ q := fun l => by rw [← hS]; exact rd_obj h3 h4 q
    have s1 : ∃ r, S = sgT 123 :: r := by rw [← hS, tok0_br]; exact ⟨_, rfl⟩
    obtain ⟨sr, s1⟩ := s1
    rcases hk with hk | hk
    · have hk : k = 1 := hk
      subst hk
      by_cases hnm : names = []
      · subst hnm
        rw [if_neg (show ¬ (1 = 1 ∧ ([] : List (List UInt8)) ≠ []) by simp), if_pos (show 1 = 1 from rfl)]
        show tdP (nmT wType :: nmT name :: (tok0 (brI (fs.flatMap fun f => .sp 32 :: fdI f)) ++ q)) = _
        rw [hS, go wType _ 1 (by unfold kindN; simp only [isT_nm]; decide) (by decide)]
        unfold bodyP
        rw [if_neg (by decide), if_neg (by decide), if_neg (by decide), if_neg (by rw [s1, isT_sg]; decide)]
        exact hobj []
      · rw [if_pos (show 1 = 1 ∧ names ≠ [] from ⟨rfl, hnm⟩), if_pos (show 1 = 1 from rfl)]
        have e : tok0 ((.sp 32 :: nmI wImplements :: .sp 32 :: namI [.sp 32, sgI 38, .sp 32] names) ++ brI (fs.flatMap fun f => .sp 32 :: fdI f)) ++ q = nmT wImplements :: (tok0 (namI [.sp 32, sgI 38, .sp 32] names) ++ S) := by
          rw [tok0_app, List.append_assoc, hS]; rfl
        show tdP (nmT wType :: nmT name :: (tok0 ((.sp 32 :: nmI wImplements :: .sp 32 :: namI [.sp 32, sgI 38, .sp 32] names) ++ brI (fs.flatMap fun f => .sp 32 :: fdI f)) ++ q)) = _
        rw [e, go wType _ 1 (by unfold kindN; simp only [isT_nm]; decide) (by decide)]
        unfold bodyP
        rw [if_neg (by decide), if_neg (by decide), if_neg (by decide), if_pos (by rw [isT_nm]; decide)]
        show ((namesP [38] (tok0 (namI [.sp 32, sgI 38, .sp 32] names) ++ S)).bind fun l r1 => objP 1 name l r1) = _
        rw [rd_names (by decide) hnm h2 (by rw [s1, isT_sg]; decide)]
        exact hobj names
    · obtain ⟨hk, hnm⟩ := hk
      have hk : k = 2 := hk
      subst hk
      subst hnm
      rw [if_neg (show ¬ (2 = 1 ∧ ([] : List (List UInt8)) ≠ []) by simp), if_neg (show ¬ 2 = 1 by decide), if_pos (show 2 = 2 from rfl)]
      show tdP (nmT wInterface :: nmT name :: (tok0 (brI (fs.flatMap fun f => .sp 32 :: fdI f)) ++ q)) = _
      rw [hS, go wInterface _ 2 (by unfold kindN; simp only [isT_nm]; decide) (by decide)]
      unfold bodyP
      rw [if_neg (by decide), if_neg (by decide), if_neg (by decide), if_neg (by simp)]
      exact hobj []
theorem fst_td {t : TD} (h : GoodTd t) (q : List Tok) : ∃ w r, tok0 (tdI t) ++ q = nmT w :: r ∧ NameOk w := by
  unfold tdI
  split
  · exact ⟨wUnion, _, rfl, nameOk_of (by decide)⟩
  · split
    · exact ⟨wEnum, _, rfl, nameOk_of (by decide)⟩
    · refine ⟨_, _, rfl, ?_⟩
      split
      · exact nameOk_of (by decide)
      · split <;> exact nameOk_of (by decide)
theorem rd_tys {E : Tok} (h0 : E.kind = 0) : ∀ (l : List TD), l ≠ [] → (∀ t ∈ l, GoodTd t) → ∀ (n : Nat) (acc : List TD), l.length ≤ n → tysF n acc ((l.flatMap fun t => tok0 (tdI t)) ++ [E]) = .ok (acc ++ l) [E]
  | [], h, _, _, _, _ => absurd rfl h
  | t :: l, _, h, 0, _, hn => by simp at hn
  | [t], _, h, n + 1, acc, _ => by
    rw [List.flatMap_cons, List.flatMap_nil, List.append_nil, tysF, rd_td (h t (by simp)) (by simp [isT, isS, isW, h0])]
    show (if isK 0 [E] then _ else _) = _
    rw [if_pos (by unfold isK; exact decide_eq_true h0)]
  | t :: t2 :: l, _, h, n + 1, acc, hn => by
    obtain ⟨w, r, e, hw⟩ := fst_td (h t2 (by simp)) ((l.flatMap fun t => tok0 (tdI t)) ++ [E])
    have e2 : ((t2 :: l).flatMap fun t => tok0 (tdI t)) ++ [E] = nmT w :: r := by rw [List.flatMap_cons, List.append_assoc, e]
    rw [List.flatMap_cons, List.append_assoc, tysF, rd_td (h t (by simp)) (by rw [e2]; exact nm_no hw _ _ _ (by decide)), okb, if_neg (by rw [e2]; simp [isK]), rd_tys h0 (t2 :: l) (by simp) (fun g hg => h g (by simp [List.mem_cons.1 hg])) n _ (by simp only [List.length_cons] at hn ⊢; omega)]
    simp
/-! ### What is read is well formed -/
theorem gd_in : Gd inP GoodIn :=
  gd_name.bind fun s hs => (gd_want _).bind fun _ _ => (gd_typ 24).bind fun t ht =>
    Gd.ite (c := fun r => isT [61] r) (Gd.tl ((gd_val true 24).bind fun v hv => Gd.ok _ ⟨hs, ht, .inl ⟨rfl, hv⟩⟩)) (Gd.ok _ ⟨hs, ht, .inr ⟨rfl, rfl⟩⟩)
theorem gd_fd : Gd fdP (fun f => GoodFd f ∧ f.has = false) :=
  gd_name.bind fun s hs => Gd.bind (P := fun l => ∀ i ∈ l, GoodIn i) (Gd.ite (c := fun r => isT [40] r) (fun r x r1 h e => by have := gd_many gd_in _ _ [] (by simp) _ x r1 h.tail e; exact ⟨this.1.2, this.2⟩) (Gd.ok _ (by simp))) fun gs hgs =>
    (gd_want _).bind fun _ _ => (gd_typ 24).bind fun t ht => Gd.ok _ ⟨⟨⟨hs, ht, .inr ⟨rfl, rfl⟩⟩, hgs⟩, rfl⟩
theorem gd_plain : Gd plainP (fun s => NameOk s ∧ s ≠ wTrue ∧ s ≠ wFalse ∧ s ≠ wNull) := fun r x r1 h e => by
  unfold plainP at e
  split at e
  · cases e
  · rename_i hn
    obtain ⟨k, q⟩ := gd_name r x r1 h e
    simp only [Bool.or_eq_true, not_or] at hn
    have hx : ∀ s, x = s → isT s r = true := fun s hs => by
      cases r with
      | nil => cases e
      | cons t r =>
        have e : (if t.kind = 1 then PR.ok t.text r else .bad t.at_ 4) = .ok x r1 := e
        split at e
        · rename_i hk
          injection e with e _
          simp [isT, isS, isW, hk, e, hs]
        · cases e
    exact ⟨⟨k, fun hs => hn.1.1 (hx _ hs), fun hs => hn.1.2 (hx _ hs), fun hs => hn.2 (hx _ hs)⟩, q⟩
theorem gd_more (c : List UInt8) : ∀ (n : Nat) (acc : List (List UInt8)), acc ≠ [] → (∀ s ∈ acc, NameOk s) → Gd (moreP c n acc) (fun l => l ≠ [] ∧ ∀ s ∈ l, NameOk s)
  | 0, acc, _, _ => fun r x r1 h e => by cases e
  | n + 1, acc, h0, ha => fun r x r1 h e => by
    rw [moreP] at e
    split at e
    · obtain ⟨y, r2, h1, h2⟩ := bind_inv e
      obtain ⟨k1, k2⟩ := gd_name _ y r2 h.tail h1
      exact gd_more c n _ (by simp) (fun z hz => by
        rcases List.mem_append.1 hz with hz | hz
        · exact ha z hz
        · rw [List.mem_singleton] at hz; subst hz; exact k1) r2 x r1 k2 h2
    · injection e with e1 e2; subst e1; subst e2; exact ⟨⟨h0, ha⟩, h⟩
theorem gd_names (c : List UInt8) : Gd (namesP c) (fun l => l ≠ [] ∧ ∀ s ∈ l, NameOk s) := fun r x r1 h e => by
  unfold namesP at e
  obtain ⟨y, r2, h1, h2⟩ := bind_inv e
  have hr : GT (if isT c r then r.tail else r) := by split; exact h.tail; exact h
  obtain ⟨k1, k2⟩ := gd_name _ y r2 hr h1
  exact gd_more c _ [y] (by simp) (fun z hz => by rw [List.mem_singleton] at hz; subst hz; exact k1) r2 x r1 k2 h2
theorem gd_obj {k : Nat} (hk : k = 1 ∨ k = 2) {s : List UInt8} (hs : NameOk s) {l : List (List UInt8)} (hl : ∀ s ∈ l, NameOk s) (hl2 : k = 2 → l = []) : Gd (objP k s l) GoodTd :=
  (gd_want _).bind fun _ _ => Gd.bind (P := fun fs => fs ≠ [] ∧ ∀ f ∈ fs, GoodFd f ∧ f.has = false) (fun r x r1 h e => gd_many gd_fd _ _ [] (by simp) r x r1 h e) fun fs hf => Gd.ok _ ⟨hs, .inr (.inr (.inr ⟨hk.imp id fun h => ⟨h, hl2 h⟩, hl, hf.1, hf.2⟩))⟩
theorem gd_td : Gd tdP GoodTd := fun r x r1 h e => by
  unfold tdP at e
  split at e
  · cases e
  · rename_i hk0
    obtain ⟨s, r2, h1, e⟩ := bind_inv e
    obtain ⟨hs, q1⟩ := gd_name _ _ _ h.tail h1
    have hk5 : kindN r ≤ 5 := by unfold kindN; repeat' split
                                 all_goals omega
    unfold bodyP at e
    split at e
    · exact ((gd_want _).bind (Q := GoodTd) fun _ _ => (gd_names _).bind fun l hl => Gd.ok _ ⟨hs, .inl ⟨rfl, hl.1, hl.2, rfl⟩⟩) r2 x r1 q1 e
    · split at e
      · exact ((gd_want _).bind (Q := GoodTd) fun _ _ => Gd.bind (P := fun l => l ≠ [] ∧ ∀ s ∈ l, NameOk s ∧ s ≠ wTrue ∧ s ≠ wFalse ∧ s ≠ wNull) (fun r x r1 h e => gd_many gd_plain _ _ [] (by simp) r x r1 h e) fun l hl => Gd.ok _ ⟨hs, .inr (.inl ⟨rfl, hl.1, hl.2, rfl⟩)⟩) r2 x r1 q1 e
      · split at e
        · refine ((gd_want _).bind (Q := GoodTd) fun _ _ => Gd.bind (P := fun l => l ≠ [] ∧ ∀ i ∈ l, GoodIn i) (fun r x r1 h e => gd_many gd_in _ _ [] (by simp) r x r1 h e) fun l hl => Gd.ok _ ⟨hs, .inr (.inr (.inl ⟨rfl, rfl, by simpa using hl.1, fun f hf => ?_⟩))⟩) r2 x r1 q1 e
          obtain ⟨i, hi, rfl⟩ := List.mem_map.1 hf
          exact ⟨⟨hl.2 i hi, by simp [FD.of]⟩, rfl⟩
        · rename_i n3 n4 n5
          split at e
          · rename_i hb
            rw [Bool.and_eq_true] at hb
            obtain ⟨l, r3, h2, e⟩ := bind_inv e
            obtain ⟨hl, q2⟩ := gd_names _ _ _ _ q1.tail h2
            have hk1 : kindN r = 1 := of_decide_eq_true hb.1
            exact gd_obj (.inl hk1) hs hl.2 (fun h => by omega) r3 x r1 q2 e
          · exact gd_obj (by omega) hs (by simp) (fun _ => rfl) r2 x r1 q1 e
theorem gd_tys : ∀ (n : Nat) (acc : List TD), (∀ t ∈ acc, GoodTd t) → Gd (tysF n acc) (fun l => l ≠ [] ∧ ∀ t ∈ l, GoodTd t)
  | 0, acc, _ => fun r x r1 h e => by cases e
  | n + 1, acc, ha => fun r x r1 h e => by
    rw [tysF] at e
    obtain ⟨y, r2, h1, h2⟩ := bind_inv e
    obtain ⟨k1, k2⟩ := gd_td r y r2 h h1
    have ha2 : ∀ z ∈ acc ++ [y], GoodTd z := fun z hz => by
      rcases List.mem_append.1 hz with hz | hz
      · exact ha z hz
      · rw [List.mem_singleton] at hz; subst hz; exact k1
    split at h2
    · injection h2 with e1 e2; subst e1; subst e2; exact ⟨⟨by simp, ha2⟩, k2⟩
    · exact gd_tys n _ ha2 r2 x r1 k2 h2
theorem tysP_good {s : List UInt8} {l : List TD} (h : tysP s = .ok l) : l ≠ [] ∧ ∀ t ∈ l, GoodTd t := by
  unfold tysP at h
  cases ht : toks s with
  | bad a e => rw [ht] at h; cases h
  | ok ts =>
    rw [ht] at h
    have h : (match tysF (ts.length + 1) [] ts with | .ok d _ => TR1.ok d | .bad a e => .bad a e) = .ok l := h
    cases hd : tysF (ts.length + 1) [] ts with
    | bad a e => rw [hd] at h; cases h
    | ok d1 r1 =>
      rw [hd] at h; injection h with h; subst h
      exact (gd_tys _ [] (by simp) ts d1 r1 (toks_good ht) hd).1
/-! ### Places change nothing -/
theorem in_sim : Sim inP := fun S r r' h e => by
  unfold inP
  refine sim_bind (name_sim S _ _ h e) fun s r2 r2' h e => sim_bind (want_sim _ S _ _ h e) fun _ r3 r3' h e => sim_bind (typ_sim _ S _ _ h e) fun t r4 r4' h e => sim_if (relT_isT h e _) (fun hs => ?_) (fun _ => ⟨rfl, h, e⟩)
  obtain ⟨h, e⟩ := relT_tail h e (isT_k0 hs)
  exact sim_bind (value_sim _ _ S _ _ h e) fun v r5 r5' h e => ⟨rfl, h, e⟩
theorem fd_sim : Sim fdP := fun S r r' h e => by
  unfold fdP
  refine sim_bind (name_sim S _ _ h e) fun s r2 r2' h e => sim_bind ?_ fun gs r3 r3' h e => sim_bind (want_sim _ S _ _ h e) fun _ r3 r3' h e => sim_bind (typ_sim _ S _ _ h e) fun t r4 r4' h e => ⟨rfl, h, e⟩
  rw [h.len]
  refine sim_if (relT_isT h e _) (fun hs => ?_) (fun _ => ⟨rfl, h, e⟩)
  obtain ⟨h, e⟩ := relT_tail h e (isT_k0 hs)
  exact many_sim in_sim _ _ _ S _ _ h e
theorem plain_sim : Sim plainP := fun S r r' h e => by
  unfold plainP
  rw [relT_isT h e, relT_isT h e, relT_isT h e]
  exact sim_if rfl (fun _ => ⟨rfl, relT_at h e⟩) (fun _ => name_sim S _ _ h e)
theorem more_sim (c : List UInt8) : ∀ (n : Nat) (acc : List (List UInt8)), Sim (moreP c n acc)
  | 0, acc => fun S r r' h e => ⟨rfl, relT_at h e⟩
  | n + 1, acc => fun S r r' h e => by
    rw [moreP, moreP]
    refine sim_if (relT_isT h e _) (fun hs => ?_) (fun _ => ⟨rfl, h, e⟩)
    obtain ⟨h1, h2⟩ := relT_tail h e (isT_k0 hs)
    exact sim_bind (name_sim S _ _ h1 h2) fun x r1 r1' h e => more_sim c n _ S _ _ h e
theorem names_sim (c : List UInt8) : Sim (namesP c) := fun S r r' h e => by
  unfold namesP
  rw [relT_isT h e]
  have hh : RelT S (if isT c r then r.tail else r) (if isT c r then r'.tail else r') ∧ EndR (if isT c r then r.tail else r) := by
    by_cases hs : isT c r = true
    · rw [if_pos hs, if_pos hs]; exact relT_tail h e (isT_k0 hs)
    · rw [if_neg hs, if_neg hs]; exact ⟨h, e⟩
  exact sim_bind (name_sim S _ _ hh.1 hh.2) fun s r1 r1' h e => by rw [h.len]; exact more_sim c _ _ S _ _ h e
theorem obj_sim (k : Nat) (s : List UInt8) (l : List (List UInt8)) : Sim (objP k s l) := fun S r r' h e => by
  unfold objP
  exact sim_bind (want_sim _ S _ _ h e) fun _ r1 r1' h e => sim_bind (by rw [h.len]; exact many_sim fd_sim _ _ _ S _ _ h e) fun fs r2 r2' h e => ⟨rfl, h, e⟩
theorem kind_sim {S : Nat → Nat → Prop} {r r' : List Tok} (h : RelT S r r') (he : EndR r) : kindN r' = kindN r := by
  unfold kindN
  rw [relT_isT h he, relT_isT h he, relT_isT h he, relT_isT h he, relT_isT h he]
theorem kind_k0 {r : List Tok} (h : kindN r ≠ 0) : isK 0 r = false := by
  unfold kindN at h
  split at h
  · rename_i h2; exact isT_k0 h2
  split at h
  · rename_i h2; exact isT_k0 h2
  split at h
  · rename_i h2; exact isT_k0 h2
  split at h
  · rename_i h2; exact isT_k0 h2
  split at h
  · rename_i h2; exact isT_k0 h2
  · exact absurd rfl h
theorem td_sim : Sim tdP := fun S r r' h e => by
  unfold tdP
  rw [kind_sim h e]
  by_cases hk : kindN r = 0
  · rw [if_pos hk, if_pos hk]; exact ⟨rfl, relT_at h e⟩
  · rw [if_neg hk, if_neg hk]
    obtain ⟨h, e⟩ := relT_tail h e (kind_k0 hk)
    refine sim_bind (name_sim S _ _ h e) fun s r1 r1' h e => ?_
    obtain ⟨k, hk⟩ : ∃ k, kindN r = k := ⟨_, rfl⟩
    rw [hk]
    unfold bodyP
    split
    · unfold unionP
      exact sim_bind (want_sim _ S _ _ h e) fun _ r1 r1' h e => sim_bind (names_sim _ S _ _ h e) fun l r2 r2' h e => ⟨rfl, h, e⟩
    split
    · unfold enumP
      exact sim_bind (want_sim _ S _ _ h e) fun _ r1 r1' h e => sim_bind (by rw [h.len]; exact many_sim plain_sim _ _ _ S _ _ h e) fun l r2 r2' h e => ⟨rfl, h, e⟩
    split
    · unfold inputP
      exact sim_bind (want_sim _ S _ _ h e) fun _ r1 r1' h e => sim_bind (by rw [h.len]; exact many_sim in_sim _ _ _ S _ _ h e) fun l r2 r2' h e => ⟨rfl, h, e⟩
    · rw [relT_isT h e]
      refine sim_if rfl (fun hs => ?_) (fun _ => obj_sim _ _ _ S _ _ h e)
      rw [Bool.and_eq_true] at hs
      obtain ⟨h, e⟩ := relT_tail h e (isT_k0 hs.2)
      exact sim_bind (names_sim _ S _ _ h e) fun l r2 r2' h e => obj_sim _ _ _ S _ _ h e
theorem tys_sim : ∀ (n : Nat) (acc : List TD), Sim (tysF n acc)
  | 0, d => fun S r r' h e => ⟨rfl, relT_at h e⟩
  | n + 1, d => fun S r r' h e => by
    rw [tysF, tysF]
    exact sim_bind (td_sim S _ _ h e) fun d1 r1 r1' h e => sim_if (relT_isK h e _) (fun _ => ⟨rfl, h, e⟩) (fun _ => tys_sim n _ S _ _ h e)
/-! ### And back -/
theorem endR_snoc (l : List Tok) {E : Tok} (h : E.kind = 0) : EndR (l ++ [E]) := by
  induction l with
  | nil => exact h
  | cons t l ih => cases l with
    | nil => exact ih
    | cons u l => exact ih
/-- What is printed of declarations is read as these declarations. -/
theorem tys_again {l : List TD} (h : ∀ t ∈ l, GoodTd t) (hne : l ≠ []) : ∃ ts, toksA 0 (ren (tysI l)) = .ok ts ∧ ∃ r, tysF (ts.length + 1) [] ts = .ok l r := by
  obtain ⟨ts, h1, h2⟩ := toks_ren (tysI l) 0 (ok_tys h [] Sep.nil)
  obtain ⟨E, hE⟩ : ∃ E : Tok, (⟨0, [], 0, 0 + (ren (tysI l)).length⟩ : Tok) = E := ⟨_, rfl⟩
  rw [hE] at h1
  refine ⟨_, h1, ?_⟩
  have hr := h2.rel E ⟨0, [], 0, 0⟩ (by rw [← hE]) (by rw [← hE]) (by rw [← hE])
  have hs := tys_sim ((ts ++ [E]).length + 1) [] _ _ _ hr (endR_snoc _ rfl)
  have e : tok0 (tysI l) = l.flatMap fun t => tok0 (tdI t) := by unfold tysI; rw [tok0_sep rfl, List.flatMap_map]
  have hl : l.length ≤ (tok0 (tysI l)).length := by
    rw [e]
    refine flat_len fun t ht => ?_
    obtain ⟨w, r, e2, _⟩ := fst_td (h t ht) []
    rw [List.append_nil] at e2
    rw [e2]; simp
  have h3 := rd_tys (E := ⟨0, [], 0, 0⟩) rfl l hne h ((ts ++ [E]).length + 1) [] (by rw [List.length_append, h2.len]; omega)
  rw [← e] at h3
  rw [h3] at hs
  cases hq : tysF ((ts ++ [E]).length + 1) [] (ts ++ [E]) with
  | ok x r =>
    rw [hq] at hs
    have := hs.1
    exact ⟨r, by rw [← this]; rfl⟩
  | bad a e => rw [hq] at hs; exact hs.elim
theorem tysP_back {s : List UInt8} {l : List TD} (h : tysP s = .ok l) : tysP (ren (tysI l)) = .ok l ∨ tysP (ren (tysI l)) = .bad 0 2 := by
  obtain ⟨hne, hg⟩ := tysP_good h
  obtain ⟨ts, h1, r, h2⟩ := tys_again hg hne
  by_cases hl : 2000 < (ren (tysI l)).length
  · right
    unfold tysP toks
    rw [if_pos hl]
  · left
    unfold tysP
    rw [toks_short (by omega), h1]
    show (match tysF (ts.length + 1) [] ts with | .ok d _ => TR1.ok d | .bad a e => .bad a e) = _
    rw [h2]
end Go.Proofs.YtgephneppgcnlaaDoor
