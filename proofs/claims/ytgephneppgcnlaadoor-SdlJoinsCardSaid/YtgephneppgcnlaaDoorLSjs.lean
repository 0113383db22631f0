/- Declarations, in plain Lean: two texts, one behind the other, declare what both do (SdlJoins). What sdl.Types hands back, for any text; a fault has a code. SdlJoins: the walk. -/
import Derived.Test.YtgephneppgcnlaaDoorPns
import Derived.Test.YtgephneppgcnlaaDoorSdY
import Derived.Test.YtgephneppgcnlaaDoorSda
import Derived.Test.YtgephneppgcnlaaDoorSmf
import Derived.Test.YtgephneppgcnlaaDoorApw
namespace Go.Proofs.YtgephneppgcnlaaDoor
set_option linter.unusedVariables false
set_option linter.unusedSimpArgs false

variable {E : Tok} {tl : List Tok}
/-- The same, where tl begins with nothing that is looked for at the end. -/
def JeP {α : Type} (E : Tok) (tl pre : List Tok) (p p' : PR α) : Prop := match p with
  | .bad _ _ => True
  | .ok x r1 => ∃ u, u <:+ pre ∧ r1 = u ++ [E] ∧ p' = .ok x (u ++ tl)
theorem JcP.je {α : Type} {pre : List Tok} {p p' : PR α} (h : JcP E tl pre p p') : JeP E tl pre p p' := by
  cases p with
  | bad a e => trivial
  | ok x r => obtain ⟨u, h1, h2, h3, h4⟩ := h; exact ⟨u, h1, h3, h4⟩
theorem JeP.weak {α : Type} {a b : List Tok} (hs : a <:+ b) {p p' : PR α} (h : JeP E tl a p p') : JeP E tl b p p' := by
  cases p with
  | bad a e => trivial
  | ok x r => obtain ⟨u, h1, h3, h4⟩ := h; exact ⟨u, h1.trans hs, h3, h4⟩
theorem JeP.ok {α : Type} (x : α) (pre : List Tok) : JeP E tl pre (.ok x (pre ++ [E])) (.ok x (pre ++ tl)) := ⟨pre, List.suffix_refl _, rfl, rfl⟩
theorem je_bind {α β : Type} {pre : List Tok} {p p' : PR α} {f g : α → List Tok → PR β} (h : JeP E tl pre p p') (hf : ∀ x u, JeP E tl u (f x (u ++ [E])) (g x (u ++ tl))) : JeP E tl pre (p.bind f) (p'.bind g) := by
  cases p with
  | bad a e => trivial
  | ok x r1 =>
    obtain ⟨u, h1, rfl, rfl⟩ := h
    exact JeP.weak h1 (hf x u)
theorem je_if {α : Type} {τ : List Tok → Bool} (T : Tst E τ) (ht : τ tl = false) {pre : List Tok} {p p' q q' : PR α} (h1 : ∀ a u, pre = a :: u → τ (pre ++ [E]) = true → JeP E tl pre p p') (h2 : JeP E tl pre q q') : JeP E tl pre (if τ (pre ++ [E]) then p else q) (if τ (pre ++ tl) then p' else q') := by
  cases pre with
  | nil =>
    rw [List.nil_append, List.nil_append, if_neg (by rw [T.no]; decide), if_neg (by rw [ht]; decide)]
    exact h2
  | cons a u =>
    rw [List.cons_append, List.cons_append, T.hd a (u ++ tl) (u ++ [E])]
    split
    · rename_i hc; exact h1 a u rfl hc
    · exact h2
theorem more_jn (h0 : E.kind = 0) (c : List UInt8) : ∀ (n : Nat) (acc : List (List UInt8)) (pre : List Tok) (m : Nat), (pre ++ [E]).length < n → (pre ++ tl).length < m → JnP E tl pre (moreP c n acc (pre ++ [E])) (moreP c m acc (pre ++ tl))
  | 0, _, _, _, h, _ => absurd h (by omega)
  | _ + 1, _, _, 0, _, h => absurd h (by omega)
  | n + 1, acc, pre, m + 1, h1, h2 => by
    rw [moreP, moreP]
    refine jn_if (tst_T h0 _) (fun a u e _ => ?_) (.ok _ _)
    subst e
    refine JnP.weak (List.suffix_cons _ _) ?_
    show JnP E tl u ((nameP (u ++ [E])).bind _) ((nameP (u ++ tl)).bind _)
    have hq := name_jc h0 (tl := tl) u
    cases hn : nameP (u ++ [E]) with
    | bad a e => trivial
    | ok x r1 =>
      rw [hn] at hq
      obtain ⟨v, k1, k2, rfl, k4⟩ := hq
      rw [k4]
      refine JnP.weak k1 (more_jn h0 c n (acc ++ [x]) v m ?_ ?_)
      · simp only [List.length_append, List.length_cons] at h1 ⊢; have := k1.length_le; omega
      · simp only [List.length_append, List.length_cons] at h2 ⊢; have := k1.length_le; omega
theorem more_je (h0 : E.kind = 0) (c : List UInt8) (hc : isT c tl = false) : ∀ (n : Nat) (acc : List (List UInt8)) (pre : List Tok) (m : Nat), (pre ++ [E]).length < n → (pre ++ tl).length < m → JeP E tl pre (moreP c n acc (pre ++ [E])) (moreP c m acc (pre ++ tl))
  | 0, _, _, _, h, _ => absurd h (by omega)
  | _ + 1, _, _, 0, _, h => absurd h (by omega)
  | n + 1, acc, pre, m + 1, h1, h2 => by
    rw [moreP, moreP]
    refine je_if (tst_T h0 _) hc (fun a u e _ => ?_) (.ok _ _)
    subst e
    refine JeP.weak (List.suffix_cons _ _) ?_
    show JeP E tl u ((nameP (u ++ [E])).bind _) ((nameP (u ++ tl)).bind _)
    have hq := name_jc h0 (tl := tl) u
    cases hn : nameP (u ++ [E]) with
    | bad a e => trivial
    | ok x r1 =>
      rw [hn] at hq
      obtain ⟨v, k1, k2, rfl, k4⟩ := hq
      rw [k4]
      refine JeP.weak k1 (more_je h0 c hc n (acc ++ [x]) v m ?_ ?_)
      · simp only [List.length_append, List.length_cons] at h1 ⊢; have := k1.length_le; omega
      · simp only [List.length_append, List.length_cons] at h2 ⊢; have := k1.length_le; omega
theorem names_fst (h0 : E.kind = 0) (c : List UInt8) (pre : List Tok) : JcP E tl pre (nameP (if isT c (pre ++ [E]) then (pre ++ [E]).tail else pre ++ [E])) (nameP (if isT c (pre ++ tl) then (pre ++ tl).tail else pre ++ tl)) := by
  rw [apply_ite nameP, apply_ite nameP]
  refine jc_if (tst_T h0 _) (fun a u e _ => ?_) (name_jc h0 pre)
  subst e
  exact JcP.weak (List.suffix_cons _ _) (name_jc h0 u)
theorem names_jn (h0 : E.kind = 0) (c : List UInt8) (pre : List Tok) : JnP E tl pre (namesP c (pre ++ [E])) (namesP c (pre ++ tl)) := by
  unfold namesP
  exact jn_bind (names_fst h0 c pre).jn fun s u => more_jn h0 c _ _ u _ (by omega) (by omega)
theorem names_je (h0 : E.kind = 0) (c : List UInt8) (hc : isT c tl = false) (pre : List Tok) : JeP E tl pre (namesP c (pre ++ [E])) (namesP c (pre ++ tl)) := by
  unfold namesP
  exact je_bind (names_fst h0 c pre).je fun s u => more_je h0 c hc _ _ u _ (by omega) (by omega)
theorem in_jn (h0 : E.kind = 0) (pre : List Tok) : JnP E tl pre (inP (pre ++ [E])) (inP (pre ++ tl)) := by
  unfold inP
  refine jn_bind (name_jc h0 pre).jn fun s u => jn_bind (want_jc h0 _ u).jn fun _ u => jn_bind (typ_jn h0 _ u) fun t u => jn_if (tst_T h0 _) (fun a w e _ => ?_) (.ok _ _)
  subst e
  exact JnP.weak (List.suffix_cons _ _) (jn_map (value_jc h0 _ _ w).jn)
theorem fd_jn (h0 : E.kind = 0) (pre : List Tok) : JnP E tl pre (fdP (pre ++ [E])) (fdP (pre ++ tl)) := by
  unfold fdP
  refine jn_bind (name_jc h0 pre).jn fun s u => jn_bind (jn_if (tst_T h0 _) (fun a w e _ => ?_) (.ok _ _)) fun gs u => jn_bind (want_jc h0 _ u).jn fun _ u => jn_map (typ_jn h0 _ u)
  subst e
  exact JnP.weak (List.suffix_cons _ _) (many_jc h0 (in_jn h0) inP_takes _ _ _ w _ (by simp <;> omega) (by simp <;> omega)).jn
theorem plain_jc (h0 : E.kind = 0) (pre : List Tok) : JcP E tl pre (plainP (pre ++ [E])) (plainP (pre ++ tl)) := by
  unfold plainP
  exact jc_if (τ := fun r => isT wTrue r || isT wFalse r || isT wNull r) ⟨by simp [isT, isS, isW, h0], fun _ _ _ => rfl⟩ (fun _ _ _ _ => trivial) (name_jc h0 pre)
theorem obj_jc (h0 : E.kind = 0) (k : Nat) (s : List UInt8) (l : List (List UInt8)) (pre : List Tok) : JcP E tl pre (objP k s l (pre ++ [E])) (objP k s l (pre ++ tl)) := by
  unfold objP
  exact jc_bind (want_jc h0 _ pre).jn fun _ u => jc_map (many_jc h0 (fd_jn h0) fdP_takes _ _ _ u _ (by omega) (by omega))
theorem body_je (h0 : E.kind = 0) (hc : isT [124] tl = false) (k : Nat) (s : List UInt8) (pre : List Tok) : JeP E tl pre (bodyP k s (pre ++ [E])) (bodyP k s (pre ++ tl)) := by
  unfold bodyP
  by_cases h3 : k = 3
  · rw [if_pos h3, if_pos h3]
    unfold unionP
    exact je_bind (want_jc h0 _ pre).je fun _ u => je_bind (names_je h0 _ hc u) fun l u => .ok _ _
  rw [if_neg h3, if_neg h3]
  by_cases h4 : k = 4
  · rw [if_pos h4, if_pos h4]
    unfold enumP
    exact (jc_bind (want_jc h0 _ pre).jn fun _ u => jc_map (many_jc h0 (fun u => (plain_jc h0 u).jn) plainP_takes _ _ _ u _ (by omega) (by omega))).je
  rw [if_neg h4, if_neg h4]
  by_cases h5 : k = 5
  · rw [if_pos h5, if_pos h5]
    unfold inputP
    exact (jc_bind (want_jc h0 _ pre).jn fun _ u => jc_map (many_jc h0 (in_jn h0) inP_takes _ _ _ u _ (by omega) (by omega))).je
  rw [if_neg h5, if_neg h5]
  refine JcP.je (jc_if (τ := fun r => decide (k = 1) && isT wImplements r) ⟨by rw [(tst_T h0 _).no, Bool.and_false], fun _ _ _ => rfl⟩ (fun a u e _ => ?_) (obj_jc h0 _ _ _ pre))
  subst e
  exact JcP.weak (List.suffix_cons _ _) (jc_bind (names_jn h0 _ u) fun l u => obj_jc h0 _ _ _ u)
theorem td_je (h0 : E.kind = 0) (hc : isT [124] tl = false) (pre : List Tok) : JeP E tl pre (tdP (pre ++ [E])) (tdP (pre ++ tl)) := by
  cases pre with
  | nil =>
    have : kindN [E] = 0 := by unfold kindN; simp [isT, isS, isW, h0]
    unfold tdP
    rw [List.nil_append, if_pos this]; trivial
  | cons a u =>
    have hk : kindN (a :: u ++ tl) = kindN (a :: u ++ [E]) := rfl
    unfold tdP
    rw [hk]
    split
    · trivial
    · exact JeP.weak (List.suffix_cons _ _) (je_bind (name_jc h0 u).je fun s u => body_je h0 hc _ s u)
theorem tys_join (h0 : E.kind = 0) (hk : isK 0 tl = false) (hc : isT [124] tl = false) : ∀ (n : Nat) (acc : List TD) (pre : List Tok) (m : Nat), (pre ++ [E]).length < n → (pre ++ tl).length < m → (∀ t ∈ pre, t.kind ≠ 0) → ∀ d r1, tysF n acc (pre ++ [E]) = .ok d r1 → tysF m acc (pre ++ tl) = tysF m d tl
  | 0, _, _, _, h, _, _, _, _, _ => absurd h (by omega)
  | _ + 1, _, _, 0, _, h, _, _, _, _ => absurd h (by omega)
  | n + 1, acc, pre, m + 1, h1, h2, hu, d, r1, h => by
    rw [tysF] at h
    obtain ⟨d1, r2, k1, h⟩ := bind_inv h
    have hl := tdP_takes _ _ _ k1
    have hq := td_je h0 hc pre
    rw [k1] at hq
    obtain ⟨u, q1, rfl, q4⟩ := hq
    have hl2 := tdP_takes _ _ _ q4
    rw [tysF, q4]
    show (if isK 0 (u ++ tl) then PR.ok (acc ++ [d1]) (u ++ tl) else tysF m (acc ++ [d1]) (u ++ tl)) = _
    have htl : tl.length < m := by rw [List.length_append, List.length_append] at hl2; rw [List.length_append] at h2; omega
    cases u with
    | nil =>
      rw [List.nil_append, if_pos (by simp [isK, h0])] at h
      injection h with e1 e2; subst e1
      rw [List.nil_append, if_neg (by rw [hk]; decide)]
      exact tysF_fuel _ _ _ _ htl (by omega)
    | cons a u =>
      have ha : a.kind ≠ 0 := hu a (by obtain ⟨c, hc⟩ := q1; rw [← hc]; simp)
      rw [if_neg (by simp [isK, ha])] at h ⊢
      rw [tys_join h0 hk hc n (acc ++ [d1]) (a :: u) m (by omega) (by omega) (fun t ht => hu t (q1.subset ht)) d r1 h]
      exact tysF_fuel _ _ _ _ htl (by omega)
theorem tys_app (d : List TD) : ∀ (n : Nat) (m : List TD) (r : List Tok), tysF n (d ++ m) r = (tysF n m r).map (d ++ ·)
  | 0, m, r => rfl
  | n + 1, m, r => by
    rw [tysF, tysF]
    cases tdP r with
    | bad a e => rfl
    | ok t r1 =>
      show (if isK 0 r1 then PR.ok (d ++ m ++ [t]) r1 else tysF n (d ++ m ++ [t]) r1) = (if isK 0 r1 then PR.ok (m ++ [t]) r1 else tysF n (m ++ [t]) r1).map (d ++ ·)
      rw [List.append_assoc, tys_app d n, map_if]; rfl
theorem kind_bar {r : List Tok} (h : kindN r ≠ 0) : isT [124] r = false := by
  cases r with
  | nil => rfl
  | cons t r =>
    cases hb : isT [124] (t :: r) with
    | false => rfl
    | true =>
      exfalso
      have ht : t.text = [124] := by
        simp [isT, isS, isW] at hb
        rcases hb with ⟨_, hb⟩ | ⟨_, hb⟩ <;> exact hb
      apply h
      simp [kindN, isT, isS, isW, ht, wType, wInterface, wUnion, wEnum, wInput]
theorem tysP_join {a b : List UInt8} {l m : List TD} (ha : tysP a = .ok l) (hb : tysP b = .ok m) (hl : a.length + b.length ≤ 1999) : tysP (a ++ 10 :: b) = .ok (l ++ m) := by
  unfold tysP at ha hb
  cases hta : toks a with
  | bad x e => rw [hta] at ha; cases ha
  | ok ts =>
    cases htb : toks b with
    | bad x e => rw [htb] at hb; cases hb
    | ok tb =>
      rw [hta] at ha; rw [htb] at hb
      have ha : (match tysF (ts.length + 1) [] ts with | .ok d _ => TR1.ok d | .bad a e => .bad a e) = .ok l := ha
      have hb : (match tysF (tb.length + 1) [] tb with | .ok d _ => TR1.ok d | .bad a e => .bad a e) = .ok m := hb
      have hj := toks_join hta hl
      obtain ⟨pre, e0, hk⟩ := toks_last hta
      cases hd : tysF (ts.length + 1) [] ts with
      | bad x e => rw [hd] at ha; cases ha
      | ok d' r1 =>
        rw [hd] at ha
        injection ha with ha; subst ha
        cases hd2 : tysF (tb.length + 1) [] tb with
        | bad x e => rw [hd2] at hb; cases hb
        | ok m' r2 =>
          rw [hd2] at hb
          injection hb with hb; subst hb
          have hkn : kindN tb ≠ 0 := by
            intro h
            have h' := hd2
            rw [tysF] at h'
            unfold tdP at h'
            rw [if_pos h] at h'
            cases h'
          have hdl : ts.dropLast = pre := by rw [e0, List.dropLast_concat]
          have hsim := tys_sim (tb.length + 1) [] (fun a' b' => b' = a' + (a.length + 1)) tb _ (relT_up _ tb) (toks_end htb).1
          have hkn2 : kindN (tb.map (Tok.upp (a.length + 1))) ≠ 0 := by rw [kind_sim (relT_up (a.length + 1) tb) (toks_end htb).1]; exact hkn
          rw [e0] at hd
          have h3 := tys_join (E := ⟨0, [], 0, a.length⟩) (tl := tb.map (Tok.upp (a.length + 1))) rfl (kind_k0 hkn2) (kind_bar hkn2) _ [] pre ((pre ++ tb.map (Tok.upp (a.length + 1))).length + 1) (by omega) (by omega) hk d' r1 hd
          unfold tysP
          rw [hj, htb]
          show (match tysF ((ts.dropLast ++ tb.map (Tok.upp (a.length + 1))).length + 1) [] (ts.dropLast ++ tb.map (Tok.upp (a.length + 1))) with | .ok d _ => TR1.ok d | .bad a e => .bad a e) = .ok (d' ++ m')
          rw [hdl, h3, tysF_fuel _ (tb.length + 1) _ _ (by rw [List.length_append]; omega) (by rw [List.length_map]; omega)]
          have h4 := tys_app d' (tb.length + 1) [] (tb.map (Tok.upp (a.length + 1)))
          rw [List.append_nil] at h4
          rw [h4]
          rw [hd2] at hsim
          cases h5 : tysF (tb.length + 1) [] (tb.map (Tok.upp (a.length + 1))) with
          | ok m2 r3 => rw [h5] at hsim; obtain ⟨rfl, -⟩ := hsim; rfl
          | bad x e => rw [h5] at hsim; exact hsim.elim
end Go.Proofs.YtgephneppgcnlaaDoor
namespace Go.Proofs.YtgephneppgcnlaaDoor
open Go Go.RowKit
set_option linter.unusedVariables false
set_option linter.unusedSimpArgs false

theorem nz_4 {α : Type} (a : Nat) : NZ (.bad a 4 : PR α) := by show (4 : Nat) ≠ 0; decide
theorem nz_in (r : List Tok) : NZ (inP r) := nz_bind (nz_name _) fun _ _ => nz_bind (nz_want _ _) fun _ _ => nz_bind (nz_typ _ _) fun _ _ => nz_if (nz_bind (nz_value _ _ _) fun _ _ => trivial) trivial
theorem nz_fd (r : List Tok) : NZ (fdP r) := nz_bind (nz_name _) fun _ _ => nz_bind (nz_if (nz_many nz_in _ _ _ _) trivial) fun _ _ => nz_bind (nz_want _ _) fun _ _ => nz_bind (nz_typ _ _) fun _ _ => trivial
theorem nz_plain (r : List Tok) : NZ (plainP r) := nz_if (nz_4 _) (nz_name _)
theorem nz_more (c : List UInt8) : ∀ (n : Nat) (acc : List (List UInt8)) (r : List Tok), NZ (moreP c n acc r)
  | 0, _, _ => nz_4 _
  | n + 1, acc, r => by rw [moreP]; exact nz_if (nz_bind (nz_name _) fun _ _ => nz_more c n _ _) trivial
theorem nz_names (c : List UInt8) (r : List Tok) : NZ (namesP c r) := nz_bind (nz_name _) fun _ _ => nz_more c _ _ _
theorem nz_obj (k : Nat) (s : List UInt8) (l : List (List UInt8)) (r : List Tok) : NZ (objP k s l r) := nz_bind (nz_want _ _) fun _ _ => nz_bind (nz_many nz_fd _ _ _ _) fun _ _ => trivial
theorem nz_body (k : Nat) (s : List UInt8) (r : List Tok) : NZ (bodyP k s r) := by
  unfold bodyP
  exact nz_if (nz_bind (nz_want _ _) fun _ _ => nz_bind (nz_names _ _) fun _ _ => trivial) (nz_if (nz_bind (nz_want _ _) fun _ _ => nz_bind (nz_many nz_plain _ _ _ _) fun _ _ => trivial) (nz_if (nz_bind (nz_want _ _) fun _ _ => nz_bind (nz_many nz_in _ _ _ _) fun _ _ => trivial) (nz_if (nz_bind (nz_names _ _) fun _ _ => nz_obj _ _ _ _) (nz_obj _ _ _ _))))
theorem nz_td (r : List Tok) : NZ (tdP r) := nz_if (nz_4 _) (nz_bind (nz_name _) fun _ _ => nz_body _ _ _)
theorem nz_tys : ∀ (n : Nat) (d : List TD) (r : List Tok), NZ (tysF n d r)
  | 0, _, _ => nz_4 _
  | n + 1, d, r => by rw [tysF]; exact nz_bind (nz_td r) fun _ _ => nz_if trivial (nz_tys n _ _)
theorem tysP_bad {s : List UInt8} {a e : Nat} (h : tysP s = .bad a e) : e ≠ 0 := by
  unfold tysP at h
  cases ht : toks s with
  | bad x c =>
    rw [ht] at h
    have h : TR1.bad x c = .bad a e := h
    injection h with _ h; subst h; exact toks_bad ht
  | ok ts =>
    rw [ht] at h
    have h : (match tysF (ts.length + 1) [] ts with | .ok d _ => TR1.ok d | .bad a e => .bad a e) = .bad a e := h
    have hn := nz_tys (ts.length + 1) [] ts
    cases hd : tysF (ts.length + 1) [] ts with
    | ok d r => rw [hd] at h; cases h
    | bad x c => rw [hd] at h hn; injection h with _ h; subst h; exact hn
theorem tysP_few {s : List UInt8} {d : List TD} (h : tysP s = .ok d) : d.length ≤ 2001 := by
  unfold tysP at h
  cases ht : toks s with
  | bad a e => rw [ht] at h; cases h
  | ok ts =>
    rw [ht] at h
    have h : (match tysF (ts.length + 1) [] ts with | .ok d _ => TR1.ok d | .bad a e => .bad a e) = .ok d := h
    cases hd : tysF (ts.length + 1) [] ts with
    | bad a e => rw [hd] at h; cases h
    | ok d1 r1 =>
      rw [hd] at h; injection h with h; subst h
      have h1 := tysF_few _ _ _ _ _ hd
      have h2 := (toks_end ht).2
      simp at h1; omega
theorem stypes_b (s : ByteArray) (w : World) (hs : s.size ≤ maxLen) : Calls Tryd.prog 20 #[.string s] w (TysRes w (tysP s.data.toList)) := stypes_any s.data.toList w hs
def TysIs (w w' : World) (a1 : Option Addr) (n1 c1 x c : Nat) : TR1 → Prop
  | .ok d => x = 0 ∧ c = 0 ∧ n1 = d.length ∧ CellAt w' (fun q => w.heap.size ≤ q) (.row 4 (d.map tdC)) (.slice a1 n1 c1)
  | .bad y f => x = y ∧ c = f
/-- What sdl.Types hands back, whatever it comes to. -/
theorem TysRes.any {w w' : World} {P : TR1} {e : Ending} (h : TysRes w P e w') : ∃ (a1 : Option Addr) (n1 c1 : Nat) (x c : Nat), e = .returned (.tuple #[.slice a1 n1 c1, .int .i64 (x : Int), .int .i64 (c : Int)]) ∧ Only (fun _ => False) w w' ∧ TysIs w w' a1 n1 c1 x c P := by
  cases P with
  | ok d =>
    obtain ⟨a1, c1, rfl, h1, h2⟩ := h
    exact ⟨a1, _, c1, 0, 0, rfl, h2, rfl, rfl, rfl, h1⟩
  | bad y f =>
    obtain ⟨rfl, h2⟩ := h
    exact ⟨none, 0, 0, y, f, rfl, h2, rfl, rfl⟩
end Go.Proofs.YtgephneppgcnlaaDoor
namespace Go.Proofs.YtgephneppgcnlaaDoor
open Go Go.RowKit
set_option linter.unusedVariables false
set_option linter.unusedSimpArgs false

theorem line_list (a b : ByteArray) : ((a ++ ⟨#[10]⟩) ++ b).data.toList = a.data.toList ++ 10 :: b.data.toList := by simp
theorem line_size (a b : ByteArray) : ((a ++ ⟨#[10]⟩) ++ b).size = a.size + b.size + 1 := by
  have : ((a ++ ⟨#[10]⟩) ++ b).size = ((a ++ ⟨#[10]⟩) ++ b).data.toList.length := rfl
  rw [this, line_list, List.length_append, List.length_cons]
  show a.size + (b.size + 1) = _
  omega
set_option maxRecDepth 100000 in
set_option maxHeartbeats 16000000 in
theorem sjoins_walk (a b : ByteArray) (w : World) (ha : a.size ≤ 140737488351232) (hb : b.size ≤ 140737488351232) : Calls Tryd.prog 10 #[.string a, .string b] w fun e w' => e = .returned (.bool true) ∧ Below w.heap.size w w' := by
  have A := Lib.hid (awake07 w)
  go_enter Tryd.func10, Tryd.ntmps10
  go_wp2_with fail
  refine A.out.mono ?_
  rintro e w1 ⟨rfl, O1⟩
  have HO1 := Lib.hid O1; clear O1 A
  by_cases hbig : 1999 < a.size + b.size
  · have A := Lib.hid (awake07 w1)
    have t1 : decide ((a.size : Int) + (b.size : Int) > 1999) = true := decide_eq_true (by omega)
    go_wp2_with fail
    refine A.out.mono ?_
    rintro e w2 ⟨rfl, O2⟩
    have HO2 := Lib.hid (HO1.out.trans O2); clear O2 A
    go_wp2_with fail
    go_ret
    exact ⟨rfl, HO2.out.below (Nat.le_refl _) (fun _ _ h => h)⟩
  have t1 : decide ((a.size : Int) + (b.size : Int) > 1999) = false := decide_eq_false (by omega)
  have hl9 : a.size + b.size ≤ 1999 := by omega
  clear hbig ha hb
  have D := Lib.hid (stypes_b a w1 (by unfold maxLen; omega))
  go_wp2_with fail
  refine D.out.mono ?_
  intro e w2 hr1
  obtain ⟨p1, l1, c1, x1, f1, rfl, O2, hm1⟩ := hr1.any
  have E2 := Lib.hid (stypes_b b w2 (by unfold maxLen; omega))
  have HO2 := Lib.hid (HO1.out.trans O2)
  have HM1 := Lib.hid hm1
  clear hr1 D hm1 O2
  go_wp2_with fail
  refine E2.out.mono ?_
  intro e w3 hr2
  obtain ⟨p2, l2, c2, x2, f2, rfl, O3, hm2⟩ := hr2.any
  have HO3 := Lib.hid O3; have HM2 := Lib.hid hm2
  clear hr2 E2 hm2 O3
  cases hd : tysP a.data.toList with
  | bad y f =>
    rw [hd] at HM1
    obtain ⟨rfl, rfl⟩ := HM1.out
    have hne : ((f1 : Int) != 0) = true := by have := tysP_bad hd; simp; omega
    go_wp2_with fail
    go_ret
    exact ⟨rfl, (HO2.out.trans HO3.out).below (Nat.le_refl _) (fun _ _ h => h)⟩
  | ok d =>
    rw [hd] at HM1
    obtain ⟨rfl, rfl, hl1, hcd⟩ := HM1.out
    cases he : tysP b.data.toList with
    | bad y f =>
      rw [he] at HM2
      obtain ⟨rfl, rfl⟩ := HM2.out
      have hne : ((f2 : Int) != 0) = true := by have := tysP_bad he; simp; omega
      clear hcd
      go_wp2_with fail
      go_ret
      exact ⟨rfl, (HO2.out.trans HO3.out).below (Nat.le_refl _) (fun _ _ h => h)⟩
    | ok m =>
      rw [he] at HM2
      obtain ⟨rfl, rfl, hl2, hcm⟩ := HM2.out
      have F2 := Lib.hid (stypes_b ((a ++ ⟨#[10]⟩) ++ b) w3 (by rw [line_size]; unfold maxLen; omega))
      rw [line_list, tysP_join hd he hl9] at F2
      have hfd := tysP_few hd
      have hfm := tysP_few he
      have HCD := Lib.hid hcd; have HCM := Lib.hid hcm
      clear hcd hcm hd he
      go_wp2_with fail
      refine F2.out.mono ?_
      rintro e w4 ⟨p3, c3, rfl, hck, O4⟩
      subst hl1; subst hl2
      obtain ⟨B, hB⟩ : ∃ x, w4.heap.size = x := ⟨_, rfl⟩
      have o24 := HO3.out.trans O4
      have low : ∀ {u : World} {G : Nat → Prop} {c : Cell} {v : Value}, Only (fun _ => False) u w4 → CellAt u G c v → CellAt w4 (fun q => q < B) c v := fun o h => CellAt.weaken (fun q hq _ => by show q < B; omega) _ _ (CellAt.only o (fun _ _ h => h) _ _ h)
      have hcd := low o24 HCD.out
      have hcm := low O4 HCM.out
      have hck := low (Only.refl _ _) hck
      have lw : w.heap.size ≤ B := by have := (HO2.out.trans o24).size; omega
      have HCD := Lib.hid hcd; have HCM := Lib.hid hcm; have HCK := Lib.hid hck; have HB := Lib.hid hB; have HLW := Lib.hid lw; have HO4 := Lib.hid (HO2.out.trans o24)
      clear low o24 hcd hcm hck lw O4 F2 HO2 HO3 HO1 HM1 HM2
      have ow0 := Lib.hid (own_nil w4 B 70 4)
      have ck0 := Lib.hid (show Chk w4 (fun q => q < B) 4 [] [] from rfl)
      go_upto_region 10 with ((refine wpList_append_whole (o := ⟨some 55, _, _, _, _, _⟩) rfl (.tmp 53) (.tmp 54) 63 70 (by rfl) Tryd.underlying63 infoTd rfl (by decide) B B (Nat.le_refl _) (.slice none 0 0) _ [] (d.map tdC) [] (by rfl) (by rfl) ow0.out ck0.out HCD.out (by simp; unfold maxLen; omega) (by simp; omega) (Nat.le_of_eq HB.out.symm) ?_; intro v1 ys1 w9 g1 g2 g3 g4; obtain ⟨a1, z1, ev1, hz1, hz2, hz3⟩ := own_form g1; subst ev1))
      have hcm9 := CellAt.only g3 (fun k hk e => by have hk : k < B := hk; omega) _ _ HCM.out
      have hck9 := CellAt.only g3 (fun k hk e => by have hk : k < B := hk; omega) _ _ HCK.out
      have o9 := HO4.out.trans' g3 (fun q hq h => by have := HLW.out; omega)
      have s9 : B ≤ w9.heap.size := by have := g3.size; have := HB.out; omega
      have g1' : w9.ownsRow B 70 4 (.slice a1 (([] : List (List Cell)).length + (d.map tdC).length) z1) ([] ++ d.map tdC).length ys1 := by
        have e : ([] ++ d.map tdC : List (List Cell)).length = ([] : List (List Cell)).length + (d.map tdC).length := by simp
        rw [e]; exact g1
      simp only [List.length_nil, Nat.zero_add, List.length_map] at g1'
      have G1 := Lib.hid g1'; have G2 := Lib.hid g2; have CM9 := Lib.hid hcm9; have CK9 := Lib.hid hck9; have HO9 := Lib.hid o9
      clear g1 g1' g2 g3 g4 hcm9 hck9 o9 hz1 hz2 hz3
      go_upto_region 11 with ((refine wpList_append_whole (o := ⟨some 58, _, _, _, _, _⟩) rfl (.tmp 56) (.tmp 57) 63 70 (by rfl) Tryd.underlying63 infoTd rfl (by decide) B B (Nat.le_refl _) (.slice a1 d.length z1) _ ([] ++ d.map tdC) (m.map tdC) ys1 (by rfl) (by rfl) G1.out G2.out CM9.out (by simp; unfold maxLen; omega) (by simp; omega) s9 ?_; intro v2 ys2 w10 k1 k2 k3 k4))
      have hr := own_cell (rs := [] ++ d.map tdC ++ m.map tdC) (by rw [List.length_append]; exact k1) k2
      rw [List.nil_append, ← List.map_append] at hr
      have hk10 := CellAt.only k3 (fun k hk e => by have hk : k < B := hk; omega) _ _ CK9.out
      rw [List.length_append] at hk10
      have SM := Lib.hid (sameTDs (d ++ m) _ _ w10 _ _ hk10 hr)
      have o10 := HO9.out.trans' k3 (fun q hq h => by have := HLW.out; omega)
      have HO10 := Lib.hid o10
      clear hr hk10 o10 k1 k2 k3 k4 G1 G2 CM9 CK9
      go_wp2_with fail
      refine SM.out.mono ?_
      rintro e w11 ⟨rfl, o11⟩
      have HO11 := Lib.hid (HO10.out.trans o11); clear o11
      go_wp2_with fail
      go_ret
      exact ⟨rfl, HO11.out.below (Nat.le_refl _) (fun _ _ h => h)⟩
end Go.Proofs.YtgephneppgcnlaaDoor
