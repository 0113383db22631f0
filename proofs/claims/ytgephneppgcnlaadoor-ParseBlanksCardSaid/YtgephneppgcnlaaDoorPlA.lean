/- Documents, in plain Lean: places change nothing but places. Documents, in plain Lean: fuel; what is read takes tokens (the rest). Documents, in plain Lean: other tokens in the place of the end. Documents, in plain Lean: tokens that end ahead of a closing sign. Tokens, in plain Lean: a closing sign parts a text; the end alone is of kind 0. The laws of documents that are cut short, and that are joined. Documents, in plain Lean: two texts, one behind the other. -/
import Derived.Test.YtgephneppgcnlaaDoorPrA
import Derived.Test.YtgephneppgcnlaaDoorEnR
import Derived.Test.YtgephneppgcnlaaDoorTkA
namespace Go.Proofs.YtgephneppgcnlaaDoor
set_option linter.unusedVariables false
set_option linter.unusedSimpArgs false

/-- The same tokens, at places that S relates. -/
def RelT (S : Nat → Nat → Prop) : List Tok → List Tok → Prop
  | [], [] => True
  | t :: r, t' :: r' => (t.kind = t'.kind ∧ t.text = t'.text ∧ t.n = t'.n ∧ S t.at_ t'.at_) ∧ RelT S r r'
  | _, _ => False
def SimP {α : Type} (S : Nat → Nat → Prop) : PR α → PR α → Prop
  | .ok x r, .ok x' r' => x = x' ∧ RelT S r r' ∧ EndR r
  | .bad a e, .bad a' e' => e = e' ∧ S a a'
  | _, _ => False
def Sim {α : Type} (f : List Tok → PR α) : Prop := ∀ S r r', RelT S r r' → EndR r → SimP S (f r) (f r')
theorem RelT.len {S : Nat → Nat → Prop} : ∀ {r r' : List Tok}, RelT S r r' → r.length = r'.length
  | [], [], _ => rfl
  | _ :: r, _ :: r', h => by have := RelT.len h.2; simp only [List.length_cons]; omega
  | [], _ :: _, h => h.elim
  | _ :: _, [], h => h.elim
theorem EndR.ne {r : List Tok} (h : EndR r) : ∃ t u, r = t :: u := by
  cases r with
  | nil => exact h.elim
  | cons t u => exact ⟨t, u, rfl⟩
theorem RelT.cons {S : Nat → Nat → Prop} {r r' : List Tok} (h : RelT S r r') (he : EndR r) : ∃ t u t' u', r = t :: u ∧ r' = t' :: u' ∧ t.kind = t'.kind ∧ t.text = t'.text ∧ t.n = t'.n ∧ S t.at_ t'.at_ ∧ RelT S u u' := by
  obtain ⟨t, u, rfl⟩ := he.ne
  cases r' with
  | nil => exact h.elim
  | cons t' u' => exact ⟨t, u, t', u', rfl, rfl, h.1.1, h.1.2.1, h.1.2.2.1, h.1.2.2.2, h.2⟩
theorem relT_isS {S : Nat → Nat → Prop} {r r' : List Tok} (h : RelT S r r') (he : EndR r) (s : List UInt8) : isS s r' = isS s r := by
  obtain ⟨t, u, t', u', rfl, rfl, h1, h2, -⟩ := h.cons he
  simp only [isS, h1, h2]
theorem relT_isW {S : Nat → Nat → Prop} {r r' : List Tok} (h : RelT S r r') (he : EndR r) (s : List UInt8) : isW s r' = isW s r := by
  obtain ⟨t, u, t', u', rfl, rfl, h1, h2, -⟩ := h.cons he
  simp only [isW, h1, h2]
theorem relT_isK {S : Nat → Nat → Prop} {r r' : List Tok} (h : RelT S r r') (he : EndR r) (k : Nat) : isK k r' = isK k r := by
  obtain ⟨t, u, t', u', rfl, rfl, h1, -⟩ := h.cons he
  simp only [isK, h1]
theorem relT_isT {S : Nat → Nat → Prop} {r r' : List Tok} (h : RelT S r r') (he : EndR r) (s : List UInt8) : isT s r' = isT s r := by
  unfold isT; rw [relT_isS h he, relT_isW h he]
theorem relT_at {S : Nat → Nat → Prop} {r r' : List Tok} (h : RelT S r r') (he : EndR r) : S (atT r) (atT r') := by
  obtain ⟨t, u, t', u', rfl, rfl, -, -, -, h4, -⟩ := h.cons he
  exact h4
theorem relT_tail {S : Nat → Nat → Prop} {r r' : List Tok} (h : RelT S r r') (he : EndR r) (hk : isK 0 r = false) : RelT S r.tail r'.tail ∧ EndR r.tail := by
  obtain ⟨t, u, t', u', rfl, rfl, h1, h2, h3, h4, h5⟩ := h.cons he
  exact ⟨h5, he.tail (by simpa [isK] using hk)⟩
theorem isS_k0 {s : List UInt8} {r : List Tok} (h : isS s r = true) : isK 0 r = false := by
  obtain ⟨t, u, rfl⟩ := isS_cons h
  simp only [isS, Bool.and_eq_true, decide_eq_true_eq] at h
  simp [isK, h.1]
theorem isT_k0 {s : List UInt8} {r : List Tok} (h : isT s r = true) : isK 0 r = false := by
  obtain ⟨t, u, rfl⟩ := isT_cons h
  simp only [isT, isS, isW, Bool.or_eq_true, Bool.and_eq_true, decide_eq_true_eq] at h
  rcases h with h | h <;> simp [isK, h.1]
theorem sim_bind {α β : Type} {S : Nat → Nat → Prop} {p p' : PR α} {f g : α → List Tok → PR β} (h : SimP S p p') (hf : ∀ x r r', RelT S r r' → EndR r → SimP S (f x r) (g x r')) : SimP S (p.bind f) (p'.bind g) := by
  cases p with
  | ok x r => cases p' with
    | ok x' r' => obtain ⟨rfl, h2, h3⟩ := h; exact hf x r r' h2 h3
    | bad a e => exact h.elim
  | bad a e => cases p' with
    | ok x' r' => exact h.elim
    | bad a' e' => exact h
theorem sim_if {α : Type} {S : Nat → Nat → Prop} {c c' : Bool} {p q p' q' : PR α} (hc : c' = c) (h1 : c = true → SimP S p p') (h2 : c = false → SimP S q q') : SimP S (if c then p else q) (if c' then p' else q') := by
  subst hc
  cases c' with
  | true => exact h1 rfl
  | false => exact h2 rfl
theorem want_sim (s : List UInt8) : Sim (wantP s) := fun S r r' h e => by
  unfold wantP
  refine sim_if (relT_isT h e s) (fun hs => ?_) (fun _ => ?_)
  · obtain ⟨h1, h2⟩ := relT_tail h e (isT_k0 hs); exact ⟨rfl, h1, h2⟩
  · exact ⟨rfl, relT_at h e⟩
theorem name_sim : Sim nameP := fun S r r' h e => by
  obtain ⟨t, u, t', u', rfl, rfl, h1, h2, h3, h4, h5⟩ := h.cons e
  show SimP S (if t.kind = 1 then .ok t.text u else .bad t.at_ 4) (if t'.kind = 1 then .ok t'.text u' else .bad t'.at_ 4)
  rw [h1, h2]
  split
  · rename_i hk
    exact ⟨rfl, h5, e.tail (by omega)⟩
  · exact ⟨rfl, h4⟩
theorem many_sim {α : Type} {f : List Tok → PR α} (hf : Sim f) (close : List UInt8) : ∀ (n : Nat) (acc : List α), Sim (manyP f close n acc)
  | 0, acc => fun S r r' h e => ⟨rfl, relT_at h e⟩
  | n + 1, acc => fun S r r' h e => by
    rw [manyP, manyP]
    exact sim_bind (hf S r r' h e) fun x r1 r1' h e => sim_if (relT_isT h e close) (fun hs => by obtain ⟨h1, h2⟩ := relT_tail h e (isT_k0 hs); exact ⟨rfl, h1, h2⟩) (fun _ => many_sim hf close n _ S _ _ h e)
theorem any_sim {α : Type} {f : List Tok → PR α} (hf : Sim f) (close : List UInt8) : ∀ (n : Nat) (acc : List α), Sim (anyP f close n acc)
  | 0, acc => fun S r r' h e => ⟨rfl, relT_at h e⟩
  | n + 1, acc => fun S r r' h e => by
    rw [anyP, anyP]
    exact sim_if (relT_isT h e close) (fun hs => by obtain ⟨h1, h2⟩ := relT_tail h e (isT_k0 hs); exact ⟨rfl, h1, h2⟩) (fun _ => sim_bind (hf S r r' h e) fun x r1 r1' h e => any_sim hf close n _ S _ _ h e)
theorem pair_sim {f : List Tok → PR VT} (hf : Sim f) : Sim (pairP f) := fun S r r' h e => sim_bind (name_sim S r r' h e) fun s r1 r1' h e => sim_bind (want_sim _ S r1 r1' h e) fun _ r2 r2' h e => sim_bind (hf S r2 r2' h e) fun v r3 r3' h e => ⟨rfl, h, e⟩
theorem valueB_eqn (fixed : Bool) (f : List Tok → PR VT) (t : Tok) (r : List Tok) : valueB fixed f (t :: r) =
    if t.kind = 2 then .ok (.mk 1 t.n [] [] []) r
    else if t.kind = 3 then .ok (.mk 2 0 t.text [] []) r
    else if isT wTrue (t :: r) then .ok (.mk 3 1 [] [] []) r
    else if isT wFalse (t :: r) then .ok (.mk 3 0 [] [] []) r
    else if isT wNull (t :: r) then .ok VT.zero r
    else if t.kind = 1 then .ok (.mk 4 0 t.text [] []) r
    else if !fixed && isT [36] (t :: r) then (nameP r).bind fun s r1 => .ok (.mk 7 0 s [] []) r1
    else if isT [91] (t :: r) then (anyP f [93] (r.length + 1) [] r).bind fun vs r1 => .ok (.mk 5 0 [] [] vs) r1
    else if isT [123] (t :: r) then (anyP (pairP f) [125] (r.length + 1) [] r).bind fun ps r1 => .ok (.mk 6 0 [] (ps.map (·.1)) (ps.map (·.2))) r1
    else .bad t.at_ 4 := rfl
theorem valueB_sim (fixed : Bool) {f : List Tok → PR VT} (hf : Sim f) : Sim (valueB fixed f) := fun S r r' h e => by
  have hT := fun s => relT_isT h e s
  obtain ⟨t, u, t', u', rfl, rfl, h1, h2, h3, h4, h5⟩ := h.cons e
  have hl := h5.len
  rw [valueB_eqn, valueB_eqn, hT, hT, hT, hT, hT, hT, ← h1, ← h2, ← h3, ← hl]
  have hu : isT wTrue (t :: u) = true ∨ isT wFalse (t :: u) = true ∨ isT wNull (t :: u) = true ∨ isT [36] (t :: u) = true ∨ isT [91] (t :: u) = true ∨ isT [123] (t :: u) = true → EndR u := fun hh => by
    have : isK 0 (t :: u) = false := by rcases hh with hh | hh | hh | hh | hh | hh <;> exact isT_k0 hh
    exact e.tail (by simpa [isK] using this)
  split
  · exact ⟨rfl, h5, e.tail (by omega)⟩
  · split
    · exact ⟨rfl, h5, e.tail (by omega)⟩
    · split
      · rename_i hh; exact ⟨rfl, h5, hu (.inl hh)⟩
      · split
        · rename_i hh; exact ⟨rfl, h5, hu (.inr (.inl hh))⟩
        · split
          · rename_i hh; exact ⟨rfl, h5, hu (.inr (.inr (.inl hh)))⟩
          · split
            · exact ⟨rfl, h5, e.tail (by omega)⟩
            · split
              · rename_i hh
                simp only [Bool.and_eq_true] at hh
                exact sim_bind (name_sim S u u' h5 (hu (.inr (.inr (.inr (.inl hh.2)))))) fun s r1 r1' h e => ⟨rfl, h, e⟩
              · split
                · rename_i hh
                  exact sim_bind (any_sim hf _ _ _ S u u' h5 (hu (.inr (.inr (.inr (.inr (.inl hh))))))) fun s r1 r1' h e => ⟨rfl, h, e⟩
                · split
                  · rename_i hh
                    exact sim_bind (any_sim (pair_sim hf) _ _ _ S u u' h5 (hu (.inr (.inr (.inr (.inr (.inr hh))))))) fun s r1 r1' h e => ⟨rfl, h, e⟩
                  · exact ⟨rfl, h4⟩
theorem value_sim (fixed : Bool) : ∀ d, Sim (valueP fixed d)
  | 0 => fun S r r' h e => ⟨rfl, relT_at h e⟩
  | d + 1 => valueB_sim fixed (value_sim fixed d)
theorem bang_sim (mk : Bool → TR) : Sim (bangP mk) := fun S r r' h e => by
  unfold bangP
  exact sim_if (relT_isT h e _) (fun hs => by obtain ⟨h1, h2⟩ := relT_tail h e (isT_k0 hs); exact ⟨rfl, h1, h2⟩) (fun _ => ⟨rfl, h, e⟩)
theorem typ_sim : ∀ d, Sim (typP d)
  | 0 => fun S r r' h e => ⟨rfl, relT_at h e⟩
  | d + 1 => fun S r r' h e => by
    rw [typP, typP]
    refine sim_if (relT_isT h e _) (fun hs => ?_) (fun _ => ?_)
    · obtain ⟨h1, h2⟩ := relT_tail h e (isT_k0 hs)
      exact sim_bind (typ_sim d S _ _ h1 h2) fun t r1 r1' h e => sim_bind (want_sim _ S _ _ h e) fun _ r2 r2' h e => bang_sim _ S _ _ h e
    · exact sim_bind (name_sim S _ _ h e) fun s r1 r1' h e => bang_sim _ S _ _ h e
theorem arg_sim (d : Nat) : Sim (argP d) := fun S r r' h e => sim_bind (name_sim S _ _ h e) fun s r1 r1' h e => sim_bind (want_sim _ S _ _ h e) fun _ r2 r2' h e => sim_bind (value_sim _ _ S _ _ h e) fun v r3 r3' h e => ⟨rfl, h, e⟩
theorem args_sim (d : Nat) : Sim (argsP d) := fun S r r' h e => by
  unfold argsP
  rw [h.len]
  refine sim_if (relT_isS h e _) (fun hs => ?_) (fun _ => ⟨rfl, h, e⟩)
  obtain ⟨h1, h2⟩ := relT_tail h e (isS_k0 hs)
  exact many_sim (arg_sim d) _ _ _ S _ _ h1 h2
theorem dir_sim (d : Nat) : Sim (dirP d) := fun S r r' h e => sim_bind (name_sim S _ _ h e) fun s r1 r1' h e => sim_bind (args_sim d S _ _ h e) fun v r3 r3' h e => ⟨rfl, h, e⟩
theorem dirs_sim (d : Nat) : ∀ (n : Nat) (acc : List DR), Sim (dirsP d n acc)
  | 0, acc => fun S r r' h e => ⟨rfl, relT_at h e⟩
  | n + 1, acc => fun S r r' h e => by
    rw [dirsP, dirsP]
    refine sim_if (relT_isT h e _) (fun hs => ?_) (fun _ => ⟨rfl, h, e⟩)
    obtain ⟨h1, h2⟩ := relT_tail h e (isT_k0 hs)
    exact sim_bind (dir_sim d S _ _ h1 h2) fun x r1 r1' h e => dirs_sim d n _ S _ _ h e
theorem sel_sim (d : Nat) {g : List Tok → PR (List SL)} (hg : Sim g) : Sim (selP d g) := fun S r r' h e => by
  unfold selP
  refine sim_if (relT_isT h e _) (fun hs => ?_) (fun _ => ?_)
  · obtain ⟨h, e⟩ := relT_tail h e (isT_k0 hs)
    refine sim_if (relT_isT h e _) (fun hs => ?_) (fun _ => sim_if (relT_isK h e _) (fun hk => ?_) (fun _ => ?_))
    · obtain ⟨h, e⟩ := relT_tail h e (isT_k0 hs)
      exact sim_bind (name_sim S _ _ h e) fun s r1 r1' h e => by rw [h.len]; exact sim_bind (dirs_sim d _ _ S _ _ h e) fun ds r2 r2' h e => sim_bind (hg S _ _ h e) fun sub r3 r3' h e => ⟨rfl, h, e⟩
    · exact sim_bind (name_sim S _ _ h e) fun s r1 r1' h e => by rw [h.len]; exact sim_bind (dirs_sim d _ _ S _ _ h e) fun ds r2 r2' h e => ⟨rfl, h, e⟩
    · rw [h.len]
      exact sim_bind (dirs_sim d _ _ S _ _ h e) fun ds r2 r2' h e => sim_bind (hg S _ _ h e) fun sub r3 r3' h e => ⟨rfl, h, e⟩
  · refine sim_bind (name_sim S _ _ h e) fun s r1 r1' h e => sim_bind (sim_if (relT_isT h e _) (fun hs => ?_) (fun _ => ⟨rfl, h, e⟩)) fun p r2 r2' h e => sim_bind (args_sim d S _ _ h e) fun gs r3 r3' h e => ?_
    · obtain ⟨h, e⟩ := relT_tail h e (isT_k0 hs)
      exact sim_bind (name_sim S _ _ h e) fun s r1 r1' h e => ⟨rfl, h, e⟩
    · rw [h.len]
      exact sim_bind (dirs_sim d _ _ S _ _ h e) fun ds r4 r4' h e => sim_bind (sim_if (relT_isS h e _) (fun _ => hg S _ _ h e) (fun _ => ⟨rfl, h, e⟩)) fun sub r5 r5' h e => ⟨rfl, h, e⟩
theorem set_sim : ∀ d, Sim (setP d)
  | 0 => fun S r r' h e => ⟨rfl, relT_at h e⟩
  | d + 1 => fun S r r' h e => by
    rw [setP, setP]
    exact sim_bind (want_sim _ S _ _ h e) fun _ r1 r1' h e => by rw [h.len]; exact many_sim (sel_sim d (set_sim d)) _ _ _ S _ _ h e
theorem var_sim : Sim varP := fun S r r' h e => by
  unfold varP
  refine sim_bind (want_sim _ S _ _ h e) fun _ r1 r1' h e => sim_bind (name_sim S _ _ h e) fun s r2 r2' h e => sim_bind (want_sim _ S _ _ h e) fun _ r3 r3' h e => sim_bind (typ_sim _ S _ _ h e) fun t r4 r4' h e => sim_if (relT_isT h e _) (fun hs => ?_) (fun _ => ⟨rfl, h, e⟩)
  obtain ⟨h, e⟩ := relT_tail h e (isT_k0 hs)
  exact sim_bind (value_sim _ _ S _ _ h e) fun v r5 r5' h e => ⟨rfl, h, e⟩
theorem isW_k0 {s : List UInt8} {r : List Tok} (h : isW s r = true) : isK 0 r = false := isT_k0 (s := s) (by unfold isT; rw [h, Bool.or_true])
theorem op_sim : Sim opP := fun S r r' h e => by
  unfold opP
  refine sim_bind (sim_if (relT_isT h e _) (fun hs => ?_) (fun _ => ?_)) fun m r1 r1' h e => sim_bind (sim_if (relT_isK h e _) (fun _ => name_sim S _ _ h e) (fun _ => ⟨rfl, h, e⟩)) fun s r2 r2' h e => sim_bind (?_) fun vs r3 r3' h e => sim_bind (set_sim _ S _ _ h e) fun sub r4 r4' h e => ⟨rfl, h, e⟩
  · obtain ⟨h, e⟩ := relT_tail h e (isT_k0 hs); exact ⟨rfl, h, e⟩
  · exact sim_bind (want_sim _ S _ _ h e) fun _ r1 r1' h e => ⟨rfl, h, e⟩
  · rw [h.len]
    refine sim_if (relT_isS h e _) (fun hs => ?_) (fun _ => ⟨rfl, h, e⟩)
    obtain ⟨h, e⟩ := relT_tail h e (isS_k0 hs)
    exact many_sim var_sim _ _ _ S _ _ h e
theorem frag_sim : Sim fragP := fun S r r' h e => by
  unfold fragP
  exact sim_if (relT_isW h e _) (fun _ => ⟨rfl, relT_at h e⟩) (fun _ => sim_bind (name_sim S _ _ h e) fun s r1 r1' h e => sim_bind (want_sim _ S _ _ h e) fun _ r2 r2' h e => sim_bind (name_sim S _ _ h e) fun o r3 r3' h e => sim_bind (set_sim _ S _ _ h e) fun sub r4 r4' h e => ⟨rfl, h, e⟩)
theorem def_sim (d : DC) : Sim (defP d) := fun S r r' h e => by
  unfold defP
  refine sim_if (relT_isS h e _) (fun _ => ?_) (fun _ => sim_if (relT_isT h e _) (fun hs => ?_) (fun _ => ?_))
  · exact sim_bind (set_sim _ S _ _ h e) fun sub r1 r1' h e => ⟨rfl, h, e⟩
  · obtain ⟨h, e⟩ := relT_tail h e (isT_k0 hs)
    exact sim_bind (frag_sim S _ _ h e) fun f r1 r1' h e => ⟨rfl, h, e⟩
  · exact sim_bind (op_sim S _ _ h e) fun f r1 r1' h e => ⟨rfl, h, e⟩
theorem doc_sim : ∀ (n : Nat) (d : DC), Sim (docF n d)
  | 0, d => fun S r r' h e => ⟨rfl, relT_at h e⟩
  | n + 1, d => fun S r r' h e => by
    rw [docF, docF]
    exact sim_bind (def_sim d S _ _ h e) fun d1 r1 r1' h e => sim_if (relT_isK h e _) (fun _ => ⟨rfl, h, e⟩) (fun _ => doc_sim n d1 S _ _ h e)
end Go.Proofs.YtgephneppgcnlaaDoor
namespace Go.Proofs.YtgephneppgcnlaaDoor
set_option linter.unusedVariables false
set_option linter.unusedSimpArgs false

/-! ### Fuel beyond the tokens changes nothing -/
theorem bind_congr {α β : Type} {p : PR α} {f g : α → List Tok → PR β} (h : ∀ x r, p = .ok x r → f x r = g x r) : p.bind f = p.bind g := by
  cases p with
  | ok x r => exact h x r rfl
  | bad a e => rfl
theorem many_more {α : Type} {f : List Tok → PR α} (hf : Takes f) (close : List UInt8) : ∀ (n m : Nat) (acc : List α) (r : List Tok), r.length < n → r.length < m → manyP f close n acc r = manyP f close m acc r
  | 0, _, _, _, h, _ => absurd h (by omega)
  | _ + 1, 0, _, _, _, h => absurd h (by omega)
  | n + 1, m + 1, acc, r, h1, h2 => by
    rw [manyP, manyP]
    refine bind_congr fun x r1 hx => ?_
    have := hf _ _ _ hx
    rw [many_more hf close n m _ _ (by omega) (by omega)]
theorem any_more {α : Type} {f : List Tok → PR α} (hf : Takes f) (close : List UInt8) : ∀ (n m : Nat) (acc : List α) (r : List Tok), r.length < n → r.length < m → anyP f close n acc r = anyP f close m acc r
  | 0, _, _, _, h, _ => absurd h (by omega)
  | _ + 1, 0, _, _, _, h => absurd h (by omega)
  | n + 1, m + 1, acc, r, h1, h2 => by
    rw [anyP, anyP]
    split
    · rfl
    refine bind_congr fun x r1 hx => ?_
    have := hf _ _ _ hx
    rw [any_more hf close n m _ _ (by omega) (by omega)]
theorem dirs_more (d : Nat) : ∀ (n m : Nat) (acc : List DR) (r : List Tok), r.length < n → r.length < m → dirsP d n acc r = dirsP d m acc r
  | 0, _, _, _, h, _ => absurd h (by omega)
  | _ + 1, 0, _, _, _, h => absurd h (by omega)
  | n + 1, m + 1, acc, r, h1, h2 => by
    rw [dirsP, dirsP]
    split
    · rename_i hs
      have h0 := isT_len hs
      refine bind_congr fun x r1 hx => ?_
      have := dirP_takes d _ _ _ hx
      rw [dirs_more d n m _ _ (by omega) (by omega)]
    · rfl
theorem defP_takes' (d : DC) : Takes (defP d) := fun r x r1 h => by
  unfold defP at h
  split at h
  · obtain ⟨sub, r2, k1, h⟩ := bind_inv h
    injection h with _ h; subst h
    exact setP_takes _ _ _ _ k1
  · split at h
    · rename_i hs
      obtain ⟨sub, r2, k1, h⟩ := bind_inv h
      injection h with _ h; subst h
      have := isT_len hs; have := fragP_takes _ _ _ k1
      omega
    · obtain ⟨sub, r2, k1, h⟩ := bind_inv h
      injection h with _ h; subst h
      exact opP_takes _ _ _ k1
theorem doc_more : ∀ (n m : Nat) (acc : DC) (r : List Tok), r.length < n → r.length < m → docF n acc r = docF m acc r
  | 0, _, _, _, h, _ => absurd h (by omega)
  | _ + 1, 0, _, _, _, h => absurd h (by omega)
  | n + 1, m + 1, acc, r, h1, h2 => by
    rw [docF, docF]
    refine bind_congr fun x r1 hx => ?_
    have := defP_takes' acc _ _ _ hx
    rw [doc_more n m _ _ (by omega) (by omega)]

end Go.Proofs.YtgephneppgcnlaaDoor
namespace Go.Proofs.YtgephneppgcnlaaDoor
set_option linter.unusedVariables false
set_option linter.unusedSimpArgs false

/-- pre's tokens, and then the end; or, in its place, tl. Where a token of pre is left, both go on alike. -/
def JnP {α : Type} (E : Tok) (tl pre : List Tok) (p p' : PR α) : Prop := match p with
  | .bad _ _ => True
  | .ok x r1 => ∃ u, u <:+ pre ∧ r1 = u ++ [E] ∧ (u ≠ [] → p' = .ok x (u ++ tl))
/-- The same where nothing is looked at behind the last token that is taken. -/
def JcP {α : Type} (E : Tok) (tl pre : List Tok) (p p' : PR α) : Prop := match p with
  | .bad _ _ => True
  | .ok x r1 => ∃ u, u <:+ pre ∧ u.length < pre.length ∧ r1 = u ++ [E] ∧ p' = .ok x (u ++ tl)
variable {E : Tok} {tl : List Tok}
theorem JcP.jn {α : Type} {pre : List Tok} {p p' : PR α} (h : JcP E tl pre p p') : JnP E tl pre p p' := by
  cases p with
  | bad a e => trivial
  | ok x r => obtain ⟨u, h1, h2, h3, h4⟩ := h; exact ⟨u, h1, h3, fun _ => h4⟩
theorem JnP.weak {α : Type} {a b : List Tok} (hs : a <:+ b) {p p' : PR α} (h : JnP E tl a p p') : JnP E tl b p p' := by
  cases p with
  | bad a e => trivial
  | ok x r => obtain ⟨u, h1, h3, h4⟩ := h; exact ⟨u, h1.trans hs, h3, h4⟩
theorem JcP.weak {α : Type} {a b : List Tok} (hs : a <:+ b) {p p' : PR α} (h : JcP E tl a p p') : JcP E tl b p p' := by
  cases p with
  | bad a e => trivial
  | ok x r => obtain ⟨u, h1, h2, h3, h4⟩ := h; exact ⟨u, h1.trans hs, Nat.lt_of_lt_of_le h2 hs.length_le, h3, h4⟩
theorem JnP.ok {α : Type} (x : α) (pre : List Tok) : JnP E tl pre (.ok x (pre ++ [E])) (.ok x (pre ++ tl)) := ⟨pre, List.suffix_refl _, rfl, fun _ => rfl⟩
theorem JcP.ok {α : Type} (x : α) (a : Tok) (pre : List Tok) : JcP E tl (a :: pre) (.ok x (pre ++ [E])) (.ok x (pre ++ tl)) := ⟨pre, List.suffix_cons _ _, by simp, rfl, rfl⟩
theorem jn_bind {α β : Type} {pre : List Tok} {p p' : PR α} {f g : α → List Tok → PR β} (h : JnP E tl pre p p') (hf : ∀ x u, JnP E tl u (f x (u ++ [E])) (g x (u ++ tl))) : JnP E tl pre (p.bind f) (p'.bind g) := by
  cases p with
  | bad a e => trivial
  | ok x r1 =>
    obtain ⟨u, h1, rfl, h3⟩ := h
    have hq := hf x u
    show JnP E tl pre (f x (u ++ [E])) _
    cases hx : f x (u ++ [E]) with
    | bad a e => trivial
    | ok y r2 =>
      rw [hx] at hq
      obtain ⟨v, k1, rfl, k3⟩ := hq
      refine ⟨v, k1.trans h1, rfl, fun hv => ?_⟩
      have hu : u ≠ [] := fun e => by subst e; exact hv (List.suffix_nil.1 k1)
      rw [h3 hu]; exact k3 hv
theorem jc_bind {α β : Type} {pre : List Tok} {p p' : PR α} {f g : α → List Tok → PR β} (h : JnP E tl pre p p') (hf : ∀ x u, JcP E tl u (f x (u ++ [E])) (g x (u ++ tl))) : JcP E tl pre (p.bind f) (p'.bind g) := by
  cases p with
  | bad a e => trivial
  | ok x r1 =>
    obtain ⟨u, h1, rfl, h3⟩ := h
    have hq := hf x u
    show JcP E tl pre (f x (u ++ [E])) _
    cases hx : f x (u ++ [E]) with
    | bad a e => trivial
    | ok y r2 =>
      rw [hx] at hq
      obtain ⟨v, k1, k2, rfl, k3⟩ := hq
      have hu : u ≠ [] := fun e => by subst e; simp at k2
      refine ⟨v, k1.trans h1, Nat.lt_of_lt_of_le k2 h1.length_le, rfl, ?_⟩
      rw [h3 hu]; exact k3
theorem jc_map {α β : Type} {pre : List Tok} {p p' : PR α} {h : α → β} (hp : JcP E tl pre p p') : JcP E tl pre (p.bind fun x r => .ok (h x) r) (p'.bind fun x r => .ok (h x) r) := by
  cases p with
  | bad a e => trivial
  | ok x r1 =>
    obtain ⟨u, h1, h2, rfl, rfl⟩ := hp
    exact ⟨u, h1, h2, rfl, rfl⟩
theorem jn_map {α β : Type} {pre : List Tok} {p p' : PR α} {h : α → β} (hp : JnP E tl pre p p') : JnP E tl pre (p.bind fun x r => .ok (h x) r) (p'.bind fun x r => .ok (h x) r) := jn_bind hp fun x u => .ok _ _
/-- A test that sees the next token alone, and not the end. -/
structure Tst (E : Tok) (τ : List Tok → Bool) : Prop where
  no : τ [E] = false
  hd : ∀ a r r', τ (a :: r) = τ (a :: r')
theorem tst_S (h0 : E.kind = 0) (s : List UInt8) : Tst E (isS s) := ⟨by simp [isS, h0], fun _ _ _ => rfl⟩
theorem tst_W (h0 : E.kind = 0) (s : List UInt8) : Tst E (isW s) := ⟨by simp [isW, h0], fun _ _ _ => rfl⟩
theorem tst_T (h0 : E.kind = 0) (s : List UInt8) : Tst E (isT s) := ⟨by simp [isT, isS, isW, h0], fun _ _ _ => rfl⟩
theorem tst_K (h0 : E.kind = 0) : Tst E (isK 1) := ⟨by simp [isK, h0], fun _ _ _ => rfl⟩
theorem jn_if {α : Type} {τ : List Tok → Bool} (T : Tst E τ) {pre : List Tok} {p p' q q' : PR α} (h1 : ∀ a u, pre = a :: u → τ (pre ++ [E]) = true → JnP E tl pre p p') (h2 : JnP E tl pre q q') : JnP E tl pre (if τ (pre ++ [E]) then p else q) (if τ (pre ++ tl) then p' else q') := by
  cases pre with
  | nil =>
    rw [List.nil_append, if_neg (by rw [T.no]; decide)]
    cases q with
    | bad a e => trivial
    | ok x r =>
      obtain ⟨u, k1, k2, k3⟩ := h2
      have := List.suffix_nil.1 k1; subst this
      exact ⟨[], List.suffix_refl _, k2, fun h => absurd rfl h⟩
  | cons a u =>
    rw [List.cons_append, List.cons_append, T.hd a (u ++ tl) (u ++ [E])]
    split
    · rename_i hc; exact h1 a u rfl hc
    · exact h2
theorem jc_if {α : Type} {τ : List Tok → Bool} (T : Tst E τ) {pre : List Tok} {p p' q q' : PR α} (h1 : ∀ a u, pre = a :: u → τ (pre ++ [E]) = true → JcP E tl pre p p') (h2 : JcP E tl pre q q') : JcP E tl pre (if τ (pre ++ [E]) then p else q) (if τ (pre ++ tl) then p' else q') := by
  cases pre with
  | nil =>
    rw [List.nil_append, if_neg (by rw [T.no]; decide)]
    cases q with
    | bad a e => trivial
    | ok x r =>
      obtain ⟨u, k1, k2, -⟩ := h2
      simp at k2
  | cons a u =>
    rw [List.cons_append, List.cons_append, T.hd a (u ++ tl) (u ++ [E])]
    split
    · rename_i hc; exact h1 a u rfl hc
    · exact h2
theorem want_jc (h0 : E.kind = 0) (s : List UInt8) (pre : List Tok) : JcP E tl pre (wantP s (pre ++ [E])) (wantP s (pre ++ tl)) := by
  unfold wantP
  refine jc_if (tst_T h0 s) (fun a u e _ => ?_) trivial
  subst e; exact .ok _ _ _
theorem name_jc (h0 : E.kind = 0) (pre : List Tok) : JcP E tl pre (nameP (pre ++ [E])) (nameP (pre ++ tl)) := by
  cases pre with
  | nil =>
    show JcP E tl [] (if E.kind = 1 then PR.ok E.text [] else .bad E.at_ 4) _
    rw [if_neg (by omega)]; trivial
  | cons a u =>
    show JcP E tl (a :: u) (if a.kind = 1 then PR.ok a.text (u ++ [E]) else .bad a.at_ 4) (if a.kind = 1 then PR.ok a.text (u ++ tl) else .bad a.at_ 4)
    split
    · exact .ok _ _ _
    · trivial
theorem many_jc {α : Type} (h0 : E.kind = 0) {f : List Tok → PR α} (hf : ∀ u, JnP E tl u (f (u ++ [E])) (f (u ++ tl))) (hl : Takes f) (close : List UInt8) : ∀ (n : Nat) (acc : List α) (pre : List Tok) (m : Nat), (pre ++ [E]).length < n → (pre ++ tl).length < m → JcP E tl pre (manyP f close n acc (pre ++ [E])) (manyP f close m acc (pre ++ tl))
  | 0, _, _, _, h, _ => absurd h (by omega)
  | _ + 1, _, _, 0, _, h => absurd h (by omega)
  | n + 1, acc, pre, m + 1, h1, h2 => by
    rw [manyP, manyP]
    have hq := hf pre
    cases hx : f (pre ++ [E]) with
    | bad a e => trivial
    | ok x r1 =>
      have hlx := hl _ _ _ hx
      rw [hx] at hq
      obtain ⟨u, k1, rfl, k3⟩ := hq
      have ht := tst_T h0 close (E := E)
      show JcP E tl pre (if isT close (u ++ [E]) then PR.ok (acc ++ [x]) (u ++ [E]).tail else manyP f close n (acc ++ [x]) (u ++ [E])) _
      cases u with
      | nil =>
        rw [List.nil_append, if_neg (by rw [ht.no]; decide)]
        cases hz : manyP f close n (acc ++ [x]) [E] with
        | bad a e => trivial
        | ok y r2 =>
          exfalso
          cases n with
          | zero => cases hz
          | succ n =>
            rw [manyP] at hz
            obtain ⟨x2, r3, k4, -⟩ := bind_inv hz
            have h5 := hl _ _ _ k4
            have h6 := hf []
            rw [List.nil_append, k4] at h6
            obtain ⟨v, -, e, -⟩ := h6
            subst e; simp at h5
      | cons a u =>
        have h' := k3 (by simp)
        have hly := hl _ _ _ h'
        rw [h']
        show JcP E tl pre _ (if isT close (a :: u ++ tl) then PR.ok (acc ++ [x]) (a :: u ++ tl).tail else manyP f close m (acc ++ [x]) (a :: u ++ tl))
        refine JcP.weak k1 (jc_if ht (fun b w e _ => ?_) (many_jc h0 hf hl close n _ (a :: u) m (by omega) (by omega)))
        exact .ok _ _ _
theorem any_jc {α : Type} (h0 : E.kind = 0) {f : List Tok → PR α} (hf : ∀ u, JnP E tl u (f (u ++ [E])) (f (u ++ tl))) (hl : Takes f) (close : List UInt8) : ∀ (n : Nat) (acc : List α) (pre : List Tok) (m : Nat), (pre ++ [E]).length < n → (pre ++ tl).length < m → JcP E tl pre (anyP f close n acc (pre ++ [E])) (anyP f close m acc (pre ++ tl))
  | 0, _, _, _, h, _ => absurd h (by omega)
  | _ + 1, _, _, 0, _, h => absurd h (by omega)
  | n + 1, acc, pre, m + 1, h1, h2 => by
    rw [anyP, anyP]
    refine jc_if (tst_T h0 close) (fun a u e _ => by subst e; exact .ok _ _ _) ?_
    have hq := hf pre
    cases hx : f (pre ++ [E]) with
    | bad a e => trivial
    | ok x r1 =>
      have hlx := hl _ _ _ hx
      rw [hx] at hq
      obtain ⟨u, k1, rfl, k3⟩ := hq
      show JcP E tl pre (anyP f close n (acc ++ [x]) (u ++ [E])) _
      cases u with
      | nil =>
        cases hz : anyP f close n (acc ++ [x]) ([] ++ [E]) with
        | bad a e => trivial
        | ok y r2 =>
          exfalso
          cases n with
          | zero => cases hz
          | succ n =>
            rw [anyP, List.nil_append, if_neg (by rw [(tst_T h0 close (E := E)).no]; decide)] at hz
            obtain ⟨x2, r3, k4, -⟩ := bind_inv hz
            have h5 := hl _ _ _ k4
            have h6 := hf []
            rw [List.nil_append, k4] at h6
            obtain ⟨v, -, e, -⟩ := h6
            subst e; simp at h5
      | cons a u =>
        have h' := k3 (by simp)
        have hly := hl _ _ _ h'
        rw [h']
        exact JcP.weak k1 (any_jc h0 hf hl close n _ (a :: u) m (by omega) (by omega))
theorem pair_jc (h0 : E.kind = 0) {f : List Tok → PR VT} (hf : ∀ u, JcP E tl u (f (u ++ [E])) (f (u ++ tl))) (pre : List Tok) : JcP E tl pre (pairP f (pre ++ [E])) (pairP f (pre ++ tl)) :=
  jc_bind (name_jc h0 pre).jn fun s u => jc_bind (want_jc h0 _ u).jn fun _ u => jc_map (hf u)
theorem valueB_jc (h0 : E.kind = 0) (fixed : Bool) {f : List Tok → PR VT} (hf : ∀ u, JcP E tl u (f (u ++ [E])) (f (u ++ tl))) (hl : Takes f) (pre : List Tok) : JcP E tl pre (valueB fixed f (pre ++ [E])) (valueB fixed f (pre ++ tl)) := by
  cases pre with
  | nil =>
    have hn : ∀ s, isT s [E] = false := fun s => (tst_T h0 s).no
    rw [List.nil_append, valueB_eqn]
    rw [if_neg (by omega), if_neg (by omega), if_neg (by rw [hn]; decide), if_neg (by rw [hn]; decide), if_neg (by rw [hn]; decide), if_neg (by omega), if_neg (by rw [hn, Bool.and_false]; decide), if_neg (by rw [hn]; decide), if_neg (by rw [hn]; decide)]
    trivial
  | cons a u =>
    rw [List.cons_append, List.cons_append, valueB_eqn, valueB_eqn]
    have hT : ∀ s, isT s (a :: (u ++ tl)) = isT s (a :: (u ++ [E])) := fun s => rfl
    rw [hT, hT, hT, hT, hT, hT]
    have ws : u <:+ a :: u := List.suffix_cons _ _
    split
    · exact .ok _ _ _
    · split
      · exact .ok _ _ _
      · split
        · exact .ok _ _ _
        · split
          · exact .ok _ _ _
          · split
            · exact .ok _ _ _
            · split
              · exact .ok _ _ _
              · split
                · exact (jc_map (name_jc h0 u)).weak ws
                · split
                  · exact (jc_map (any_jc h0 (fun u => (hf u).jn) hl _ _ _ u _ (by omega) (by omega))).weak ws
                  · split
                    · exact (jc_map (any_jc h0 (fun u => (pair_jc h0 hf u).jn) (pairP_takes hl) _ _ _ u _ (by omega) (by omega))).weak ws
                    · trivial
theorem value_jc (h0 : E.kind = 0) (fixed : Bool) : ∀ d pre, JcP E tl pre (valueP fixed d (pre ++ [E])) (valueP fixed d (pre ++ tl))
  | 0, pre => trivial
  | d + 1, pre => valueB_jc h0 fixed (value_jc h0 fixed d) (valueP_takes fixed d) pre
theorem bang_jn (h0 : E.kind = 0) (mk : Bool → TR) (pre : List Tok) : JnP E tl pre (bangP mk (pre ++ [E])) (bangP mk (pre ++ tl)) := by
  unfold bangP
  exact jn_if (tst_T h0 _) (fun a u e _ => by subst e; exact (JcP.ok _ _ _).jn) (.ok _ _)
theorem typ_jn (h0 : E.kind = 0) : ∀ d pre, JnP E tl pre (typP d (pre ++ [E])) (typP d (pre ++ tl))
  | 0, pre => trivial
  | d + 1, pre => by
    rw [typP, typP]
    refine jn_if (tst_T h0 _) (fun a u e _ => ?_) (jn_bind (name_jc h0 pre).jn fun _ u => bang_jn h0 _ u)
    subst e
    exact JnP.weak (List.suffix_cons _ _) (jn_bind (typ_jn h0 d u) fun t u => jn_bind (want_jc h0 _ u).jn fun _ u => bang_jn h0 _ u)
theorem arg_jc (h0 : E.kind = 0) (d : Nat) (pre : List Tok) : JcP E tl pre (argP d (pre ++ [E])) (argP d (pre ++ tl)) :=
  jc_bind (name_jc h0 pre).jn fun s u => jc_bind (want_jc h0 _ u).jn fun _ u => jc_map (value_jc h0 _ _ u)
theorem args_jn (h0 : E.kind = 0) (d : Nat) (pre : List Tok) : JnP E tl pre (argsP d (pre ++ [E])) (argsP d (pre ++ tl)) := by
  unfold argsP
  refine jn_if (tst_S h0 _) (fun a u e _ => ?_) (.ok _ _)
  subst e
  exact JnP.weak (List.suffix_cons _ _) (many_jc h0 (fun u => (arg_jc h0 d u).jn) (argP_takes d) _ _ _ u _ (by simp <;> omega) (by simp <;> omega)).jn
theorem dir_jn (h0 : E.kind = 0) (d : Nat) (pre : List Tok) : JnP E tl pre (dirP d (pre ++ [E])) (dirP d (pre ++ tl)) :=
  jn_bind (name_jc h0 pre).jn fun s u => jn_map (args_jn h0 d u)
theorem dirs_jn' (h0 : E.kind = 0) (d : Nat) : ∀ (n : Nat) (acc : List DR) (pre : List Tok) (m : Nat), (pre ++ [E]).length < n → (pre ++ tl).length < m → JnP E tl pre (dirsP d n acc (pre ++ [E])) (dirsP d m acc (pre ++ tl))
  | 0, _, _, _, h, _ => absurd h (by omega)
  | _ + 1, _, _, 0, _, h => absurd h (by omega)
  | n + 1, acc, pre, m + 1, h1, h2 => by
    rw [dirsP, dirsP]
    refine jn_if (tst_T h0 _) (fun a u e _ => ?_) (.ok _ _)
    subst e
    refine JnP.weak (List.suffix_cons _ _) ?_
    show JnP E tl u ((dirP d (u ++ [E])).bind fun x r1 => dirsP d n (acc ++ [x]) r1) ((dirP d (u ++ tl)).bind fun x r1 => dirsP d m (acc ++ [x]) r1)
    simp only [List.cons_append, List.length_cons] at h1 h2
    have hq := dir_jn h0 d (tl := tl) u
    cases hx : dirP d (u ++ [E]) with
    | bad a e => trivial
    | ok x r1 =>
      have hlx := dirP_takes d _ _ _ hx
      rw [hx] at hq
      obtain ⟨v, k1, rfl, k3⟩ := hq
      show JnP E tl u (dirsP d n (acc ++ [x]) (v ++ [E])) _
      cases v with
      | nil =>
        cases hz : dirsP d n (acc ++ [x]) ([] ++ [E]) with
        | bad a e => trivial
        | ok y r2 =>
          cases n with
          | zero => cases hz
          | succ n =>
            rw [dirsP, List.nil_append, if_neg (by rw [(tst_T h0 _ (E := E)).no]; decide)] at hz
            injection hz with e1 e2; subst e2
            exact ⟨[], List.nil_suffix, rfl, fun h => absurd rfl h⟩
      | cons b v =>
        have h' := k3 (by simp)
        have hly := dirP_takes d _ _ _ h'
        rw [h']
        exact JnP.weak k1 (dirs_jn' h0 d n _ (b :: v) m (by omega) (by omega))
theorem dirs_jn (h0 : E.kind = 0) (d : Nat) (pre : List Tok) : JnP E tl pre (dirsP d ((pre ++ [E]).length + 1) [] (pre ++ [E])) (dirsP d ((pre ++ tl).length + 1) [] (pre ++ tl)) := dirs_jn' h0 d _ _ pre _ (by omega) (by omega)
theorem sel_jn (h0 : E.kind = 0) (d : Nat) {g : List Tok → PR (List SL)} (hg : ∀ u, JcP E tl u (g (u ++ [E])) (g (u ++ tl))) (pre : List Tok) : JnP E tl pre (selP d g (pre ++ [E])) (selP d g (pre ++ tl)) := by
  unfold selP
  refine jn_if (tst_T h0 _) (fun a u e _ => ?_) ?_
  · subst e
    refine JnP.weak (List.suffix_cons _ _) ?_
    show JnP E tl u (if isT wOn (u ++ [E]) then _ else _) (if isT wOn (u ++ tl) then _ else _)
    refine jn_if (tst_T h0 _) (fun a u e _ => ?_) (jn_if (tst_K h0) (fun _ _ _ _ => ?_) ?_)
    · subst e
      refine JnP.weak (List.suffix_cons _ _) ?_
      exact jn_bind (name_jc h0 u).jn fun _ u => jn_bind (dirs_jn h0 d u) fun _ u => jn_map (hg u).jn
    · exact jn_bind (name_jc h0 u).jn fun _ u => jn_map (dirs_jn h0 d u)
    · exact jn_bind (dirs_jn h0 d u) fun _ u => jn_map (hg u).jn
  · refine jn_bind (name_jc h0 pre).jn fun s u => jn_bind (jn_if (tst_T h0 _) (fun a w e _ => ?_) (.ok _ _)) fun p u => jn_bind (args_jn h0 d u) fun gs u => jn_bind (dirs_jn h0 d u) fun ds u => jn_map (jn_if (tst_S h0 _) (fun _ _ _ _ => (hg u).jn) (.ok _ _))
    subst e
    exact JnP.weak (List.suffix_cons _ _) (jn_map (name_jc h0 w).jn)
theorem set_jc (h0 : E.kind = 0) : ∀ d pre, JcP E tl pre (setP d (pre ++ [E])) (setP d (pre ++ tl))
  | 0, pre => trivial
  | d + 1, pre => by
    rw [setP, setP]
    exact jc_bind (want_jc h0 _ pre).jn fun _ u => many_jc h0 (sel_jn h0 d (set_jc h0 d)) (selP_takes d (setP_takes d)) _ _ _ u _ (by omega) (by omega)
theorem var_jn (h0 : E.kind = 0) (pre : List Tok) : JnP E tl pre (varP (pre ++ [E])) (varP (pre ++ tl)) := by
  unfold varP
  refine jn_bind (want_jc h0 _ pre).jn fun _ u => jn_bind (name_jc h0 u).jn fun s u => jn_bind (want_jc h0 _ u).jn fun _ u => jn_bind (typ_jn h0 _ u) fun t u => jn_if (tst_T h0 _) (fun a w e _ => ?_) (.ok _ _)
  subst e
  exact JnP.weak (List.suffix_cons _ _) (jn_map (value_jc h0 _ _ w).jn)
theorem op_jc (h0 : E.kind = 0) (pre : List Tok) : JcP E tl pre (opP (pre ++ [E])) (opP (pre ++ tl)) := by
  unfold opP
  refine jc_bind (jn_if (tst_T h0 _) (fun a w e _ => ?_) (jn_map (want_jc h0 _ pre).jn)) fun m u => jc_bind (jn_if (tst_K h0) (fun _ _ _ _ => (name_jc h0 u).jn) (.ok _ _)) fun s u => jc_bind (jn_if (tst_S h0 _) (fun a w e _ => ?_) (.ok _ _)) fun vs u => jc_map (set_jc h0 _ u)
  · subst e; exact (JcP.ok _ _ _).jn
  · subst e
    exact JnP.weak (List.suffix_cons _ _) (many_jc h0 (var_jn h0) varP_takes _ _ _ w _ (by simp <;> omega) (by simp <;> omega)).jn
theorem frag_jc (h0 : E.kind = 0) (pre : List Tok) : JcP E tl pre (fragP (pre ++ [E])) (fragP (pre ++ tl)) := by
  unfold fragP
  exact jc_if (tst_W h0 _) (fun _ _ _ _ => trivial) (jc_bind (name_jc h0 pre).jn fun s u => jc_bind (want_jc h0 _ u).jn fun _ u => jc_bind (name_jc h0 u).jn fun o u => jc_map (set_jc h0 _ u))
theorem def_jc (h0 : E.kind = 0) (d : DC) (pre : List Tok) : JcP E tl pre (defP d (pre ++ [E])) (defP d (pre ++ tl)) := by
  unfold defP
  refine jc_if (tst_S h0 _) (fun _ _ _ _ => jc_map (set_jc h0 _ pre)) (jc_if (tst_T h0 _) (fun a u e _ => ?_) (jc_map (op_jc h0 pre)))
  subst e
  exact JcP.weak (List.suffix_cons _ _) (jc_map (frag_jc h0 u))
/-- One more definition behind others: the same, with them ahead. -/
def DC.app (d m : DC) : DC := ⟨d.ops ++ m.ops, d.frags ++ m.frags⟩
def PR.map {α β : Type} (h : α → β) : PR α → PR β
  | .ok x r => .ok (h x) r
  | .bad a e => .bad a e
theorem bind_map {α β γ : Type} (p : PR α) (f : α → List Tok → PR β) (h : β → γ) : (p.bind f).map h = p.bind fun x r => (f x r).map h := by cases p <;> rfl
theorem map_bind {α β γ : Type} (p : PR α) (f : β → List Tok → PR γ) (h : α → β) : (p.map h).bind f = p.bind fun x r => f (h x) r := by cases p <;> rfl
theorem map_if {α β : Type} (c : Bool) (p q : PR α) (h : α → β) : (if c then p else q).map h = if c then p.map h else q.map h := by cases c <;> rfl
theorem def_app (d m : DC) (r : List Tok) : defP (d.app m) r = (defP m r).map d.app := by
  unfold defP
  rw [map_if, map_if, bind_map, bind_map, bind_map]
  congr 1
  · congr 1; funext sub r1; simp [PR.map, DC.app]
  · congr 1
    · congr 1; funext sub r1; simp [PR.map, DC.app]
    · congr 1; funext sub r1; simp [PR.map, DC.app]
theorem doc_app (d : DC) : ∀ (n : Nat) (m : DC) (r : List Tok), docF n (d.app m) r = (docF n m r).map d.app
  | 0, m, r => rfl
  | n + 1, m, r => by
    rw [docF, docF, def_app, map_bind, bind_map]
    congr 1; funext x r1
    rw [map_if, doc_app d n x r1]; rfl
/-- Documents one behind the other. -/
theorem doc_join (h0 : E.kind = 0) (hk : isK 0 tl = false) : ∀ (n : Nat) (acc : DC) (pre : List Tok) (m : Nat), (pre ++ [E]).length < n → (pre ++ tl).length < m → (∀ t ∈ pre, t.kind ≠ 0) → ∀ d r1, docF n acc (pre ++ [E]) = .ok d r1 → docF m acc (pre ++ tl) = docF m d tl
  | 0, _, _, _, h, _, _, _, _, _ => absurd h (by omega)
  | _ + 1, _, _, 0, _, h, _, _, _, _ => absurd h (by omega)
  | n + 1, acc, pre, m + 1, h1, h2, hu, d, r1, h => by
    rw [docF] at h
    obtain ⟨d1, r2, k1, h⟩ := bind_inv h
    have hl := defP_takes' acc _ _ _ k1
    have hq := def_jc h0 acc (tl := tl) pre
    rw [k1] at hq
    obtain ⟨u, q1, q2, rfl, q4⟩ := hq
    have hl2 := defP_takes' acc _ _ _ q4
    rw [docF, q4]
    show (if isK 0 (u ++ tl) then PR.ok d1 (u ++ tl) else docF m d1 (u ++ tl)) = _
    have htl : tl.length < m := by rw [List.length_append, List.length_append] at hl2; rw [List.length_append] at h2; omega
    cases u with
    | nil =>
      rw [List.nil_append, if_pos (by simp [isK, h0])] at h
      injection h with e1 e2; subst e1
      rw [List.nil_append, if_neg (by rw [hk]; decide)]
      exact doc_more _ _ _ _ htl (by omega)
    | cons a u =>
      have ha : a.kind ≠ 0 := hu a (by obtain ⟨c, hc⟩ := q1; rw [← hc]; simp)
      rw [if_neg (by simp [isK, ha])] at h ⊢
      rw [doc_join h0 hk n d1 (a :: u) m (by omega) (by omega) (fun t ht => hu t (q1.subset ht)) d r1 h]
      exact doc_more _ _ _ _ htl (by omega)
end Go.Proofs.YtgephneppgcnlaaDoor
namespace Go.Proofs.YtgephneppgcnlaaDoor
set_option linter.unusedVariables false
set_option linter.unusedSimpArgs false

/-! ### The tokens end ahead of a closing sign -/
/-- t: the closing sign; post: the tokens behind it; E: the end that stands in its place. -/
structure Brace (t E : Tok) : Prop where
  k : t.kind = 4
  x : t.text = [125]
  e : E.kind = 0
def CutP {α : Type} (t E : Tok) (post : List Tok) (p p' : PR α) : Prop := match p with
  | .bad _ _ => True
  | .ok x r1 => (∃ u, r1 = u ++ t :: post ∧ p' = .ok x (u ++ [E])) ∨ (r1.length ≤ post.length ∧ p' = .bad E.at_ 4)
def Cut {α : Type} (t E : Tok) (post : List Tok) (f g : List Tok → PR α) : Prop := ∀ u, CutP t E post (f (u ++ t :: post)) (g (u ++ [E]))
variable {t E : Tok} {post : List Tok}
theorem CutP.ok {α : Type} (x : α) (u : List Tok) : CutP t E post (.ok x (u ++ t :: post)) (.ok x (u ++ [E])) := .inl ⟨u, rfl, rfl⟩
theorem CutP.out {α : Type} {p p' : PR α} (h : ∀ x r, p ≠ .ok x r) : CutP t E post p p' := by
  cases p with
  | ok x r => exact absurd rfl (h x r)
  | bad a e => trivial
theorem cut_bind {α β : Type} {p p' : PR α} {f g : α → List Tok → PR β} (h : CutP t E post p p') (hf : ∀ x u, CutP t E post (f x (u ++ t :: post)) (g x (u ++ [E]))) (hl : ∀ x r1 y r2, f x r1 = .ok y r2 → r2.length ≤ r1.length) : CutP t E post (p.bind f) (p'.bind g) := by
  cases p with
  | bad a e => trivial
  | ok x r1 =>
    rcases h with ⟨u, rfl, rfl⟩ | ⟨h1, rfl⟩
    · exact hf x u
    · show CutP t E post (f x r1) (PR.bad E.at_ 4)
      cases hq : f x r1 with
      | bad a e => trivial
      | ok y r2 => exact .inr ⟨Nat.le_trans (hl _ _ _ _ hq) h1, rfl⟩
theorem cut_if {α : Type} {c c' : Bool} {p q p' q' : PR α} (hc : c' = c) (h1 : c = true → CutP t E post p p') (h2 : c = false → CutP t E post q q') : CutP t E post (if c then p else q) (if c' then p' else q') := by
  subst hc
  cases c' with
  | true => exact h1 rfl
  | false => exact h2 rfl
theorem cut_isS (B : Brace t E) {s : List UInt8} (hs : s ≠ [125]) : ∀ u, isS s (u ++ [E]) = isS s (u ++ t :: post)
  | [] => by
    show (decide (E.kind = 4) && decide (E.text = s)) = (decide (t.kind = 4) && decide (t.text = s))
    rw [B.e, B.x, decide_eq_false (p := [125] = s) (fun h => hs h.symm)]; simp
  | a :: u => rfl
theorem cut_isW (B : Brace t E) (s : List UInt8) : ∀ u, isW s (u ++ [E]) = isW s (u ++ t :: post)
  | [] => by
    show (decide (E.kind = 1) && decide (E.text = s)) = (decide (t.kind = 1) && decide (t.text = s))
    rw [B.e, B.k]; simp
  | a :: u => rfl
theorem cut_isT (B : Brace t E) {s : List UInt8} (hs : s ≠ [125]) (u : List Tok) : isT s (u ++ [E]) = isT s (u ++ t :: post) := by
  unfold isT; rw [cut_isS B hs u, cut_isW B s u]
theorem cut_isK1 (B : Brace t E) : ∀ u, isK 1 (u ++ [E]) = isK 1 (u ++ t :: post)
  | [] => by
    show decide (E.kind = 1) = decide (t.kind = 1)
    rw [B.e, B.k]; simp
  | a :: u => rfl
/-- What a test other than that for the closing sign has seen stands ahead of it. -/
theorem cut_tail (B : Brace t E) {s : List UInt8} (hs : s ≠ [125]) {u : List Tok} (h : isT s (u ++ t :: post) = true) : ∃ u', (u ++ t :: post).tail = u' ++ t :: post ∧ (u ++ [E]).tail = u' ++ [E] := by
  cases u with
  | nil =>
    exfalso
    simp only [List.nil_append, isT, isS, isW, B.k, B.x, Bool.or_eq_true, Bool.and_eq_true, decide_eq_true_eq] at h
    rcases h with h | h
    · exact hs h.2.symm
    · exact absurd h.1 (by decide)
  | cons a u => exact ⟨u, rfl, rfl⟩
theorem brace_no (B : Brace t E) {s : List UInt8} (hs : s ≠ [125]) {r : List Tok} : isT s (t :: r) = false := by
  show ((decide (t.kind = 4) && decide (t.text = s)) || (decide (t.kind = 1) && decide (t.text = s))) = false
  rw [B.k, B.x, decide_eq_false (p := [125] = s) (fun h => hs h.symm)]; rfl
theorem want_cut (B : Brace t E) {s : List UInt8} (hs : s ≠ [125]) : Cut t E post (wantP s) (wantP s) := fun u => by
  unfold wantP
  refine cut_if (cut_isT B hs u) (fun h => ?_) (fun _ => trivial)
  obtain ⟨u', e1, e2⟩ := cut_tail B hs h
  rw [e1, e2]; exact .ok _ _
theorem name_end (B : Brace t E) : nameP [E] = .bad E.at_ 4 := by
  show (if E.kind = 1 then PR.ok E.text [] else .bad E.at_ 4) = _
  rw [if_neg (by rw [B.e]; decide)]
theorem name_cut (B : Brace t E) : Cut t E post nameP nameP := fun u => by
  cases u with
  | nil =>
    refine .out fun x r h => ?_
    have h : (if t.kind = 1 then PR.ok t.text post else .bad t.at_ 4) = .ok x r := h
    rw [if_neg (by rw [B.k]; decide)] at h; cases h
  | cons a u =>
    show CutP t E post (if a.kind = 1 then PR.ok a.text (u ++ t :: post) else .bad a.at_ 4) (if a.kind = 1 then PR.ok a.text (u ++ [E]) else .bad a.at_ 4)
    split
    · exact .ok _ _
    · trivial
theorem many_cut {α : Type} (B : Brace t E) {f g : List Tok → PR α} (hf : Cut t E post f g) (hl : Takes f) (hg : Takes g) (close : List UInt8) (hE : close = [125] → g [E] = .bad E.at_ 4) : ∀ (n : Nat) (acc : List α) (u : List Tok) (m : Nat), (u ++ t :: post).length < n → (u ++ [E]).length < m → CutP t E post (manyP f close n acc (u ++ t :: post)) (manyP g close m acc (u ++ [E]))
  | 0, _, _, _, h, _ => absurd h (by omega)
  | _ + 1, _, _, 0, _, h => absurd h (by omega)
  | n + 1, acc, u, m + 1, h1, h2 => by
    rw [manyP, manyP]
    have hq := hf u
    cases hx : f (u ++ t :: post) with
    | bad a e => trivial
    | ok x r1 =>
      have hlx := hl _ _ _ hx
      rw [hx] at hq
      rcases hq with ⟨v, rfl, h'⟩ | ⟨k1, h'⟩
      · have hly := hg _ _ _ h'
        rw [h']
        show CutP t E post (if isT close (v ++ t :: post) then PR.ok (acc ++ [x]) (v ++ t :: post).tail else manyP f close n (acc ++ [x]) (v ++ t :: post)) (if isT close (v ++ [E]) then PR.ok (acc ++ [x]) (v ++ [E]).tail else manyP g close m (acc ++ [x]) (v ++ [E]))
        by_cases hc : close = [125]
        · cases v with
          | cons a v =>
            refine cut_if rfl (fun _ => .ok _ _) (fun _ => many_cut B hf hl hg close hE n _ (a :: v) m (by omega) (by omega))
          | nil =>
            subst hc
            have e1 : isT [125] ([] ++ t :: post) = true := by simp [isT, isS, B.k, B.x]
            have e2 : isT [125] ([] ++ [E]) = false := by simp [isT, isS, isW, B.e]
            rw [if_pos e1, if_neg (by rw [e2]; decide)]
            refine .inr ⟨Nat.le_refl _, ?_⟩
            cases m with
            | zero => simp at h2 hly
            | succ m => rw [manyP, List.nil_append, hE rfl]; rfl
        · refine cut_if (cut_isT B hc v) (fun h => ?_) (fun _ => many_cut B hf hl hg close hE n _ v m (by omega) (by omega))
          obtain ⟨u', e1, e2⟩ := cut_tail B hc h
          rw [e1, e2]; exact .ok _ _
      · rw [h']
        show CutP t E post (if isT close r1 then PR.ok (acc ++ [x]) r1.tail else manyP f close n (acc ++ [x]) r1) (PR.bad E.at_ 4)
        split
        · exact .inr ⟨by rw [List.length_tail]; omega, rfl⟩
        · cases hz : manyP f close n (acc ++ [x]) r1 with
          | bad a e => trivial
          | ok y r2 => exact .inr ⟨by have := manyP_len hl _ _ _ _ _ hz; omega, rfl⟩
theorem any_cut {α : Type} (B : Brace t E) {f g : List Tok → PR α} (hf : Cut t E post f g) (hl : Takes f) (hg : Takes g) (close : List UInt8) (hE : close = [125] → g [E] = .bad E.at_ 4) : ∀ (n : Nat) (acc : List α) (u : List Tok) (m : Nat), (u ++ t :: post).length < n → (u ++ [E]).length < m → CutP t E post (anyP f close n acc (u ++ t :: post)) (anyP g close m acc (u ++ [E]))
  | 0, _, _, _, h, _ => absurd h (by omega)
  | _ + 1, _, _, 0, _, h => absurd h (by omega)
  | n + 1, acc, u, m + 1, h1, h2 => by
    rw [anyP, anyP]
    have step : CutP t E post ((f (u ++ t :: post)).bind fun x r1 => anyP f close n (acc ++ [x]) r1) ((g (u ++ [E])).bind fun x r1 => anyP g close m (acc ++ [x]) r1) := by
      have hq := hf u
      cases hx : f (u ++ t :: post) with
      | bad a e => trivial
      | ok x r1 =>
        have hlx := hl _ _ _ hx
        rw [hx] at hq
        rcases hq with ⟨v, rfl, h'⟩ | ⟨k1, h'⟩
        · have hly := hg _ _ _ h'
          rw [h']
          exact any_cut B hf hl hg close hE n _ v m (by omega) (by omega)
        · rw [h']
          show CutP t E post (anyP f close n (acc ++ [x]) r1) (PR.bad E.at_ 4)
          cases hz : anyP f close n (acc ++ [x]) r1 with
          | bad a e => trivial
          | ok y r2 => exact .inr ⟨by have := anyP_len hl _ _ _ _ _ hz; omega, rfl⟩
    by_cases hc : close = [125]
    · cases u with
      | cons a v => exact cut_if rfl (fun _ => .ok _ _) (fun _ => step)
      | nil =>
        subst hc
        have e1 : isT [125] ([] ++ t :: post) = true := by simp [isT, isS, B.k, B.x]
        have e2 : isT [125] ([] ++ [E]) = false := by simp [isT, isS, isW, B.e]
        rw [if_pos e1, if_neg (by rw [e2]; decide), show ([] : List Tok) ++ [E] = [E] from rfl, hE rfl]
        exact .inr ⟨Nat.le_refl _, rfl⟩
    · refine cut_if (cut_isT B hc u) (fun h => ?_) (fun _ => step)
      obtain ⟨u', e1, e2⟩ := cut_tail B hc h
      rw [e1, e2]; exact .ok _ _
theorem pair_cut (B : Brace t E) {f : List Tok → PR VT} (hf : Cut t E post f f) (hl : Takes f) : Cut t E post (pairP f) (pairP f) := fun u =>
  cut_bind (name_cut B u) (fun s u1 => cut_bind (want_cut B (by decide) u1) (fun _ u2 => cut_bind (hf u2) (fun v u3 => .ok _ _) (fun _ _ _ _ h => by injection h with _ h; subst h; exact Nat.le_refl _)) (fun _ r1 y r2 h => by
    obtain ⟨v, r3, k1, h⟩ := bind_inv h
    injection h with _ h; subst h; exact Nat.le_of_lt (hl _ _ _ k1))) (fun _ r1 y r2 h => by
    obtain ⟨_, r3, k1, h⟩ := bind_inv h
    obtain ⟨v, r4, k2, h⟩ := bind_inv h
    injection h with _ h; subst h
    have := wantP_len k1; have := hl _ _ _ k2; omega)
theorem same_len {α β : Type} {g : α → β} : ∀ (x : α) (r1 : List Tok) (y : β) (r2 : List Tok), (PR.ok (g x) r1 : PR β) = .ok y r2 → r2.length ≤ r1.length := fun _ _ _ _ h => by
  injection h with _ h; subst h; exact Nat.le_refl _
theorem valueB_cut (B : Brace t E) (fixed : Bool) {f : List Tok → PR VT} (hf : Cut t E post f f) (hl : Takes f) : Cut t E post (valueB fixed f) (valueB fixed f) := fun u => by
  cases u with
  | nil =>
    refine .out fun x r h => ?_
    rw [List.nil_append, valueB_eqn] at h
    have hn : ∀ s, s ≠ [125] → isT s (t :: post) = false := fun s hs => brace_no B hs
    rw [if_neg (by rw [B.k]; decide), if_neg (by rw [B.k]; decide), if_neg (by rw [hn _ (by decide)]; decide), if_neg (by rw [hn _ (by decide)]; decide), if_neg (by rw [hn _ (by decide)]; decide), if_neg (by rw [B.k]; decide), if_neg (by rw [hn _ (by decide), Bool.and_false]; decide), if_neg (by rw [hn _ (by decide)]; decide), if_neg (by rw [hn _ (by decide)]; decide)] at h
    cases h
  | cons a u =>
    rw [List.cons_append, List.cons_append, valueB_eqn, valueB_eqn]
    by_cases h2 : a.kind = 2
    · rw [if_pos h2, if_pos h2]; exact .ok _ _
    rw [if_neg h2, if_neg h2]
    by_cases h3 : a.kind = 3
    · rw [if_pos h3, if_pos h3]; exact .ok _ _
    rw [if_neg h3, if_neg h3]
    refine cut_if rfl (fun _ => .ok _ _) fun _ => cut_if rfl (fun _ => .ok _ _) fun _ => cut_if rfl (fun _ => .ok _ _) fun _ => ?_
    by_cases h1 : a.kind = 1
    · rw [if_pos h1, if_pos h1]; exact .ok _ _
    rw [if_neg h1, if_neg h1]
    refine cut_if rfl (fun _ => cut_bind (name_cut B u) (fun _ _ => .ok _ _) same_len) fun _ => cut_if rfl (fun _ => ?_) fun _ => cut_if rfl (fun _ => ?_) fun _ => trivial
    · exact cut_bind (any_cut B hf hl hl _ (fun h => by simp at h) _ _ u _ (by omega) (by omega)) (fun _ _ => .ok _ _) same_len
    · exact cut_bind (any_cut B (pair_cut B hf hl) (pairP_takes hl) (pairP_takes hl) _ (fun _ => by unfold pairP; rw [name_end B]; rfl) _ _ u _ (by omega) (by omega)) (fun _ _ => .ok _ _) same_len
theorem value_cut (B : Brace t E) (fixed : Bool) : ∀ d, Cut t E post (valueP fixed d) (valueP fixed d)
  | 0 => fun u => trivial
  | d + 1 => valueB_cut B fixed (value_cut B fixed d) (valueP_takes fixed d)
theorem bang_cut (B : Brace t E) (mk : Bool → TR) : Cut t E post (bangP mk) (bangP mk) := fun u => by
  unfold bangP
  refine cut_if (cut_isT B (by decide) u) (fun h => ?_) (fun _ => .ok _ _)
  obtain ⟨u', e1, e2⟩ := cut_tail B (by decide) h
  rw [e1, e2]; exact .ok _ _
theorem typ_cut (B : Brace t E) : ∀ d, Cut t E post (typP d) (typP d)
  | 0 => fun u => trivial
  | d + 1 => fun u => by
    rw [typP, typP]
    refine cut_if (cut_isT B (by decide) u) (fun h => ?_) (fun _ => ?_)
    · obtain ⟨u', e1, e2⟩ := cut_tail B (by decide) h
      rw [e1, e2]
      exact cut_bind (typ_cut B d u') (fun _ u2 => cut_bind (want_cut B (by decide) u2) (fun _ u3 => bang_cut B _ u3) (fun _ _ _ _ h => bangP_len h)) (fun _ _ _ _ h => by
        obtain ⟨_, r3, k1, h⟩ := bind_inv h
        have := wantP_len k1; have := bangP_len h; omega)
    · exact cut_bind (name_cut B u) (fun _ u2 => bang_cut B _ u2) (fun _ _ _ _ h => bangP_len h)
theorem arg_cut (B : Brace t E) (d : Nat) : Cut t E post (argP d) (argP d) := fun u =>
  cut_bind (name_cut B u) (fun s u1 => cut_bind (want_cut B (by decide) u1) (fun _ u2 => cut_bind (value_cut B _ _ u2) (fun v u3 => .ok _ _) same_len) (fun _ r1 y r2 h => by
    obtain ⟨v, r3, k1, h⟩ := bind_inv h
    injection h with _ h; subst h; exact Nat.le_of_lt (valueP_takes _ _ _ _ _ k1))) (fun _ r1 y r2 h => by
    obtain ⟨_, r3, k1, h⟩ := bind_inv h
    obtain ⟨v, r4, k2, h⟩ := bind_inv h
    injection h with _ h; subst h
    have := wantP_len k1; have := valueP_takes _ _ _ _ _ k2; omega)
theorem args_cut (B : Brace t E) (d : Nat) : Cut t E post (argsP d) (argsP d) := fun u => by
  unfold argsP
  refine cut_if (cut_isS B (by decide) u) (fun h => ?_) (fun _ => .ok _ _)
  obtain ⟨u', e1, e2⟩ := cut_tail B (by decide) (isS_T h)
  rw [e1, e2]
  have l1 := isT_len (isS_T h)
  refine many_cut B (arg_cut B d) (argP_takes d) (argP_takes d) _ (fun h => by simp at h) _ _ u' _ (by rw [← e1]; omega) ?_
  rw [← e2, List.length_tail]; omega
theorem dir_cut (B : Brace t E) (d : Nat) : Cut t E post (dirP d) (dirP d) := fun u =>
  cut_bind (name_cut B u) (fun _ u1 => cut_bind (args_cut B d u1) (fun _ _ => .ok _ _) same_len) (fun _ r1 y r2 h => by
    obtain ⟨v, r3, k1, h⟩ := bind_inv h
    injection h with _ h; subst h; exact argsP_len k1)
theorem dirs_cut (B : Brace t E) (d : Nat) : ∀ (n : Nat) (acc : List DR) (u : List Tok) (m : Nat), (u ++ t :: post).length < n → (u ++ [E]).length < m → CutP t E post (dirsP d n acc (u ++ t :: post)) (dirsP d m acc (u ++ [E]))
  | 0, _, _, _, h, _ => absurd h (by omega)
  | _ + 1, _, _, 0, _, h => absurd h (by omega)
  | n + 1, acc, u, m + 1, h1, h2 => by
    rw [dirsP, dirsP]
    refine cut_if (cut_isT B (by decide) u) (fun h => ?_) (fun _ => .ok _ _)
    obtain ⟨u', e1, e2⟩ := cut_tail B (by decide) h
    have l1 := isT_len h
    rw [e1] at l1
    have l2 : (u' ++ [E]).length ≤ m := by rw [← e2, List.length_tail]; omega
    rw [e1, e2]
    have hq := dir_cut B d (post := post) u'
    cases hx : dirP d (u' ++ t :: post) with
    | bad a e => trivial
    | ok x r1 =>
      have hlx := dirP_takes d _ _ _ hx
      rw [hx] at hq
      rcases hq with ⟨v, rfl, h'⟩ | ⟨k1, h'⟩
      · have hly := dirP_takes d _ _ _ h'
        rw [h']
        exact dirs_cut B d n _ v m (by omega) (by omega)
      · rw [h']
        show CutP t E post (dirsP d n (acc ++ [x]) r1) (PR.bad E.at_ 4)
        cases hz : dirsP d n (acc ++ [x]) r1 with
        | bad a e => trivial
        | ok y r2 => exact .inr ⟨by have := dirsP_len _ _ _ _ _ _ hz; omega, rfl⟩
theorem dirs_cut' (B : Brace t E) (d : Nat) (u : List Tok) : CutP t E post (dirsP d ((u ++ t :: post).length + 1) [] (u ++ t :: post)) (dirsP d ((u ++ [E]).length + 1) [] (u ++ [E])) := dirs_cut B d _ _ u _ (by omega) (by omega)
theorem sel_end (B : Brace t E) (d : Nat) (g : List Tok → PR (List SL)) : selP d g [E] = .bad E.at_ 4 := by
  unfold selP
  have e : isT wDots [E] = false := by simp [isT, isS, isW, B.e]
  rw [if_neg (by rw [e]; decide), name_end B]; rfl
theorem sel_cut (B : Brace t E) (d : Nat) {g : List Tok → PR (List SL)} (hg : Cut t E post g g) (hl : Takes g) : Cut t E post (selP d g) (selP d g) := fun u => by
  unfold selP
  refine cut_if (cut_isT B (by decide) u) (fun h => ?_) (fun _ => ?_)
  · obtain ⟨u, e1, e2⟩ := cut_tail B (by decide) h
    rw [e1, e2]
    refine cut_if (cut_isT B (by decide) u) (fun h => ?_) (fun _ => cut_if (cut_isK1 B u) (fun _ => ?_) (fun _ => ?_))
    · obtain ⟨u, e1, e2⟩ := cut_tail B (by decide) h
      rw [e1, e2]
      exact cut_bind (name_cut B u) (fun _ u => cut_bind (dirs_cut' B d u) (fun _ u => cut_bind (hg u) (fun _ _ => .ok _ _) same_len) (fun _ r1 y r2 h => by
        obtain ⟨v, r3, k1, h⟩ := bind_inv h
        injection h with _ h; subst h; exact Nat.le_of_lt (hl _ _ _ k1))) (fun _ r1 y r2 h => by
        obtain ⟨_, r3, k1, h⟩ := bind_inv h
        obtain ⟨v, r4, k2, h⟩ := bind_inv h
        injection h with _ h; subst h
        have := dirsP_len _ _ _ _ _ _ k1; have := hl _ _ _ k2; omega)
    · exact cut_bind (name_cut B u) (fun _ u => cut_bind (dirs_cut' B d u) (fun _ _ => .ok _ _) same_len) (fun _ r1 y r2 h => by
        obtain ⟨v, r3, k1, h⟩ := bind_inv h
        injection h with _ h; subst h; exact dirsP_len _ _ _ _ _ _ k1)
    · exact cut_bind (dirs_cut' B d u) (fun _ u => cut_bind (hg u) (fun _ _ => .ok _ _) same_len) (fun _ r1 y r2 h => by
        obtain ⟨v, r3, k1, h⟩ := bind_inv h
        injection h with _ h; subst h; exact Nat.le_of_lt (hl _ _ _ k1))
  · have q5 : ∀ (r4 : List Tok) sub r5, (if isS [123] r4 then g r4 else .ok [] r4 : PR (List SL)) = .ok sub r5 → r5.length ≤ r4.length := fun r4 sub r5 h => by
      split at h
      · exact Nat.le_of_lt (hl _ _ _ h)
      · injection h with _ h; subst h; exact Nat.le_refl _
    have q4 : ∀ (p : List UInt8 × List UInt8) (gs : List AR) (ds : List DR) (r4 : List Tok) (y : SL) (r6 : List Tok), ((if isS [123] r4 then g r4 else .ok [] r4 : PR (List SL)).bind fun sub r5 => PR.ok (SL.mk 1 p.1 p.2 [] gs ds sub) r5) = .ok y r6 → r6.length ≤ r4.length := fun p gs ds r4 y r6 h => by
      obtain ⟨sub, r5, k1, h⟩ := bind_inv h
      injection h with _ h; subst h; exact q5 _ _ _ k1
    have q3 : ∀ (p : List UInt8 × List UInt8) (gs : List AR) (r3 : List Tok) (y : SL) (r6 : List Tok), ((dirsP d (r3.length + 1) [] r3).bind fun ds r4 => (if isS [123] r4 then g r4 else .ok [] r4 : PR (List SL)).bind fun sub r5 => PR.ok (SL.mk 1 p.1 p.2 [] gs ds sub) r5) = .ok y r6 → r6.length ≤ r3.length := fun p gs r3 y r6 h => by
      obtain ⟨ds, r4, k1, h⟩ := bind_inv h
      have := dirsP_len _ _ _ _ _ _ k1; have := q4 _ _ _ _ _ _ h; omega
    have q2 : ∀ (p : List UInt8 × List UInt8) (r2 : List Tok) (y : SL) (r6 : List Tok), ((argsP d r2).bind fun gs r3 => (dirsP d (r3.length + 1) [] r3).bind fun ds r4 => (if isS [123] r4 then g r4 else .ok [] r4 : PR (List SL)).bind fun sub r5 => PR.ok (SL.mk 1 p.1 p.2 [] gs ds sub) r5) = .ok y r6 → r6.length ≤ r2.length := fun p r2 y r6 h => by
      obtain ⟨gs, r3, k1, h⟩ := bind_inv h
      have := argsP_len k1; have := q3 _ _ _ _ _ h; omega
    refine cut_bind (name_cut B u) (fun s u => cut_bind (cut_if (cut_isT B (by decide) u) (fun h => ?_) (fun _ => .ok _ _)) (fun p u => cut_bind (args_cut B d u) (fun gs u => cut_bind (dirs_cut' B d u) (fun ds u => cut_bind (cut_if (cut_isS B (by decide) u) (fun _ => hg u) (fun _ => .ok _ _)) (fun _ _ => .ok _ _) same_len) (fun _ _ _ _ h => q4 _ _ _ _ _ _ h)) (fun _ _ _ _ h => q3 _ _ _ _ _ h)) (fun _ _ _ _ h => q2 _ _ _ _ h)) (fun s r1 y r2 h => ?_)
    · obtain ⟨u, e1, e2⟩ := cut_tail B (by decide) h
      rw [e1, e2]
      exact cut_bind (name_cut B u) (fun _ _ => .ok _ _) same_len
    · obtain ⟨p, r3, k1, h⟩ := bind_inv h
      have l2 := q2 _ _ _ _ h
      split at k1
      · obtain ⟨s2, r7, k6, k7⟩ := bind_inv k1
        injection k7 with _ k7; subst k7
        have := nameP_len k6; rw [List.length_tail] at this; omega
      · injection k1 with _ k1; subst k1; exact l2
theorem set_cut (B : Brace t E) : ∀ d, Cut t E post (setP d) (setP d)
  | 0 => fun u => trivial
  | d + 1 => fun u => by
    rw [setP, setP]
    exact cut_bind (want_cut B (by decide) u) (fun _ u => many_cut B (sel_cut B d (set_cut B d) (setP_takes d)) (selP_takes d (setP_takes d)) (selP_takes d (setP_takes d)) _ (fun _ => sel_end B d _) _ _ u _ (by omega) (by omega)) (fun _ _ _ _ h => Nat.le_of_lt (manyP_len (selP_takes d (setP_takes d)) _ _ _ _ _ h))
theorem var_cut (B : Brace t E) : Cut t E post varP varP := fun u => by
  unfold varP
  have q4 : ∀ (s : List UInt8) (t : TR) (r4 : List Tok) (y : VD) (r6 : List Tok), (if isT [61] r4 then (valueP true 24 r4.tail).bind fun v r5 => PR.ok (⟨s, t, true, v⟩ : VD) r5 else .ok ⟨s, t, false, VT.zero⟩ r4) = .ok y r6 → r6.length ≤ r4.length := fun s t r4 y r6 h => by
    split at h
    · obtain ⟨v, r5, k1, h⟩ := bind_inv h
      injection h with _ h; subst h
      have := valueP_takes _ _ _ _ _ k1; rw [List.length_tail] at this; omega
    · injection h with _ h; subst h; exact Nat.le_refl _
  refine cut_bind (want_cut B (by decide) u) (fun _ u => cut_bind (name_cut B u) (fun s u => cut_bind (want_cut B (by decide) u) (fun _ u => cut_bind (typ_cut B _ u) (fun t u => cut_if (cut_isT B (by decide) u) (fun h => ?_) (fun _ => .ok _ _)) (fun _ _ _ _ h => q4 _ _ _ _ _ h)) (fun _ r1 y r2 h => ?_)) (fun _ r1 y r2 h => ?_)) (fun _ r1 y r2 h => ?_)
  · obtain ⟨u, e1, e2⟩ := cut_tail B (by decide) h
    rw [e1, e2]
    exact cut_bind (value_cut B _ _ u) (fun _ _ => .ok _ _) same_len
  · obtain ⟨t, r3, k1, h⟩ := bind_inv h
    have := typP_takes _ _ _ _ k1; have := q4 _ _ _ _ _ h; omega
  · obtain ⟨_, r3, k1, h⟩ := bind_inv h
    obtain ⟨t, r4, k2, h⟩ := bind_inv h
    have := wantP_len k1; have := typP_takes _ _ _ _ k2; have := q4 _ _ _ _ _ h; omega
  · obtain ⟨_, r0, k0, h⟩ := bind_inv h
    obtain ⟨_, r3, k1, h⟩ := bind_inv h
    obtain ⟨t, r4, k2, h⟩ := bind_inv h
    have := nameP_len k0; have := wantP_len k1; have := typP_takes _ _ _ _ k2; have := q4 _ _ _ _ _ h; omega
theorem op_cut (B : Brace t E) : Cut t E post opP opP := fun u => by
  unfold opP
  have q3 : ∀ (m : Bool) (s : List UInt8) (vs : List VD) (r3 : List Tok) (y : OP) (r6 : List Tok), ((setP 24 r3).bind fun sub r4 => PR.ok (⟨m, s, vs, sub⟩ : OP) r4) = .ok y r6 → r6.length ≤ r3.length := fun m s vs r3 y r6 h => by
    obtain ⟨sub, r4, k1, h⟩ := bind_inv h
    injection h with _ h; subst h; exact Nat.le_of_lt (setP_takes _ _ _ _ k1)
  have q2 : ∀ (m : Bool) (s : List UInt8) (r2 : List Tok) (y : OP) (r6 : List Tok), ((if isS [40] r2 then manyP varP [41] (r2.length + 1) [] r2.tail else .ok [] r2 : PR (List VD)).bind fun vs r3 => (setP 24 r3).bind fun sub r4 => PR.ok (⟨m, s, vs, sub⟩ : OP) r4) = .ok y r6 → r6.length ≤ r2.length := fun m s r2 y r6 h => by
    obtain ⟨vs, r3, k1, h⟩ := bind_inv h
    have := q3 _ _ _ _ _ _ h
    split at k1
    · have := manyP_len varP_takes _ _ _ _ _ k1
      rw [List.length_tail] at this; omega
    · injection k1 with _ k1; subst k1; omega
  refine cut_bind (cut_if (cut_isT B (by decide) u) (fun h => ?_) (fun _ => ?_)) (fun m u => cut_bind (cut_if (cut_isK1 B u) (fun _ => name_cut B u) (fun _ => .ok _ _)) (fun s u => cut_bind (cut_if (cut_isS B (by decide) u) (fun h => ?_) (fun _ => .ok _ _)) (fun vs u => cut_bind (set_cut B _ u) (fun _ _ => .ok _ _) same_len) (fun _ _ _ _ h => q3 _ _ _ _ _ _ h)) (fun _ _ _ _ h => q2 _ _ _ _ _ h)) (fun _ r1 y r2 h => ?_)
  · obtain ⟨u, e1, e2⟩ := cut_tail B (by decide) h
    rw [e1, e2]; exact .ok _ _
  · exact cut_bind (want_cut B (by decide) u) (fun _ _ => .ok _ _) (fun _ _ _ _ h => by injection h with _ h; subst h; exact Nat.le_refl _)
  · have l1 := isT_len (isS_T h)
    obtain ⟨u', e1, e2⟩ := cut_tail B (by decide) (isS_T h)
    rw [e1] at l1 ⊢
    have l2 : (u' ++ [E]).length ≤ (u ++ [E]).length := by rw [← e2, List.length_tail]; omega
    rw [e2]
    exact many_cut B (var_cut B) varP_takes varP_takes _ (fun h => by simp at h) _ _ u' _ (by omega) (by omega)
  · obtain ⟨s, r3, k1, h⟩ := bind_inv h
    have := q2 _ _ _ _ _ h
    split at k1
    · have := nameP_len k1; omega
    · injection k1 with _ k1; subst k1; omega
theorem frag_cut (B : Brace t E) : Cut t E post fragP fragP := fun u => by
  unfold fragP
  refine cut_if (cut_isW B _ u) (fun _ => trivial) (fun _ => cut_bind (name_cut B u) (fun s u => cut_bind (want_cut B (by decide) u) (fun _ u => cut_bind (name_cut B u) (fun o u => cut_bind (set_cut B _ u) (fun _ _ => .ok _ _) same_len) (fun _ r1 y r2 h => ?_)) (fun _ r1 y r2 h => ?_)) (fun _ r1 y r2 h => ?_))
  · obtain ⟨sub, r4, k1, h⟩ := bind_inv h
    injection h with _ h; subst h; exact Nat.le_of_lt (setP_takes _ _ _ _ k1)
  · obtain ⟨o, r3, k0, h⟩ := bind_inv h
    obtain ⟨sub, r4, k1, h⟩ := bind_inv h
    injection h with _ h; subst h; have := nameP_len k0; have := setP_takes _ _ _ _ k1; omega
  · obtain ⟨_, r2', k2, h⟩ := bind_inv h
    obtain ⟨o, r3, k0, h⟩ := bind_inv h
    obtain ⟨sub, r4, k1, h⟩ := bind_inv h
    injection h with _ h; subst h; have := wantP_len k2; have := nameP_len k0; have := setP_takes _ _ _ _ k1; omega
theorem def_cut (B : Brace t E) (d : DC) : Cut t E post (defP d) (defP d) := fun u => by
  unfold defP
  refine cut_if (cut_isS B (by decide) u) (fun _ => cut_bind (set_cut B _ u) (fun _ _ => .ok _ _) same_len) (fun _ => cut_if (cut_isT B (by decide) u) (fun h => ?_) (fun _ => cut_bind (op_cut B u) (fun _ _ => .ok _ _) same_len))
  obtain ⟨u, e1, e2⟩ := cut_tail B (by decide) h
  rw [e1, e2]
  exact cut_bind (frag_cut B u) (fun _ _ => .ok _ _) same_len
/-- A document whose tokens end ahead of a closing sign is none. -/
theorem doc_cut (B : Brace t E) (q : List Tok) {E0 : Tok} (h0 : E0.kind = 0) : ∀ (n : Nat) (acc : DC) (u : List Tok) (m : Nat), (u ++ t :: (q ++ [E0])).length < n → (u ++ [E]).length < m → (∀ t' ∈ u, t'.kind ≠ 0) → ∀ d r1, docF n acc (u ++ t :: (q ++ [E0])) = .ok d r1 → docF m acc (u ++ [E]) = .bad E.at_ 4
  | 0, _, _, _, h, _, _, _, _, _ => absurd h (by omega)
  | _ + 1, _, _, 0, _, h, _, _, _, _ => absurd h (by omega)
  | n + 1, acc, u, m + 1, h1, h2, hu, d, r1, h => by
    rw [docF] at h ⊢
    obtain ⟨d1, r2, k1, h⟩ := bind_inv h
    have hl := defP_takes' acc _ _ _ k1
    have hq := def_cut B acc (post := q ++ [E0]) u
    have hj := def_jc (E := E0) (tl := []) h0 acc (u ++ t :: q)
    rw [show u ++ t :: q ++ [E0] = u ++ t :: (q ++ [E0]) from by simp, k1] at hj
    rw [k1] at hq
    rcases hq with ⟨v, rfl, h'⟩ | ⟨k2, h'⟩
    · have hl2 := defP_takes' acc _ _ _ h'
      obtain ⟨w, hw, -, e, -⟩ := hj
      have e : v ++ t :: q = w := by
        have e : v ++ t :: q ++ [E0] = w ++ [E0] := by rw [← e]; simp
        exact List.append_cancel_right e
      subst e
      have hv : ∀ t' ∈ v, t'.kind ≠ 0 := fun t' ht => by
        obtain ⟨c, hc⟩ := hw
        have : c ++ v = u := by
          have hc : (c ++ v) ++ t :: q = u ++ t :: q := by rw [← hc]; simp
          exact List.append_cancel_right hc
        exact hu t' (by rw [← this]; simp [ht])
      rw [h']
      have e1 : isK 0 (v ++ t :: (q ++ [E0])) = false := by
        cases v with
        | nil => simp [isK, B.k]
        | cons a v => simp [isK, hv a (by simp)]
      rw [if_neg (by rw [e1]; decide)] at h
      cases v with
      | nil =>
        exfalso
        cases n with
        | zero => cases h
        | succ n =>
          rw [docF] at h
          obtain ⟨d2, r3, k3, -⟩ := bind_inv h
          have hn : ∀ s, s ≠ [125] → isT s (t :: (q ++ [E0])) = false := fun s hs => brace_no B hs
          have hs : isS [123] (t :: (q ++ [E0])) = false := by simp [isS, B.x]
          rw [List.nil_append] at k3
          unfold defP opP wantP at k3
          rw [if_neg (by rw [hs]; decide), if_neg (by rw [hn _ (by decide)]; decide), if_neg (by rw [hn _ (by decide)]; decide), if_neg (by rw [hn _ (by decide)]; decide)] at k3
          cases k3
      | cons a v =>
        show (if isK 0 (a :: v ++ [E]) then PR.ok d1 (a :: v ++ [E]) else docF m d1 (a :: v ++ [E])) = _
        rw [if_neg (by simp [isK, hv a (by simp)])]
        exact doc_cut B q h0 n d1 (a :: v) m (by omega) (by omega) hv d r1 h
    · rw [h']; rfl
end Go.Proofs.YtgephneppgcnlaaDoor
namespace Go.Proofs.YtgephneppgcnlaaDoor
set_option linter.unusedVariables false
set_option linter.unusedSimpArgs false

/-- The last token is the end, and no other is. -/
theorem toksA_last : ∀ (a : Nat) (l : List UInt8), ∀ ts, toksA a l = .ok ts → ∃ q, ts = q ++ [⟨0, [], 0, a + l.length⟩] ∧ ∀ t ∈ q, t.kind ≠ 0 := by
  refine toksA_ind ?_ ?_ ?_ ?_ ?_
  · intro a ts h
    rw [toksA_nil] at h; injection h with h; subst h
    exact ⟨[], rfl, by simp⟩
  · intro a c l hb ih ts h
    rw [toksA_blk a hb] at h
    obtain ⟨q, h1, h2⟩ := ih ts h
    exact ⟨q, by rw [h1, List.length_cons, show a + 1 + l.length = a + (l.length + 1) from by omega], h2⟩
  · intro a c l hr ih ts h
    rw [toksA_rem a hr] at h
    obtain ⟨q, h1, h2⟩ := ih ts h
    have hl := runL_le lineB l
    exact ⟨q, by rw [h1, List.length_cons, List.length_drop, show a + 1 + runL lineB l + (l.length - runL lineB l) = a + (l.length + 1) from by omega], h2⟩
  · intro a c l off e hb hr hx ts h
    rw [toksA_bad a hb hr hx] at h; cases h
  · intro a c l k t n len hb hr ho ih ts h
    rw [toksA_one a hb hr ho] at h
    obtain ⟨us, hu, rfl⟩ := Out.cons_ok h
    obtain ⟨q, h1, h2⟩ := ih us hu
    have hl := oneP_len ho
    refine ⟨⟨k, t, n, a⟩ :: q, by rw [h1, List.length_drop, show a + len + ((c :: l).length - len) = a + (c :: l).length from by omega]; rfl, fun t' ht => ?_⟩
    rcases List.mem_cons.1 ht with rfl | ht
    · exact oneP_kind ho
    · exact h2 t' ht
theorem toks_last {s : List UInt8} {ts : List Tok} (h : toks s = .ok ts) : ∃ q, ts = q ++ [⟨0, [], 0, s.length⟩] ∧ ∀ t ∈ q, t.kind ≠ 0 := by
  have := toksA_last 0 s ts (toks_ok h).2
  simpa using this
theorem numP_brk {p r : List UInt8} {g : UInt8} (hg : ldB g = false) (hp : p ≠ []) {kd : Nat} {t : List UInt8} {n : Int} {len : Nat} (h : numP (p ++ g :: r) = .ok kd t n len) : len ≤ p.length ∧ numP p = .ok kd t n len := by
  obtain ⟨f, hf⟩ : ∃ f, numFrom p = f := ⟨_, rfl⟩
  obtain ⟨q, hq⟩ : ∃ q, runL digB (p.drop f) = q := ⟨_, rfl⟩
  have hf1 : f ≤ 1 := by rw [← hf]; exact numFrom_le p
  have h1 : 1 ≤ p.length := by cases p with | nil => exact absurd rfl hp | cons => simp
  have hf' : numFrom (p ++ g :: r) = f := by
    rw [← hf]; unfold numFrom
    cases p with | nil => exact absurd rfl hp | cons => rfl
  have hq' : runL digB ((p ++ g :: r).drop f) = q := by
    rw [List.drop_append_of_le_length (by omega), runL_cut _ _ (.inr fun _ => (ldB_no hg).2), hq]
  have hql := runL_le digB (p.drop f)
  rw [hq, List.length_drop] at hql
  rw [numP_eq hf' hq'] at h
  rw [numP_eq hf hq]
  by_cases c1 : f + q = f
  · rw [if_pos c1] at h; cases h
  rw [if_neg c1] at h ⊢
  rw [getD_left _ _ _ (by omega)] at h
  by_cases c2 : (p.getD f 0).toNat = 48 ∧ f + 1 < f + q
  · rw [if_pos c2] at h; cases h
  rw [if_neg c2] at h ⊢
  by_cases c3 : f + q < (p ++ g :: r).length ∧ (letB ((p ++ g :: r).getD (f + q) 0) = true ∨ ((p ++ g :: r).getD (f + q) 0).toNat = 46)
  · rw [if_pos c3] at h; cases h
  have c3' : ¬ (f + q < p.length ∧ (letB (p.getD (f + q) 0) = true ∨ (p.getD (f + q) 0).toNat = 46)) := by
    rintro ⟨hlt, hb⟩
    exact c3 ⟨by rw [List.length_append]; omega, by rw [getD_left _ _ _ hlt]; exact hb⟩
  rw [if_neg c3] at h
  rw [if_neg c3']
  rw [List.take_append_of_le_length (by omega), List.drop_append_of_le_length (by omega), List.take_append_of_le_length (by rw [List.length_drop]; omega)] at h
  refine ⟨?_, h⟩
  split at h
  · cases h
  · injection h with _ _ _ h; omega
/-- A token that does not begin with the sign g ends ahead of it. -/
theorem oneP_brk {p r : List UInt8} {g : UInt8} (hg : ldB g = false) (hg2 : g.toNat ≠ 46) (hp : p ≠ []) (h34 : ∀ c ∈ p, c.toNat ≠ 34) {kd : Nat} {t : List UInt8} {n : Int} {len : Nat} (h : oneP (p ++ g :: r) = .ok kd t n len) : len ≤ p.length ∧ oneP p = .ok kd t n len := by
  cases p with
  | nil => exact absurd rfl hp
  | cons c l =>
    rw [List.cons_append, oneP_cons] at h
    rw [oneP_cons]
    by_cases h1 : letB c = true
    · rw [if_pos h1] at h ⊢
      have e : runL ldB (c :: (l ++ g :: r)) = runL ldB (c :: l) := by
        rw [← List.cons_append, runL_cut _ _ (.inr fun _ => hg)]
      have hle := runL_le ldB (c :: l)
      rw [e, ← List.cons_append, List.take_append_of_le_length hle] at h
      refine ⟨?_, h⟩
      split at h
      · cases h
      · injection h with _ _ _ h; omega
    rw [if_neg h1] at h ⊢
    by_cases h2 : c.toNat = 45 ∨ digB c = true
    · rw [if_pos h2] at h ⊢
      rw [← List.cons_append] at h
      exact numP_brk hg (by simp) h
    rw [if_neg h2] at h ⊢
    have h3 : c.toNat ≠ 34 := h34 c (by simp)
    rw [if_neg h3] at h ⊢
    by_cases h4 : dotsB (c :: (l ++ g :: r)) = true
    · rw [if_pos h4] at h
      have hd : dotsB (c :: l) = true ∧ 3 ≤ (c :: l).length := by
        unfold dotsB at h4
        have h4 := of_decide_eq_true h4
        match l with
        | [] => simp at h4; exact absurd h4.2.1 hg2
        | [d] => simp at h4; exact absurd h4.2.2 hg2
        | d :: e :: l => simp at h4; exact ⟨by unfold dotsB; apply decide_eq_true; simpa using h4, by simp⟩
      rw [if_pos hd.1]
      injection h with e1 e2 e3 e4
      subst e1; subst e2; subst e3; subst e4
      exact ⟨hd.2, rfl⟩
    rw [if_neg h4] at h
    have h4' : ¬ dotsB (c :: l) = true := fun hd => h4 (by have := dots_left (g :: r) hd; rw [List.cons_append] at this; exact this)
    rw [if_neg h4']
    by_cases h5 : signB c = true
    · rw [if_pos h5] at h ⊢
      injection h with e1 e2 e3 e4
      subst e1; subst e2; subst e3; subst e4
      exact ⟨by simp, rfl⟩
    · rw [if_neg h5] at h; cases h
/-- A text without quotes and remarks, parted at a closing sign. -/
theorem toksA_brace : ∀ (a : Nat) (l : List UInt8), ∀ (p q : List UInt8), l = p ++ 125 :: q → (∀ c ∈ l, c.toNat ≠ 34 ∧ c.toNat ≠ 35) → ∀ ts, toksA a l = .ok ts → ∃ u us, ts = u ++ ⟨4, [125], 0, a + p.length⟩ :: us ∧ toksA a p = .ok (u ++ [⟨0, [], 0, a + p.length⟩]) := by
  refine toksA_ind ?_ ?_ ?_ ?_ ?_
  · intro a p q e; simp at e
  · intro a c l hb ih p q e hc ts h
    cases p with
    | nil => rw [List.nil_append] at e; injection e with e1 e2; subst e1; exact absurd hb (by decide)
    | cons d p =>
      rw [List.cons_append] at e; injection e with e1 e2; subst e1
      rw [toksA_blk a hb] at h
      obtain ⟨u, us, h1, h2⟩ := ih p q e2 (fun x hx => hc x (by simp [hx])) ts h
      rw [show a + 1 + p.length = a + (c :: p).length from by rw [List.length_cons]; omega] at h1 h2
      exact ⟨u, us, h1, by rw [toksA_blk a hb]; exact h2⟩
  · intro a c l hr ih p q e hc
    exact absurd hr (hc c (by simp)).2
  · intro a c l off e hb hr hx p q _ _ ts h
    rw [toksA_bad a hb hr hx] at h; cases h
  · intro a c l k t n len hb hr ho ih p q e hc ts h
    rw [toksA_one a hb hr ho] at h
    obtain ⟨us, hu, rfl⟩ := Out.cons_ok h
    cases p with
    | nil =>
      rw [List.nil_append] at e; injection e with e1 e2; subst e1
      have hs : oneP (125 :: l) = .ok 4 [125] 0 1 := by
        rw [oneP_cons, if_neg (by decide), if_neg (by decide), if_neg (by decide), dots_first l (by decide), if_neg (by decide), if_pos (by decide)]
      rw [hs] at ho
      injection ho with e1 e3 e4 e5
      subst e1; subst e3; subst e4; subst e5
      exact ⟨[], us, rfl, toksA_nil a⟩
    | cons d p =>
      have hne : d :: p ≠ [] := by simp
      rw [e] at ho
      obtain ⟨k1, k2⟩ := oneP_brk (g := 125) (by decide) (by decide) hne (fun x hx => (hc x (by rw [e]; exact List.mem_append_left _ hx)).1) ho
      have hl := oneP_len k2
      have ed : (c :: l).drop len = (d :: p).drop len ++ 125 :: q := by rw [e, List.drop_append_of_le_length k1]
      obtain ⟨u, vs, h1, h2⟩ := ih _ q ed (fun x hx => hc x (List.mem_of_mem_drop hx)) us hu
      rw [List.length_drop, show a + len + ((d :: p).length - len) = a + (d :: p).length from by omega] at h1 h2
      injection e with e1 e2; subst e1
      exact ⟨⟨k, t, n, a⟩ :: u, vs, by rw [h1]; rfl, by rw [toksA_one a hb hr k2, h2]; rfl⟩
/-- A document cut short ahead of its last closing sign is none; the place is the end. -/
theorem docP_cut {s p q : List UInt8} {d : DC} (h : docP s = .ok d) (e : s = p ++ 125 :: q) (hc : ∀ c ∈ s, c.toNat ≠ 34 ∧ c.toNat ≠ 35) : docP p = .bad p.length 4 := by
  unfold docP at h ⊢
  cases ht : toks s with
  | bad a e => rw [ht] at h; cases h
  | ok ts =>
    rw [ht] at h
    have h : (match docF (ts.length + 1) ⟨[], []⟩ ts with | .ok d _ => DR1.ok d | .bad a e => .bad a e) = .ok d := h
    obtain ⟨hl, hA⟩ := toks_ok ht
    obtain ⟨u, us, h1, h2⟩ := toksA_brace 0 s p q e hc ts hA
    rw [Nat.zero_add] at h1 h2
    obtain ⟨q0, e0, hk⟩ := toks_last ht
    have hus : ∃ q1, us = q1 ++ [⟨0, [], 0, s.length⟩] := by
      rcases List.eq_nil_or_concat us with rfl | ⟨q1, x, rfl⟩
      · exfalso
        have h3 : u ++ [(⟨4, [125], 0, p.length⟩ : Tok)] = q0 ++ [⟨0, [], 0, s.length⟩] := h1.symm.trans e0
        have := (List.append_inj' h3 rfl).2
        injection this with this; injection this with this; cases this
      · rw [List.concat_eq_append] at h1 ⊢
        have h3 : (u ++ (⟨4, [125], 0, p.length⟩ : Tok) :: q1) ++ [x] = q0 ++ [⟨0, [], 0, s.length⟩] := by rw [← e0, h1]; simp
        exact ⟨q1, by rw [(List.append_inj' h3 rfl).2]⟩
    obtain ⟨q1, rfl⟩ := hus
    have hp : p.length ≤ 2000 := by rw [e, List.length_append] at hl; omega
    rw [toks_short hp, h2]
    show (match docF ((u ++ [(⟨0, [], 0, p.length⟩ : Tok)]).length + 1) ⟨[], []⟩ (u ++ [⟨0, [], 0, p.length⟩]) with | .ok d _ => DR1.ok d | .bad a e => .bad a e) = _
    have hu : ∀ t ∈ u, t.kind ≠ 0 := fun t hu => by
      have : q0 = u ++ ⟨4, [125], 0, p.length⟩ :: q1 := by
        have h3 : q0 ++ [⟨0, [], 0, s.length⟩] = (u ++ ⟨4, [125], 0, p.length⟩ :: q1) ++ [⟨0, [], 0, s.length⟩] := by rw [← e0, h1]; simp
        exact List.append_cancel_right h3
      exact hk t (by rw [this]; simp [hu])
    cases hd : docF (ts.length + 1) ⟨[], []⟩ ts with
    | bad a e => rw [hd] at h; cases h
    | ok d1 r1 =>
      rw [h1] at hd
      have B : Brace ⟨4, [125], 0, p.length⟩ ⟨0, [], 0, p.length⟩ := ⟨rfl, rfl, rfl⟩
      rw [doc_cut B q1 (E0 := ⟨0, [], 0, s.length⟩) rfl _ ⟨[], []⟩ u _ (by omega) (by omega) hu d1 r1 hd]
theorem brace_tok : ∀ (a : Nat) (l : List UInt8), (∀ c ∈ l, c.toNat ≠ 125) → ∀ ts, toksA a l = .ok ts → ∀ t ∈ ts, ¬ ((t.kind = 4 ∨ t.kind = 1) ∧ t.text = [125]) := by
  refine toksA_ind ?_ ?_ ?_ ?_ ?_
  · intro a _ ts h t ht
    rw [toksA_nil] at h; injection h with h; subst h
    simp at ht; subst ht; rintro ⟨h, -⟩; rcases h with h | h <;> cases h
  · intro a c l hb ih hc ts h
    rw [toksA_blk a hb] at h
    exact ih (fun x hx => hc x (by simp [hx])) ts h
  · intro a c l hr ih hc ts h
    rw [toksA_rem a hr] at h
    exact ih (fun x hx => hc x (by simp [List.mem_of_mem_drop hx])) ts h
  · intro a c l off e hb hr hx _ ts h
    rw [toksA_bad a hb hr hx] at h; cases h
  · intro a c l k t n len hb hr ho ih hc ts h
    rw [toksA_one a hb hr ho] at h
    obtain ⟨us, hu, rfl⟩ := Out.cons_ok h
    intro t' ht
    rcases List.mem_cons.1 ht with rfl | ht
    · rintro ⟨e1, e2⟩
      have e1 : k = 4 ∨ k = 1 := e1
      have e2 : t = [125] := e2
      have hl := oneP_len ho
      have := (oneP_text ho).2.2
      rcases this with h3 | h3
      · omega
      · obtain ⟨m, hm⟩ : ∃ m, len = m + 1 := ⟨len - 1, by omega⟩
        rw [e2, hm, List.take_succ_cons] at h3
        injection h3 with e _
        exact hc c (by simp) (by rw [← e]; decide)
    · exact ih (fun x hx => hc x (List.mem_of_mem_drop hx)) us hu t' ht
theorem many_brace {α : Type} {E : Tok} {f : List Tok → PR α} (h0 : E.kind = 0) (hf : ∀ u, JnP E [] u (f (u ++ [E])) (f (u ++ []))) : ∀ (n : Nat) (acc : List α) (pre : List Tok) xs r1, manyP f [125] n acc (pre ++ [E]) = .ok xs r1 → ∃ t ∈ pre, isT [125] [t] = true
  | 0, _, _, _, _, h => by cases h
  | n + 1, acc, pre, xs, r1, h => by
    rw [manyP] at h
    obtain ⟨x, r2, k1, h⟩ := bind_inv h
    have hq := hf pre
    rw [k1] at hq
    obtain ⟨u, q1, rfl, -⟩ := hq
    split at h
    · rename_i hc
      cases u with
      | nil => rw [List.nil_append, (tst_T h0 _).no] at hc; cases hc
      | cons a u => exact ⟨a, q1.subset (by simp), by rw [← hc]; rfl⟩
    · obtain ⟨t, ht, h2⟩ := many_brace h0 hf n _ u xs r1 h
      exact ⟨t, q1.subset ht, h2⟩
theorem set_brace {E : Tok} (h0 : E.kind = 0) (d : Nat) (pre : List Tok) {xs : List SL} {r1 : List Tok} (h : setP d (pre ++ [E]) = .ok xs r1) : ∃ t ∈ pre, isT [125] [t] = true := by
  cases d with
  | zero => cases h
  | succ d =>
    rw [setP] at h
    obtain ⟨x, r2, k1, h⟩ := bind_inv h
    have hq := want_jc (tl := []) h0 [123] pre
    rw [k1] at hq
    obtain ⟨u, q1, -, rfl, -⟩ := hq
    obtain ⟨t, ht, h2⟩ := many_brace h0 (sel_jn h0 d (set_jc h0 d)) _ _ u xs r1 h
    exact ⟨t, q1.subset ht, h2⟩
theorem def_brace {E : Tok} (h0 : E.kind = 0) (acc : DC) (pre : List Tok) {d : DC} {r1 : List Tok} (h : defP acc (pre ++ [E]) = .ok d r1) : ∃ t ∈ pre, isT [125] [t] = true := by
  unfold defP at h
  split at h
  · obtain ⟨x, r2, k1, h⟩ := bind_inv h
    exact set_brace h0 _ pre k1
  · split at h
    · rename_i hs
      cases pre with
      | nil => rw [List.nil_append, (tst_T h0 _).no] at hs; cases hs
      | cons a u =>
        obtain ⟨x, r2, k1, h⟩ := bind_inv h
        rw [List.cons_append, List.tail_cons] at k1
        unfold fragP at k1
        split at k1
        · cases k1
        · obtain ⟨s, r3, k2, k1⟩ := bind_inv k1
          have hq := name_jc (tl := []) h0 u
          rw [k2] at hq
          obtain ⟨u2, q1, -, rfl, -⟩ := hq
          obtain ⟨_, r4, k3, k1⟩ := bind_inv k1
          have hq := want_jc (tl := []) h0 wOn u2
          rw [k3] at hq
          obtain ⟨u3, q2, -, rfl, -⟩ := hq
          obtain ⟨o, r5, k4, k1⟩ := bind_inv k1
          have hq := name_jc (tl := []) h0 u3
          rw [k4] at hq
          obtain ⟨u4, q3, -, rfl, -⟩ := hq
          obtain ⟨sub, r6, k5, k1⟩ := bind_inv k1
          obtain ⟨t, ht, h2⟩ := set_brace h0 _ u4 k5
          exact ⟨t, by simp [q1.subset (q2.subset (q3.subset ht))], h2⟩
    · obtain ⟨x, r2, k1, h⟩ := bind_inv h
      unfold opP at k1
      obtain ⟨m, r3, k2, k1⟩ := bind_inv k1
      have hq : JnP E [] pre (if isT wMutation (pre ++ [E]) then PR.ok true (pre ++ [E]).tail else (wantP wQuery (pre ++ [E])).bind fun _ r1 => .ok false r1) (if isT wMutation (pre ++ []) then PR.ok true (pre ++ []).tail else (wantP wQuery (pre ++ [])).bind fun _ r1 => .ok false r1) :=
        jn_if (tst_T h0 _) (fun a w e _ => by subst e; exact (JcP.ok _ _ _).jn) (jn_map (want_jc h0 _ pre).jn)
      rw [k2] at hq
      obtain ⟨u, q1, rfl, -⟩ := hq
      obtain ⟨s, r4, k3, k1⟩ := bind_inv k1
      have hq : JnP E [] u (if isK 1 (u ++ [E]) then nameP (u ++ [E]) else .ok [] (u ++ [E])) (if isK 1 (u ++ []) then nameP (u ++ []) else .ok [] (u ++ [])) := jn_if (tst_K h0) (fun _ _ _ _ => (name_jc h0 u).jn) (.ok _ _)
      rw [k3] at hq
      obtain ⟨u2, q2, rfl, -⟩ := hq
      obtain ⟨vs, r5, k4, k1⟩ := bind_inv k1
      have hq : JnP E [] u2 (if isS [40] (u2 ++ [E]) then manyP varP [41] ((u2 ++ [E]).length + 1) [] (u2 ++ [E]).tail else .ok [] (u2 ++ [E])) (if isS [40] (u2 ++ []) then manyP varP [41] ((u2 ++ []).length + 1) [] (u2 ++ []).tail else .ok [] (u2 ++ [])) :=
        jn_if (tst_S h0 _) (fun a w e _ => by subst e; exact JnP.weak (List.suffix_cons _ _) (many_jc h0 (var_jn h0) varP_takes _ _ _ w _ (by simp <;> omega) (by simp <;> omega)).jn) (.ok _ _)
      rw [k4] at hq
      obtain ⟨u3, q3, rfl, -⟩ := hq
      obtain ⟨sub, r6, k5, k1⟩ := bind_inv k1
      obtain ⟨t, ht, h2⟩ := set_brace h0 _ u3 k5
      exact ⟨t, q1.subset (q2.subset (q3.subset ht)), h2⟩
/-- A document has a closing sign. -/
theorem docP_brace {s : List UInt8} {d : DC} (h : docP s = .ok d) : ∃ c ∈ s, c.toNat = 125 := by
  apply Classical.byContradiction
  intro hn
  have hn : ∀ c ∈ s, c.toNat ≠ 125 := fun c hc e => hn ⟨c, hc, e⟩
  unfold docP at h
  cases ht : toks s with
  | bad a e => rw [ht] at h; cases h
  | ok ts =>
    rw [ht] at h
    have h : (match docF (ts.length + 1) ⟨[], []⟩ ts with | .ok d _ => DR1.ok d | .bad a e => .bad a e) = .ok d := h
    cases hd : docF (ts.length + 1) ⟨[], []⟩ ts with
    | bad a e => rw [hd] at h; cases h
    | ok d1 r1 =>
      rw [docF] at hd
      obtain ⟨d2, r2, k1, -⟩ := bind_inv hd
      obtain ⟨q0, e0, hk⟩ := toks_last ht
      have hb := brace_tok 0 s hn ts (toks_ok ht).2
      rw [e0] at k1
      obtain ⟨t, ht', h2⟩ := def_brace (E := ⟨0, [], 0, s.length⟩) rfl _ q0 k1
      have hm : t ∈ ts := by rw [e0]; simp [ht']
      simp only [isT, isS, isW, Bool.or_eq_true, Bool.and_eq_true, decide_eq_true_eq] at h2
      rcases h2 with h2 | h2
      · exact hb t hm ⟨.inl h2.1, h2.2⟩
      · exact hb t hm ⟨.inr h2.1, h2.2⟩
end Go.Proofs.YtgephneppgcnlaaDoor
namespace Go.Proofs.YtgephneppgcnlaaDoor
set_option linter.unusedVariables false
set_option linter.unusedSimpArgs false

def DR1.up (n : Nat) (d : DC) : DR1 → DR1
  | .ok m => .ok (d.app m)
  | .bad a e => .bad (a + n) e
theorem relT_up (n : Nat) : ∀ r : List Tok, RelT (fun a b => b = a + n) r (r.map (Tok.upp n))
  | [] => trivial
  | t :: r => ⟨⟨rfl, rfl, rfl, rfl⟩, relT_up n r⟩
theorem DC.app_nil (d : DC) : d.app ⟨[], []⟩ = d := by cases d; simp [DC.app]
theorem endR_k0 {r : List Tok} (q : List Tok) (E : Tok) (h0 : E.kind = 0) (hq : ∀ t ∈ q, t.kind ≠ 0) (e : r = q ++ [E]) (h : isK 0 r = true) : r = [E] := by
  cases q with
  | nil => exact e
  | cons a q => subst e; exact absurd (of_decide_eq_true (show decide (a.kind = 0) = true from h)) (hq a (by simp))
theorem def_end {E : Tok} (h0 : E.kind = 0) (d : DC) : defP d [E] = .bad E.at_ 4 := by
  have hn : ∀ s, isT s [E] = false := fun s => (tst_T h0 s).no
  unfold defP opP wantP
  rw [if_neg (by rw [(tst_S h0 _).no]; decide), if_neg (by rw [hn]; decide), if_neg (by rw [hn]; decide), if_neg (by rw [hn]; decide)]
  rfl
theorem docP_join {a b : List UInt8} {d : DC} (ha : docP a = .ok d) (hl : a.length + b.length ≤ 1999) : docP (a ++ 10 :: b) = (docP b).up (a.length + 1) d ∨ ∃ x, docP b = .bad x 4 := by
  unfold docP at ha
  cases hta : toks a with
  | bad x e => rw [hta] at ha; cases ha
  | ok ts =>
    rw [hta] at ha
    have ha : (match docF (ts.length + 1) ⟨[], []⟩ ts with | .ok d _ => DR1.ok d | .bad a e => .bad a e) = .ok d := ha
    have hj := toks_join hta hl
    obtain ⟨pre, e0, hk⟩ := toks_last hta
    cases hd : docF (ts.length + 1) ⟨[], []⟩ ts with
    | bad x e => rw [hd] at ha; cases ha
    | ok d' r1 =>
      rw [hd] at ha
      injection ha with ha; subst ha
      unfold docP
      rw [hj]
      cases htb : toks b with
      | bad x e => exact .inl rfl
      | ok tb =>
        obtain ⟨q, e1, hq⟩ := toks_last htb
        have hdl : ts.dropLast = pre := by rw [e0, List.dropLast_concat]
        show (match docF ((ts.dropLast ++ tb.map (Tok.upp (a.length + 1))).length + 1) ⟨[], []⟩ (ts.dropLast ++ tb.map (Tok.upp (a.length + 1))) with | .ok d _ => DR1.ok d | .bad a e => .bad a e) = (match docF (tb.length + 1) ⟨[], []⟩ tb with | .ok d _ => DR1.ok d | .bad a e => .bad a e).up (a.length + 1) d' ∨ ∃ x, (match docF (tb.length + 1) ⟨[], []⟩ tb with | .ok d _ => DR1.ok d | .bad a e => .bad a e) = .bad x 4
        rw [hdl]
        cases hk0 : isK 0 tb with
        | true =>
          right
          have := endR_k0 q _ rfl hq e1 hk0
          rw [this, docF, def_end rfl]
          exact ⟨_, rfl⟩
        | false =>
          left
          have hsim := doc_sim (tb.length + 1) ⟨[], []⟩ (fun a' b' => b' = a' + (a.length + 1)) tb _ (relT_up _ tb) (toks_end htb).1
          have hk1 : isK 0 (tb.map (Tok.upp (a.length + 1))) = false := by rw [relT_isK (relT_up (a.length + 1) tb) (toks_end htb).1 0]; exact hk0
          rw [e0] at hd
          have h3 := doc_join (E := ⟨0, [], 0, a.length⟩) (tl := tb.map (Tok.upp (a.length + 1))) rfl hk1 _ ⟨[], []⟩ pre ((pre ++ tb.map (Tok.upp (a.length + 1))).length + 1) (by omega) (by omega) hk d' r1 hd
          rw [h3, doc_more _ (tb.length + 1) _ _ (by rw [List.length_append]; omega) (by rw [List.length_map]; omega)]
          conv => lhs; rw [← DC.app_nil d']
          rw [doc_app]
          cases h4 : docF (tb.length + 1) ⟨[], []⟩ tb with
          | ok m r2 =>
            rw [h4] at hsim
            cases h5 : docF (tb.length + 1) ⟨[], []⟩ (tb.map (Tok.upp (a.length + 1))) with
            | ok m' r3 => rw [h5] at hsim; obtain ⟨rfl, -⟩ := hsim; rfl
            | bad x e => rw [h5] at hsim; exact hsim.elim
          | bad x e =>
            rw [h4] at hsim
            cases h5 : docF (tb.length + 1) ⟨[], []⟩ (tb.map (Tok.upp (a.length + 1))) with
            | ok m' r3 => rw [h5] at hsim; exact hsim.elim
            | bad x' e' => rw [h5] at hsim; obtain ⟨rfl, rfl⟩ := hsim; rfl
end Go.Proofs.YtgephneppgcnlaaDoor
