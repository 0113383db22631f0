/- Documents, in plain Lean: places change nothing but places. Documents, in plain Lean: fuel; what is read takes tokens (the rest). Documents, in plain Lean: other tokens in the place of the end. Documents, in plain Lean: tokens that end ahead of a closing sign. Tokens, in plain Lean: a closing sign parts a text; the end alone is of kind 0. The laws of documents that are cut short, and that are joined. Documents, in plain Lean: two texts, one behind the other. -/
import Derived.Test.YtgephneppgcnlaaDoorPrA
import Derived.Test.YtgephneppgcnlaaDoorEnR
import Derived.Test.YtgephneppgcnlaaDoorTkA
namespace Go.Proofs.YtgephneppgcnlaaDoor
set_option linter.unusedVariables false
set_option linter.unusedSimpArgs false

/-- The same tokens, at places that S relates. -/
def RelT (S : Nat → Nat → Prop) : List Tok → List Tok → Prop
  | [], [] => True
  | t :: r, t' :: r' => (t.kind = t'.kind ∧ t.text = t'.text ∧ t.n = t'.n ∧ S t.at_ t'.at_) ∧ RelT S r r'
  | _, _ => False
def SimP {α : Type} (S : Nat → Nat → Prop) : PR α → PR α → Prop
  | .ok x r, .ok x' r' => x = x' ∧ RelT S r r' ∧ EndR r
  | .bad a e, .bad a' e' => e = e' ∧ S a a'
  | _, _ => False
def Sim {α : Type} (f : List Tok → PR α) : Prop := ∀ S r r', RelT S r r' → EndR r → SimP S (f r) (f r')
theorem RelT.len {S : Nat → Nat → Prop} : ∀ {r r' : List Tok}, RelT S r r' → r.length = r'.length
  | [], [], _ => rfl
  | _ :: r, _ :: r', h => by have := RelT.len h.2; simp only [List.length_cons]; omega
  | [], _ :: _, h => h.elim
  | _ :: _, [], h => h.elim
theorem EndR.ne {r : List Tok} (h : EndR r) : ∃ t u, r = t :: u := by
  cases r with
  | nil => exact h.elim
  | cons t u => exact ⟨t, u, rfl⟩
theorem RelT.cons {S : Nat → Nat → Prop} {r r' : List Tok} (h : RelT S r r') (he : EndR r) : ∃ t u t' u', r = t :: u ∧ r' = t' :: u' ∧ t.kind = t'.kind ∧ t.text = t'.text ∧ t.n = t'.n ∧ S t.at_ t'.at_ ∧ RelT S u u' := by
  obtain ⟨t, u, rfl⟩ := he.ne
  cases r' with
  | nil => exact h.elim
  | cons t' u' => exact ⟨t, u, t', u', rfl, rfl, h.1.1, h.1.2.1, h.1.2.2.1, h.1.2.2.2, h.2⟩
theorem relT_isS {S : Nat → Nat → Prop} {r r' : List Tok} (h : RelT S r r') (he : EndR r) (s : List UInt8) : isS s r' = isS s r := by
  obtain ⟨t, u, t', u', rfl, rfl, h1, h2, -⟩ := h.cons he
  simp only [isS, h1, h2]
theorem relT_isW {S : Nat → Nat → Prop} {r r' : List Tok} (h : RelT S r r') (he : EndR r) (s : List UInt8) : isW s r' = isW s r := by
  obtain ⟨t, u, t', u', rfl, rfl, h1, h2, -⟩ := h.cons he
  simp only [isW, h1, h2]
theorem relT_isK {S : Nat → Nat → Prop} {r r' : List Tok} (h : RelT S r r') (he : EndR r) (k : Nat) : isK k r' = isK k r := by
  obtain ⟨t, u, t', u', rfl, rfl, h1, -⟩ := h.cons he
  simp only [isK, h1]
theorem relT_isT {S : Nat → Nat → Prop} {r r' : List Tok} (h : RelT S r r') (he : EndR r) (s : List UInt8) : isT s r' = isT s r := by
  unfold isT; rw [relT_isS h he, relT_isW h he]
theorem relT_at {S : Nat → Nat → Prop} {r r' : List Tok} (h : RelT S r r') (he : EndR r) : S (atT r) (atT r') := by
  obtain ⟨t, u, t', u', rfl, rfl, -, -, -, h4, -⟩ := h.cons he
  exact h4
theorem relT_tail {S : Nat → Nat → Prop} {r r' : List Tok} (h : RelT S r r') (he : EndR r) (hk : isK 0 r = false) : RelT S r.tail r'.tail ∧ EndR r.tail := by
  obtain ⟨t, u, t', u', rfl, rfl, h1, h2, h3, h4, h5⟩ := h.cons he
  exact ⟨h5, he.tail (by simpa [isK] using hk)⟩
theorem isS_k0 {s : List UInt8} {r : List Tok} (h : isS s r = true) : isK 0 r = false := by
  obtain ⟨t, u, rfl⟩ := isS_cons h
  simp only [isS, Bool.and_eq_true, decide_eq_true_eq] at h
  simp [isK, h.1]
theorem isT_k0 {s : List UInt8} {r : List Tok} (h : isT s r = true) : isK 0 r = false := by
  obtain ⟨t, u, rfl⟩ := isT_cons h
  simp only [isT, isS, isW, Bool.or_eq_true, Bool.and_eq_true, decide_eq_true_eq] at h
  rcases h with h | h <;> simp [isK, h.1]
theorem sim_bind {α β : Type} {S : Nat → Nat → Prop} {p p' : PR α} {f g : α → List Tok → PR β} (h : SimP S p p') (hf : ∀ x r r', RelT S r r' → EndR r → SimP S (f x r) (g x r')) : SimP S (p.bind f) (p'.bind g) := by
  cases p with
  | ok x r => cases p' with
    | ok x' r' => obtain ⟨rfl, h2, h3⟩ := h; exact hf x r r' h2 h3
    | bad a e => exact h.elim
  | bad a e => cases p' with
    | ok x' r' => exact h.elim
    | bad a' e' => exact h
theorem sim_if {α : Type} {S : Nat → Nat → Prop} {c c' : Bool} {p q p' q' : PR α} (hc : c' = c) (h1 : c = true → SimP S p p') (h2 : c = false → SimP S q q') : SimP S (if c then p else q) (if c' then p' else q') := by
  subst hc
  cases c' with
  | true => exact h1 rfl
  | false => exact h2 rfl
theorem want_sim (s : List UInt8) : Sim (wantP s) := fun S r r' h e => by
  unfold wantP
  refine sim_if (relT_isT h e s) (fun hs => ?_) (fun _ => ?_)
  · obtain ⟨h1, h2⟩ := relT_tail h e (isT_k0 hs); exact ⟨rfl, h1, h2⟩
  · exact ⟨rfl, relT_at h e⟩
theorem name_sim : Sim nameP := fun S r r' h e => by
  obtain ⟨t, u, t', u', rfl, rfl, h1, h2, h3, h4, h5⟩ := h.cons e
  show SimP S (if t.kind = 1 then .ok t.text u else .bad t.at_ 4) (if t'.kind = 1 then .ok t'.text u' else .bad t'.at_ 4)
  rw [h1, h2]
  split
  · rename_i hk
    exact ⟨rfl, h5, e.tail (by omega)⟩
  · exact ⟨rfl, h4⟩
theorem many_sim {α : Type} {f : List Tok → PR α} (hf : Sim f) (close : List UInt8) : ∀ (n : Nat) (acc : List α), Sim (manyP f close n acc)
  | 0, acc => fun S r r' h e => ⟨rfl, relT_at h e⟩
  | n + 1, acc => fun S r r' h e => by
    rw [manyP, manyP]
    exact sim_bind (hf S r r' h e) fun x r1 r1' h e => sim_if (relT_isT h e close) (fun hs => by obtain ⟨h1, h2⟩ := relT_tail h e (isT_k0 hs); exact ⟨rfl, h1, h2⟩) (fun _ => many_sim hf close n _ S _ _ h e)
theorem any_sim {α : Type} {f : List Tok → PR α} (hf : Sim f) (close : List UInt8) : ∀ (n : Nat) (acc : List α), Sim (anyP f close n acc)
  | 0, acc => fun S r r' h e => ⟨rfl, relT_at h e⟩
  | n + 1, acc => fun S r r' h e => by
    rw [anyP, anyP]
    exact sim_if (relT_isT h e close) (fun hs => by obtain ⟨h1, h2⟩ := relT_tail h e (isT_k0 hs); exact ⟨rfl, h1, h2⟩) (fun _ => sim_bind (hf S r r' h e) fun x r1 r1' h e => any_sim hf close n _ S _ _ h e)
theorem pair_sim {f : List Tok → PR VT} (hf : Sim f) : Sim (pairP f) := fun S r r' h e => sim_bind (name_sim S r r' h e) fun s r1 r1' h e => sim_bind (want_sim _ S r1 r1' h e) fun _ r2 r2' h e => sim_bind (hf S r2 r2' h e) fun v r3 r3' h e => ⟨rfl, h, e⟩
theorem valueB_eqn (fixed : Bool) (f : List Tok → PR VT) (t : Tok) (r : List Tok) : valueB fixed f (t :: r) =
    if t.kind = 2 then .ok (.mk 1 t.n [] [] []) r
    else if t.kind = 3 then .ok (.mk 2 0 t.text [] []) r
    else if isT wTrue (t :: r) then .ok (.mk 3 1 [] [] []) r
    else if isT wFalse (t :: r) then .ok (.mk 3 0 [] [] []) r
    else if isT wNull (t :: r) then .ok VT.zero r
    else if t.kind = 1 then .ok (.mk 4 0 t.text [] []) r
    else if !fixed && isT [36] (t :: r) then (nameP r).bind fun s r1 => .ok (.mk 7 0 s [] []) r1
    else if isT [91] (t :: r) then (anyP f [93] (r.length + 1) [] r).bind fun vs r1 => .ok (.mk 5 0 [] [] vs) r1
    else if isT [123] (t :: r) then (anyP (pairP f) [125] (r.length + 1) [] r).bind fun ps r1 => .ok (.mk 6 0 [] (ps.map (·.1)) (ps.map (·.2))) r1
    else .bad t.at_ 4 := rfl
theorem valueB_sim (fixed : Bool) {f : List Tok → PR VT} (hf : Sim f) : Sim (valueB fixed f) := fun S r r' h e => by
  have hT := fun s => relT_isT h e s
  obtain ⟨t, u, t', u', rfl, rfl, h1, h2, h3, h4, h5⟩ := h.cons e
  have hl := h5.len
  rw [valueB_eqn, valueB_eqn, hT, hT, hT, hT, hT, hT, ← h1, ← h2, ← h3, ← hl]
  have hu : isT wTrue (t :: u) = true ∨ isT wFalse (t :: u) = true ∨ isT wNull (t :: u) = true ∨ isT [36] (t :: u) = true ∨ isT [91] (t :: u) = true ∨ isT [123] (t :: u) = true → EndR u := fun hh => by
    have : isK 0 (t :: u) = false := by rcases hh with hh | hh | hh | hh | hh | hh <;> exact isT_k0 hh
    exact e.tail (by simpa [isK] using this)
  split
  · exact ⟨rfl, h5, e.tail (by omega)⟩
  · split
    · exact ⟨rfl, h5, e.tail (by omega)⟩
    · split
      · rename_i hh; exact ⟨rfl, h5, hu (.inl hh)⟩
      · split
        · rename_i hh; exact ⟨rfl, h5, hu (.inr (.inl hh))⟩
        · split
          · rename_i hh; exact ⟨rfl, h5, hu (.inr (.inr (.inl hh)))⟩
          · split
            · exact ⟨rfl, h5, e.tail (by omega)⟩
            · split
              · rename_i hh
                simp only [Bool.and_eq_true] at hh
                exact sim_bind (name_sim S u u' h5 (hu (.inr (.inr (.inr (.inl hh.2)))))) fun s r1 r1' h e => ⟨rfl, h, e⟩
              · split
                · rename_i hh
                  exact sim_bind (any_sim hf _ _ _ S u u' h5 (hu (.inr (.inr (.inr (.inr (.inl hh))))))) fun s r1 r1' h e => ⟨rfl, h, e⟩
                · split
                  · rename_i hh
                    exact sim_bind (any_sim (pair_sim hf) _ _ _ S u u' h5 (hu (.inr (.inr (.inr (.inr (.inr hh))))))) fun s r1 r1' h e => ⟨rfl, h, e⟩
                  · exact ⟨rfl, h4⟩
theorem value_sim (fixed : Bool) : ∀ d, Sim (valueP fixed d)
  | 0 => fun S r r' h e => ⟨rfl, relT_at h e⟩
  | d + 1 => valueB_sim fixed (value_sim fixed d)
theorem bang_sim (mk : Bool → TR) : Sim (bangP mk) := fun S r r' h e => by
  unfold bangP
  exact sim_if (relT_isT h e _) (fun hs => by obtain ⟨h1, h2⟩ := relT_tail h e (isT_k0 hs); exact ⟨rfl, h1, h2⟩) (fun _ => ⟨rfl, h, e⟩)
theorem typ_sim : ∀ d, Sim (typP d)
  | 0 => fun S r r' h e => ⟨rfl, relT_at h e⟩
  | d + 1 => fun S r r' h e => by
    rw [typP, typP]
    refine sim_if (relT_isT h e _) (fun hs => ?_) (fun _ => ?_)
    · obtain ⟨h1, h2⟩ := relT_tail h e (isT_k0 hs)
      exact sim_bind (typ_sim d S _ _ h1 h2) fun t r1 r1' h e => sim_bind (want_sim _ S _ _ h e) fun _ r2 r2' h e => bang_sim _ S _ _ h e
    · exact sim_bind (name_sim S _ _ h e) fun s r1 r1' h e => bang_sim _ S _ _ h e
theorem arg_sim (d : Nat) : Sim (argP d) := fun S r r' h e => sim_bind (name_sim S _ _ h e) fun s r1 r1' h e => sim_bind (want_sim _ S _ _ h e) fun _ r2 r2' h e => sim_bind (value_sim _ _ S _ _ h e) fun v r3 r3' h e => ⟨rfl, h, e⟩
theorem args_sim (d : Nat) : Sim (argsP d) := fun S r r' h e => by
  unfold argsP
  rw [h.len]
  refine sim_if (relT_isS h e _) (fun hs => ?_) (fun _ => ⟨rfl, h, e⟩)
  obtain ⟨h1, h2⟩ := relT_tail h e (isS_k0 hs)
  exact many_sim (arg_sim d) _ _ _ S _ _ h1 h2
theorem dir_sim (d : Nat) : Sim (dirP d) := fun S r r' h e => sim_bind (name_sim S _ _ h e) fun s r1 r1' h e => sim_bind (args_sim d S _ _ h e) fun v r3 r3' h e => ⟨rfl, h, e⟩
theorem dirs_sim (d : Nat) : ∀ (n : Nat) (acc : List DR), Sim (dirsP d n acc)
  | 0, acc => fun S r r' h e => ⟨rfl, relT_at h e⟩
  | n + 1, acc => fun S r r' h e => by
    rw [dirsP, dirsP]
    refine sim_if (relT_isT h e _) (fun hs => ?_) (fun _ => ⟨rfl, h, e⟩)
    obtain ⟨h1, h2⟩ := relT_tail h e (isT_k0 hs)
    exact sim_bind (dir_sim d S _ _ h1 h2) fun x r1 r1' h e => dirs_sim d n _ S _ _ h e
theorem sel_sim (d : Nat) {g : List Tok → PR (List SL)} (hg : Sim g) : Sim (selP d g) := fun S r r' h e => by
  unfold selP
  refine sim_if (relT_isT h e _) (fun hs => ?_) (fun _ => ?_)
  · obtain ⟨h, e⟩ := relT_tail h e (isT_k0 hs)
    refine sim_if (relT_isT h e _) (fun hs => ?_) (fun _ => sim_if (relT_isK h e _) (fun hk => ?_) (fun _ => ?_))
    · obtain ⟨h, e⟩ := relT_tail h e (isT_k0 hs)
      exact sim_bind (name_sim S _ _ h e) fun s r1 r1' h e => by rw [h.len]; exact sim_bind (dirs_sim d _ _ S _ _ h e) fun ds r2 r2' h e => sim_bind (hg S _ _ h e) fun sub r3 r3' h e => ⟨rfl, h, e⟩
    · exact sim_bind (name_sim S _ _ h e) fun s r1 r1' h e => by rw [h.len]; exact sim_bind (dirs_sim d _ _ S _ _ h e) fun ds r2 r2' h e => ⟨rfl, h, e⟩
    · rw [h.len]
      exact sim_bind (dirs_sim d _ _ S _ _ h e) fun ds r2 r2' h e => sim_bind (hg S _ _ h e) fun sub r3 r3' h e => ⟨rfl, h, e⟩
  · refine sim_bind (name_sim S _ _ h e) fun s r1 r1' h e => sim_bind (sim_if (relT_isT h e _) (fun hs => ?_) (fun _ => ⟨rfl, h, e⟩)) fun p r2 r2' h e => sim_bind (args_sim d S _ _ h e) fun gs r3 r3' h e => ?_
    · obtain ⟨h, e⟩ := relT_tail h e (isT_k0 hs)
      exact sim_bind (name_sim S _ _ h e) fun s r1 r1' h e => ⟨rfl, h, e⟩
    · rw [h.len]
      exact sim_bind (dirs_sim d _ _ S _ _ h e) fun ds r4 r4' h e => sim_bind (sim_if (relT_isS h e _) (fun _ => hg S _ _ h e) (fun _ => ⟨rfl, h, e⟩)) fun sub r5 r5' h e => ⟨rfl, h, e⟩
theorem set_sim : ∀ d, Sim (setP d)
  | 0 => fun S r r' h e => ⟨rfl, relT_at h e⟩
  | d + 1 => fun S r r' h e => by
    rw [setP, setP]
    exact sim_bind (want_sim _ S _ _ h e) fun _ r1 r1' h e => by rw [h.len]; exact many_sim (sel_sim d (set_sim d)) _ _ _ S _ _ h e
theorem var_sim : Sim varP := fun S r r' h e => by
  unfold varP
  refine sim_bind (want_sim _ S _ _ h e) fun _ r1 r1' h e => sim_bind (name_sim S _ _ h e) fun s r2 r2' h e => sim_bind (want_sim _ S _ _ h e) fun _ r3 r3' h e => sim_bind (typ_sim _ S _ _ h e) fun t r4 r4' h e => sim_if (relT_isT h e _) (fun hs => ?_) (fun _ => ⟨rfl, h, e⟩)
  obtain ⟨h, e⟩ := relT_tail h e (isT_k0 hs)
  exact sim_bind (value_sim _ _ S _ _ h e) fun v r5 r5' h e => ⟨rfl, h, e⟩
theorem isW_k0 {s : List UInt8} {r : List Tok} (h : isW s r = true) : isK 0 r = false := isT_k0 (s := s) (by unfold isT; rw [h, Bool.or_true])
theorem op_sim : Sim opP := fun S r r' h e => by
  unfold opP
  refine sim_bind (sim_if (relT_isT h e _) (fun hs => ?_) (fun _ => ?_)) fun m r1 r1' h e => sim_bind (sim_if (relT_isK h e _) (fun _ => name_sim S _ _ h e) (fun _ => ⟨rfl, h, e⟩)) fun s r2 r2' h e => sim_bind (?_) fun vs r3 r3' h e => sim_bind (set_sim _ S _ _ h e) fun sub r4 r4' h e => ⟨rfl, h, e⟩
  · obtain ⟨h, e⟩ := relT_tail h e (isT_k0 hs); exact ⟨rfl, h, e⟩
  · exact sim_bind (want_sim _ S _ _ h e) fun _ r1 r1' h e => ⟨rfl, h, e⟩
  · rw [h.len]
    refine sim_if (relT_isS h e _) (fun hs => ?_) (fun _ => ⟨rfl, h, e⟩)
    obtain ⟨h, e⟩ := relT_tail h e (isS_k0 hs)
    exact many_sim var_sim _ _ _ S _ _ h e
theorem frag_sim : Sim fragP := fun S r r' h e => by
  unfold fragP
  exact sim_if (relT_isW h e _) (fun _ => ⟨rfl, relT_at h e⟩) (fun _ => sim_bind (name_sim S _ _ h e) fun s r1 r1' h e => sim_bind (want_sim _ S _ _ h e) fun _ r2 r2' h e => sim_bind (name_sim S _ _ h e) fun o r3 r3' h e => sim_bind (set_sim _ S _ _ h e) fun sub r4 r4' h e => ⟨rfl, h, e⟩)
theorem def_sim (d : DC) : Sim (defP d) := fun S r r' h e => by
  unfold defP
  refine sim_if (relT_isS h e _) (fun _ => ?_) (fun _ => sim_if (relT_isT h e _) (fun hs => ?_) (fun _ => ?_))
  · exact sim_bind (set_sim _ S _ _ h e) fun sub r1 r1' h e => ⟨rfl, h, e⟩
  · obtain ⟨h, e⟩ := relT_tail h e (isT_k0 hs)
    exact sim_bind (frag_sim S _ _ h e) fun f r1 r1' h e => ⟨rfl, h, e⟩
  · exact sim_bind (op_sim S _ _ h e) fun f r1 r1' h e => ⟨rfl, h, e⟩
theorem doc_sim : ∀ (n : Nat) (d : DC), Sim (docF n d)
  | 0, d => fun S r r' h e => ⟨rfl, relT_at h e⟩
  | n + 1, d => fun S r r' h e => by
    rw [docF, docF]
    exact sim_bind (def_sim d S _ _ h e) fun d1 r1 r1' h e => sim_if (relT_isK h e _) (fun _ => ⟨rfl, h, e⟩) (fun _ => doc_sim n d1 S _ _ h e)
end Go.Proofs.YtgephneppgcnlaaDoor
namespace Go.Proofs.YtgephneppgcnlaaDoor
set_option linter.unusedVariables false
set_option linter.unusedSimpArgs false

/-! ### Fuel beyond the tokens changes nothing -/
theorem bind_congr {α β : Type} {p : PR α} {f g : α → List Tok → PR β} (h : ∀ x r, p = .ok x r → f x r = g x r) : p.bind f = p.bind g := by
  cases p with
  | ok x r => exact h x r rfl
  | bad a e => rfl
theorem many_more {α : Type} {f : List Tok → PR α} (hf : Takes f) (close : List UInt8) : ∀ (n m : Nat) (acc : List α) (r : List Tok), r.length < n → r.length < m → manyP f close n acc r = manyP f close m acc r
  | 0, _, _, _, h, _ => absurd h (by omega)
  | _ + 1, 0, _, _, _, h => absurd h (by omega)
  | n + 1, m + 1, acc, r, h1, h2 => by
    rw [manyP, manyP]
    refine bind_congr fun x r1 hx => ?_
    have := hf _ _ _ hx
    rw [many_more hf close n m _ _ (by omega) (by omega)]
theorem any_more {α : Type} {f : List Tok → PR α} (hf : Takes f) (close : List UInt8) : ∀ (n m : Nat) (acc : List α) (r : List Tok), r.length < n → r.length < m → anyP f close n acc r = anyP f close m acc r
  | 0, _, _, _, h, _ => absurd h (by omega)
  | _ + 1, 0, _, _, _, h => absurd h (by omega)
  | n + 1, m + 1, acc, r, h1, h2 => by
    rw [anyP, anyP]
    split
    · rfl
    refine bind_congr fun x r1 hx => ?_
    have := hf _ _ _ hx
    rw [any_more hf close n m _ _ (by omega) (by omega)]
theorem dirs_more (d : Nat) : ∀ (n m : Nat) (acc : List DR) (r : List Tok), r.length < n → r.length < m → dirsP d n acc r = dirsP d m acc r
  | 0, _, _, _, h, _ => absurd h (by omega)
  | _ + 1, 0, _, _, _, h => absurd h (by omega)
  | n + 1, m + 1, acc, r, h1, h2 => by
    rw [dirsP, dirsP]
    split
    · rename_i hs
      have h0 := isT_len hs
      refine bind_congr fun x r1 hx => ?_
      have := dirP_takes d _ _ _ hx
      rw [dirs_more d n m _ _ (by omega) (by omega)]
    · rfl
theorem defP_takes' (d : DC) : Takes (defP d) := fun r x r1 h => by
  unfold defP at h
  split at h
  · obtain ⟨sub, r2, k1, h⟩ := bind_inv h
    injection h with _ h; subst h
    exact setP_takes _ _ _ _ k1
  · split at h
    · rename_i hs
      obtain ⟨sub, r2, k1, h⟩ := bind_inv h
      injection h with _ h; subst h
      have := isT_len hs; have := fragP_takes _ _ _ k1
      omega
    · obtain ⟨sub, r2, k1, h⟩ := bind_inv h
      injection h with _ h; subst h
      exact opP_takes _ _ _ k1
theorem doc_more : ∀ (n m : Nat) (acc : DC) (r : List Tok), r.length < n → r.length < m → docF n acc r = docF m acc r
  | 0, _, _, _, h, _ => absurd h (by omega)
  | _ + 1, 0, _, _, _, h => absurd h (by omega)
  | n + 1, m + 1, acc, r, h1, h2 => by
    rw [docF, docF]
    refine bind_congr fun x r1 hx => ?_
    have := defP_takes' acc _ _ _ hx
    rw [doc_more n m _ _ (by omega) (by omega)]

end Go.Proofs.YtgephneppgcnlaaDoor
namespace Go.Proofs.YtgephneppgcnlaaDoor
set_option linter.unusedVariables false
set_option linter.unusedSimpArgs false

/-- pre's tokens, and then the end; or, in its place, tl. Where a token of pre is left, both go on alike. -/
def JnP {α : Type} (E : Tok) (tl pre : List Tok) (p p' : PR α) : Prop := match p with
  | .bad _ _ => True
  | .ok x r1 => ∃ u, u <:+ pre ∧ r1 = u ++ [E] ∧ (u ≠ [] → p' = .ok x (u ++ tl))
/-- The same where nothing is looked at behind the last token that is taken. -/
def JcP {α : Type} (E : Tok) (tl pre : List Tok) (p p' : PR α) : Prop := match p with
  | .bad _ _ => True
  | .ok x r1 => ∃ u, u <:+ pre ∧ u.length < pre.length ∧ r1 = u ++ [E] ∧ p' = .ok x (u ++ tl)
variable {E : Tok} {tl : List Tok}
theorem JcP.jn {α : Type} {pre : List Tok} {p p' : PR α} (h : JcP E tl pre p p') : JnP E tl pre p p' := by
  cases p with
  | bad a e => trivial
  | ok x r => obtain ⟨u, h1, h2, h3, h4⟩ := h; exact ⟨u, h1, h3, fun _ => h4⟩
theorem JnP.weak {α : Type} {a b : List Tok} (hs : a <:+ b) {p p' : PR α} (h : JnP E tl a p p') : JnP E tl b p p' := by
  cases p with
  | bad a e => trivial
  | ok x r => obtain ⟨u, h1, h3, h4⟩ := h; exact ⟨u, h1.trans hs, h3, h4⟩
theorem JcP.weak {α : Type} {a b : List Tok} (hs : a <:+ b) {p p' : PR α} (h : JcP E tl a p p') : JcP E tl b p p' := by
  cases p with
  | bad a e => trivial
  | ok x r => obtain ⟨u, h1, h2, h3, h4⟩ := h; exact ⟨u, h1.trans hs, Nat.lt_of_lt_of_le h2 hs.length_le, h3, h4⟩
theorem JnP.ok {α : Type} (x : α) (pre : List Tok) : JnP E tl pre (.ok x (pre ++ [E])) (.ok x (pre ++ tl)) := ⟨pre, List.suffix_refl _, rfl, fun _ => rfl⟩
theorem JcP.ok {α : Type} (x : α) (a : Tok) (pre : List Tok) : JcP E tl (a :: pre) (.ok x (pre ++ [E])) (.ok x (pre ++ tl)) := ⟨pre, List.suffix_cons _ _, by simp, rfl, rfl⟩
theorem jn_bind {α β : Type} {pre : List Tok} {p p' : PR α} {f g : α → List Tok → PR β} (h : JnP E tl pre p p') (hf : ∀ x u, JnP E tl u (f x (u ++ [E])) (g x (u ++ tl))) : JnP E tl pre (p.bind f) (p'.bind g) := by
  cases p with
  | bad a e => trivial
  | ok x r1 =>
    obtain ⟨u, h1, rfl, h3⟩ := h
    have hq := hf x u
    show JnP E tl pre (f x (u ++ [E])) _
    cases hx : f x (u ++ [E]) with
    | bad a e => trivial
    | ok y r2 =>
      rw [hx] at hq
      obtain ⟨v, k1, rfl, k3⟩ := hq
      refine ⟨v, k1.trans h1, rfl, fun hv => ?_⟩
      have hu : u ≠ [] := fun e => by subst e; exact hv (List.suffix_nil.1 k1)
      rw [h3 hu]; exact k3 hv
theorem jc_bind {α β : Type} {pre : List Tok} {p p' : PR α} {f g : α → List Tok → PR β} (h : JnP E tl pre p p') (hf : ∀ x u, JcP E tl u (f x (u ++ [E])) (g x (u ++ tl))) : JcP E tl pre (p.bind f) (p'.bind g) := by
  cases p with
  | bad a e => trivial
  | ok x r1 =>
    obtain ⟨u, h1, rfl, h3⟩ := h
    have hq := hf x u
    show JcP E tl pre (f x (u ++ [E])) _
    cases hx : f x (u ++ [E]) with
    | bad a e => trivial
    | ok y r2 =>
      rw [hx] at hq
      obtain ⟨v, k1, k2, rfl, k3⟩ := hq
      have hu : u ≠ [] := fun e => by subst e; simp at k2
      refine ⟨v, k1.trans h1, Nat.lt_of_lt_of_le k2 h1.length_le, rfl, ?_⟩
      rw [h3 hu]; exact k3
theorem jc_map {α β : Type} {pre : List Tok} {p p' : PR α} {h : α → β} (hp : JcP E tl pre p p') : JcP E tl pre (p.bind fun x r => .ok (h x) r) (p'.bind fun x r => .ok (h x) r) := by
  cases p with
  | bad a e => trivial
  | ok x r1 =>
    obtain ⟨u, h1, h2, rfl, rfl⟩ := hp
    exact ⟨u, h1, h2, rfl, rfl⟩
theorem jn_map {α β : Type} {pre : List Tok} {p p' : PR α} {h : α → β} (hp : JnP E tl pre p p') : JnP E tl pre (p.bind fun x r => .ok (h x) r) (p'.bind fun x r => .ok (h x) r) := jn_bind hp fun x u => .ok _ _
/-- A test that sees the next token alone, and not the end. -/
structure Tst (E : Tok) (τ : List Tok → Bool) : Prop where
  no : τ [E] = false
  hd : ∀ a r r', τ (a :: r) = τ (a :: r')
theorem tst_S (h0 : E.kind = 0) (s : List UInt8) : Tst E (isS s) := ⟨by simp [isS, h0], fun _ _ _ => rfl⟩
theorem tst_W (h0 : E.kind = 0) (s : List UInt8) : Tst E (isW s) := ⟨by simp [isW, h0], fun _ _ _ => rfl⟩
theorem tst_T (h0 : E.kind = 0) (s : List UInt8) : Tst E (isT s) := ⟨by simp [isT, isS, isW, h0], fun _ _ _ => rfl⟩
theorem tst_K (h0 : E.kind = 0) : Tst E (isK 1) := ⟨by simp [isK, h0], fun _ _ _ => rfl⟩
theorem jn_if {α : Type} {τ : List Tok → Bool} (T : Tst E τ) {pre : List Tok} {p p' q q' : PR α} (h1 : ∀ a u, pre = a :: u → τ (pre ++ [E]) = true → JnP E tl pre p p') (h2 : JnP E tl pre q q') : JnP E tl pre (if τ (pre ++ [E]) then p else q) (if τ (pre ++ tl) then p' else q') := by
  cases pre with
  | nil =>
    rw [List.nil_append, if_neg (by rw [T.no]; decide)]
    cases q with
    | bad a e => trivial
    | ok x r =>
      obtain ⟨u, k1, k2, k3⟩ := h2
      have := List.suffix_nil.1 k1; subst this
      exact ⟨[], List.suffix_refl _, k2, fun h => absurd rfl h⟩
  | cons a u =>
    rw [List.cons_append, List.cons_append, T.hd a (u ++ tl) (u ++ [E])]
    split
    · rename_i hc; exact h1 a u rfl hc
    · exact h2
theorem jc_if {α : Type} {τ : List Tok → Bool} (T : Tst E τ) {pre : List Tok} {p p' q q' : PR α} (h1 : ∀ a u, pre = a :: u → τ (pre ++ [E]) = true → JcP E tl pre p p') (h2 : JcP E tl pre q q') : JcP E tl pre (if τ (pre ++ [E]) then p else q) (if τ (pre ++ tl) then p' else q') := by
  cases pre with
  | nil =>
    rw [List.nil_append, if_neg (by rw [T.no]; decide)]
    cases q with
    | bad a e => trivial
    | ok x r =>
      obtain ⟨u, k1, k2, -⟩ := h2
      simp at k2
  | cons a u =>
    rw [List.cons_append, List.cons_append, T.hd a (u ++ tl) (u ++ [E])]
    split
    · rename_i hc; exact h1 a u rfl hc
    · exact h2
theorem want_jc (h0 : E.kind = 0) (s : List UInt8) (pre : List Tok) : JcP E tl pre (wantP s (pre ++ [E])) (wantP s (pre ++ tl)) := by
  unfold wantP
  refine jc_if (tst_T h0 s) (fun a u e _ => ?_) trivial
  subst e; exact .ok _ _ _
theorem name_jc (h0 : E.kind = 0) (pre : List Tok) : JcP E tl pre (nameP (pre ++ [E])) (nameP (pre ++ tl)) := by
  cases pre with
  | nil =>
    show JcP E tl [] (if E.kind = 1 then PR.ok E.text [] else .bad E.at_ 4) _
    rw [if_neg (by omega)]; trivial
  | cons a u =>
    show JcP E tl (a :: u) (if a.kind = 1 then PR.ok a.text (u ++ [E]) else .bad a.at_ 4) (if a.kind = 1 then PR.ok a.text (u ++ tl) else .bad a.at_ 4)
    split
    · exact .ok _ _ _
    · trivial
theorem many_jc {α : Type} (h0 : E.kind = 0) {f : List Tok → PR α} (hf : ∀ u, JnP E tl u (f (u ++ [E])) (f (u ++ tl))) (hl : Takes f) (close : List UInt8) : ∀ (n : Nat) (acc : List α) (pre : List Tok) (m : Nat), (pre ++ [E]).length < n → (pre ++ tl).length < m → JcP E tl pre (manyP f close n acc (pre ++ [E])) (manyP f close m acc (pre ++ tl))
  | 0, _, _, _, h, _ => absurd h (by omega)
  | _ + 1, _, _, 0, _, h => absurd h (by omega)
  | n + 1, acc, pre, m + 1, h1, h2 => by
    rw [manyP, manyP]
    have hq := hf pre
    cases hx : f (pre ++ [E]) with
    | bad a e => trivial
    | ok x r1 =>
      have hlx := hl _ _ _ hx
      rw [hx] at hq
      obtain ⟨u, k1, rfl, k3⟩ := hq
      have ht := tst_T h0 close (E := E)
      show JcP E tl pre (if isT close (u ++ [E]) then PR.ok (acc ++ [x]) (u ++ [E]).tail else manyP f close n (acc ++ [x]) (u ++ [E])) _
      cases u with
      | nil =>
        rw [List.nil_append, if_neg (by rw [ht.no]; decide)]
        cases hz : manyP f close n (acc ++ [x]) [E] with
        | bad a e => trivial
        | ok y r2 =>
          exfalso
          cases n with
          | zero => cases hz
          | succ n =>
            rw [manyP] at hz
            obtain ⟨x2, r3, k4, -⟩ := bind_inv hz
            have h5 := hl _ _ _ k4
            have h6 := hf []
            rw [List.nil_append, k4] at h6
            obtain ⟨v, -, e, -⟩ := h6
            subst e; simp at h5
      | cons a u =>
        have h' := k3 (by simp)
        have hly := hl _ _ _ h'
        rw [h']
        show JcP E tl pre _ (if isT close (a :: u ++ tl) then PR.ok (acc ++ [x]) (a :: u ++ tl).tail else manyP f close m (acc ++ [x]) (a :: u ++ tl))
        refine JcP.weak k1 (jc_if ht (fun b w e _ => ?_) (many_jc h0 hf hl close n _ (a :: u) m (by omega) (by omega)))
        exact .ok _ _ _
theorem any_jc {α : Type} (h0 : E.kind = 0) {f : List Tok → PR α} (hf : ∀ u, JnP E tl u (f (u ++ [E])) (f (u ++ tl))) (hl : Takes f) (close : List UInt8) : ∀ (n : Nat) (acc : List α) (pre : List Tok) (m : Nat), (pre ++ [E]).length < n → (pre ++ tl).length < m → JcP E tl pre (anyP f close n acc (pre ++ [E])) (anyP f close m acc (pre ++ tl))
  | 0, _, _, _, h, _ => absurd h (by omega)
  | _ + 1, _, _, 0, _, h => absurd h (by omega)
  | n + 1, acc, pre, m + 1, h1, h2 => by
    rw [anyP, anyP]
    refine jc_if (tst_T h0 close) (fun a u e _ => by subst e; exact .ok _ _ _) ?_
    have hq := hf pre
    cases hx : f (pre ++ [E]) with
    | bad a e => trivial
    | ok x r1 =>
      have hlx := hl _ _ _ hx
      rw [hx] at hq
      obtain ⟨u, k1, rfl, k3⟩ := hq
      show JcP E tl pre (anyP f close n (acc ++ [x]) (u ++ [E])) _
      cases u with
      | nil =>
        cases hz : anyP f close n (acc ++ [x]) ([] ++ [E]) with
        | bad a e => trivial
        | ok y r2 =>
          exfalso
          cases n with
          | zero => cases hz
          | succ n =>
            rw [anyP, List.nil_append, if_neg (by rw [(tst_T h0 close (E := E)).no]; decide)] at hz
            obtain ⟨x2, r3, k4, -⟩ := bind_inv hz
            have h5 := hl _ _ _ k4
            have h6 := hf []
            rw [List.nil_append, k4] at h6
            obtain ⟨v, -, e, -⟩ := h6
            subst e; simp at h5
      | cons a u =>
        have h' := k3 (by simp)
        have hly := hl _ _ _ h'
        rw [h']
        exact JcP.weak k1 (any_jc h0 hf hl close n _ (a :: u) m (by omega) (by omega))
theorem pair_jc (h0 : E.kind = 0) {f : List Tok → PR VT} (hf : ∀ u, JcP E tl u (f (u ++ [E])) (f (u ++ tl))) (pre : List Tok) : JcP E tl pre (pairP f (pre ++ [E])) (pairP f (pre ++ tl)) :=
  jc_bind (name_jc h0 pre).jn fun s u => jc_bind (want_jc h0 _ u).jn fun _ u => jc_map (hf u)
theorem valueB_jc (h0 : E.kind = 0) (fixed : Bool) {f : List Tok → PR VT} (hf : ∀ u, JcP E tl u (f (u ++ [E])) (f (u ++ tl))) (hl : Takes f) (pre : List Tok) : JcP E tl pre (valueB fixed f (pre ++ [E])) (valueB fixed f (pre ++ tl)) := by
  cases pre with
  | nil =>
    have hn : ∀ s, isT s [E] = false := fun s => (tst_T h0 s).no
    rw [List.nil_append, valueB_eqn]
    rw [if_neg (by omega), if_neg (by omega), if_neg (by rw [hn]; decide), if_neg (by rw [hn]; decide), if_neg (by rw [hn]; decide), if_neg (by omega), if_neg (by rw [hn, Bool.and_false]; decide), if_neg (by rw [hn]; decide), if_neg (by rw [hn]; decide)]
    trivial
  | cons a u =>
    rw [List.cons_append, List.cons_append, valueB_eqn, valueB_eqn]
    have hT : ∀ s, isT s (a :: (u ++ tl)) = isT s (a :: (u ++ [E])) := fun s => rfl
    rw [hT, hT, hT, hT, hT, hT]
    have ws : u <:+ a :: u := List.suffix_cons _ _
    split
    · exact .ok _ _ _
    · split
      · exact .ok _ _ _
      · split
        · exact .ok _ _ _
        · split
          · exact .ok _ _ _
          · split
            · exact .ok _ _ _
            · split
              · exact .ok _ _ _
              · split
                · exact (jc_map (name_jc h0 u)).weak ws
                · split
                  · exact (jc_map (any_jc h0 (fun u => (hf u).jn) hl _ _ _ u _ (by omega) (by omega))).weak ws
                  · split
                    · exact (jc_map (any_jc h0 (fun u => (pair_jc h0 hf u).jn) (pairP_takes hl) _ _ _ u _ (by omega) (by omega))).weak ws
                    · trivial
theorem value_jc (h0 : E.kind = 0) (fixed : Bool) : ∀ d pre, JcP E tl pre (valueP fixed d (pre ++ [E])) (valueP fixed d (pre ++ tl))
  | 0, pre => trivial
  | d + 1, pre => valueB_jc h0 fixed (value_jc h0 fixed d) (valueP_takes fixed d) pre
theorem bang_jn (h0 : E.kind = 0) (mk : Bool → TR) (pre : List Tok) : JnP E tl pre (bangP mk (pre ++ [E])) (bangP mk (pre ++ tl)) := by
  unfold bangP
  exact jn_if (tst_T h0 _) (fun a u e _ => by subst e; exact (JcP.ok _ _ _).jn) (.ok _ _)
theorem typ_jn (h0 : E.kind = 0) : ∀ d pre, JnP E tl pre (typP d (pre ++ [E])) (typP d (pre ++ tl))
  | 0, pre => trivial
  | d + 1, pre => by
    rw [typP, typP]
    refine jn_if (tst_T h0 _) (fun a u e _ => ?_) (jn_bind (name_jc h0 pre).jn fun _ u => bang_jn h0 _ u)
    subst e
    exact JnP.weak (List.suffix_cons _ _) (jn_bind (typ_jn h0 d u) fun t u => jn_bind (want_jc h0 _ u).jn fun _ u => bang_jn h0 _ u)
theorem arg_jc (h0 : E.kind = 0) (d : Nat) (pre : List Tok) : JcP E tl pre (argP d (pre ++ [E])) (argP d (pre ++ tl)) :=
  jc_bind (name_jc h0 pre).jn fun s u => jc_bind (want_jc h0 _ u).jn fun _ u => jc_map (value_jc h0 _ _ u)
theorem args_jn (h0 : E.kind = 0) (d : Nat) (pre : List Tok) : JnP E tl pre (argsP d (pre ++ [E])) (argsP d (pre ++ tl)) := by
  unfold argsP
  refine jn_if (tst_S h0 _) (fun a u e _ => ?_) (.ok _ _)
  subst e
  exact JnP.weak (List.suffix_cons _ _) (many_jc h0 (fun u => (arg_jc h0 d u).jn) (argP_takes d) _ _ _ u _ (by simp <;> omega) (by simp <;> omega)).jn
theorem dir_jn (h0 : E.kind = 0) (d : Nat) (pre : List Tok) : JnP E tl pre (dirP d (pre ++ [E])) (dirP d (pre ++ tl)) :=
  jn_bind (name_jc h0 pre).jn fun s u => jn_map (args_jn h0 d u)
theorem dirs_jn' (h0 : E.kind = 0) (d : Nat) : ∀ (n : Nat) (acc : List DR) (pre : List Tok) (m : Nat), (pre ++ [E]).length < n → (pre ++ tl).length < m → JnP E tl pre (dirsP d n acc (pre ++ [E])) (dirsP d m acc (pre ++ tl))
  | 0, _, _, _, h, _ => absurd h (by omega)
  | _ + 1, _, _, 0, _, h => absurd h (by omega)
  | n + 1, acc, pre, m + 1, h1, h2 => by
    rw [dirsP, dirsP]
    refine jn_if (tst_T h0 _) (fun a u e _ => ?_) (.ok _ _)
    subst e
    refine JnP.weak (List.suffix_cons _ _) ?_
    show JnP E tl u ((dirP d (u ++ [E])).bind fun x r1 => dirsP d n (acc ++ [x]) r1) ((dirP d (u ++ tl)).bind fun x r1 => dirsP d m (acc ++ [x]) r1)
    simp only [List.cons_append, List.length_cons] at h1 h2
    have hq := dir_jn h0 d (tl := tl) u
    cases hx : dirP d (u ++ [E]) with
    | bad a e => trivial
    | ok x r1 =>
      have hlx := dirP_takes d _ _ _ hx
      rw [hx] at hq
      obtain ⟨v, k1, rfl, k3⟩ := hq
      show JnP E tl u (dirsP d n (acc ++ [x]) (v ++ [E])) _
      cases v with
      | nil =>
        cases hz : dirsP d n (acc ++ [x]) ([] ++ [E]) with
        | bad a e => trivial
        | ok y r2 =>
          cases n with
          | zero => cases hz
          | succ n =>
            rw [dirsP, List.nil_append, if_neg (by rw [(tst_T h0 _ (E := E)).no]; decide)] at hz
            injection hz with e1 e2; subst e2
            exact ⟨[], List.nil_suffix, rfl, fun h => absurd rfl h⟩
      | cons b v =>
        have h' := k3 (by simp)
        have hly := dirP_takes d _ _ _ h'
        rw [h']
        exact JnP.weak k1 (dirs_jn' h0 d n _ (b :: v) m (by omega) (by omega))
theorem dirs_jn (h0 : E.kind = 0) (d : Nat) (pre : List Tok) : JnP E tl pre (dirsP d ((pre ++ [E]).length + 1) [] (pre ++ [E])) (dirsP d ((pre ++ tl).length + 1) [] (pre ++ tl)) := dirs_jn' h0 d _ _ pre _ (by omega) (by omega)
theorem sel_jn (h0 : E.kind = 0) (d : Nat) {g : List Tok → PR (List SL)} (hg : ∀ u, JcP E tl u (g (u ++ [E])) (g (u ++ tl))) (pre : List Tok) : JnP E tl pre (selP d g (pre ++ [E])) (selP d g (pre ++ tl)) := by
  unfold selP
  refine jn_if (tst_T h0 _) (fun a u e _ => ?_) ?_
  · subst e
    refine JnP.weak (List.suffix_cons _ _) ?_
    show JnP E tl u (if isT wOn (u ++ [E]) then _ else _) (if isT wOn (u ++ tl) then _ else _)
    refine jn_if (tst_T h0 _) (fun a u e _ => ?_) (jn_if (tst_K h0) (fun _ _ _ _ => ?_) ?_)
    · subst e
      refine JnP.weak (List.suffix_cons _ _) ?_
      exact jn_bind (name_jc h0 u).jn fun _ u => jn_bind (dirs_jn h0 d u) fun _ u => jn_map (hg u).jn
    · exact jn_bind (name_jc h0 u).jn fun _ u => jn_map (dirs_jn h0 d u)
    · exact jn_bind (dirs_jn h0 d u) fun _ u => jn_map (hg u).jn
  · refine jn_bind (name_jc h0 pre).jn fun s u => jn_bind (jn_if (tst_T h0 _) (fun a w e _ => ?_) (.ok _ _)) fun p u => jn_bind (args_jn h0 d u) fun gs u => jn_bind (dirs_jn h0 d u) fun ds u => jn_map (jn_if (tst_S h0 _) (fun _ _ _ _ => (hg u).jn) (.ok _ _))
    subst e
    exact JnP.weak (List.suffix_cons _ _) (jn_map (name_jc h0 w).jn)
theorem set_jc (h0 : E.kind = 0) : ∀ d pre, JcP E tl pre (setP d (pre ++ [E])) (setP d (pre ++ tl))
  | 0, pre => trivial
  | d + 1, pre => by
    rw [setP, setP]
    exact jc_bind (want_jc h0 _ pre).jn fun _ u => many_jc h0 (sel_jn h0 d (set_jc h0 d)) (selP_takes d (setP_takes d)) _ _ _ u _ (by omega) (by omega)
theorem var_jn (h0 : E.kind = 0) (pre : List Tok) : JnP E tl pre (varP (pre ++ [E])) (varP (pre ++ tl)) := by
  unfold varP
  refine jn_bind (want_jc h0 _ pre).jn fun _ u => jn_bind (name_jc h0 u).jn fun s u => jn_bind (want_jc h0 _ u).jn fun _ u => jn_bind (typ_jn h0 _ u) fun t u => jn_if (tst_T h0 _) (fun a w e _ => ?_) (.ok _ _)
  subst e
  exact JnP.weak (List.suffix_cons _ _) (jn_map (value_jc h0 _ _ w).jn)
theorem op_jc (h0 : E.kind = 0) (pre : List Tok) : JcP E tl pre (opP (pre ++ [E])) (opP (pre ++ tl)) := by
  unfold opP
  refine jc_bind (jn_if (tst_T h0 _) (fun a w e _ => ?_) (jn_map (want_jc h0 _ pre).jn)) fun m u => jc_bind (jn_if (tst_K h0) (fun _ _ _ _ => (name_jc h0 u).jn) (.ok _ _)) fun s u => jc_bind (jn_if (tst_S h0 _) (fun a w e _ => ?_) (.ok _ _)) fun vs u => jc_map (set_jc h0 _ u)
  · subst e; exact (JcP.ok _ _ _).jn
  · subst e
    exact JnP.weak (List.suffix_cons _ _) (many_jc h0 (var_jn h0) varP_takes _ _ _ w _ (by simp <;> omega) (by simp <;> omega)).jn
theorem frag_jc (h0 : E.kind = 0) (pre : List Tok) : JcP E tl pre (fragP (pre ++ [E])) (fragP (pre ++ tl)) := by
  unfold fragP
  exact jc_if (tst_W h0 _) (fun _ _ _ _ => trivial) (jc_bind (name_jc h0 pre).jn fun s u => jc_bind (want_jc h0 _ u).jn fun _ u => jc_bind (name_jc h0 u).jn fun o u => jc_map (set_jc h0 _ u))
theorem def_jc (h0 : E.kind = 0) (d : DC) (pre : List Tok) : JcP E tl pre (defP d (pre ++ [E])) (defP d (pre ++ tl)) := by
  unfold defP
  refine jc_if (tst_S h0 _) (fun _ _ _ _ => jc_map (set_jc h0 _ pre)) (jc_if (tst_T h0 _) (fun a u e _ => ?_) (jc_map (op_jc h0 pre)))
  subst e
  exact JcP.weak (List.suffix_cons _ _) (jc_map (frag_jc h0 u))
/-- One more definition behind others: the same, with them ahead. -/
def DC.app (d m : DC) : DC := ⟨d.ops ++ m.ops, d.frags ++ m.frags⟩
def PR.map {α β : Type} (h : α → β) : PR α → PR β
  | .ok x r => .ok (h x) r
  | .bad a e => .bad a e
theorem bind_map {α β γ : Type} (p : PR α) (f : α → List Tok → PR β) (h : β → γ) : (p.bind f).map h = p.bind fun x r => (f x r).map h := by cases p <;> rfl
theorem map_bind {α β γ : Type} (p : PR α) (f : β → List Tok → PR γ) (h : α → β) : (p.map h).bind f = p.bind fun x r => f (h x) r := by cases p <;> rfl
theorem map_if {α β : Type} (c : Bool) (p q : PR α) (h : α → β) : (if c then p else q).map h = if c then p.map h else q.map h := by cases c <;> rfl
theorem def_app (d m : DC) (r : List Tok) : defP (d.app m) r = (defP m r).map d.app := by
  unfold defP
  rw [map_if, map_if, bind_map, bind_map, bind_map]
  congr 1
  · congr 1; funext sub r1; simp [PR.map, DC.app]
  · congr 1
    · congr 1; funext sub r1; simp [PR.map, DC.app]
    · congr 1; funext sub r1; simp [PR.map, DC.app]
theorem doc_app (d : DC) : ∀ (n : Nat) (m : DC) (r : List Tok), docF n (d.app m) r = (docF n m r).map d.app
  | 0, m, r => rfl
  | n + 1, m, r => by
    rw [docF, docF, def_app, map_bind, bind_map]
    congr 1; funext x r1
    rw [map_if, doc_app d n x r1]; rfl
/-- Documents one behind the other. -/
theorem doc_join (h0 : E.kind = 0) (hk : isK 0 tl = false) : ∀ (n : Nat) (acc : DC) (pre : List Tok) (m : Nat), (pre ++ [E]).length < n → (pre ++ tl).length < m → (∀ t ∈ pre, t.kind ≠ 0) → ∀ d r1, docF n acc (pre ++ [E]) = .ok d r1 → docF m acc (pre ++ tl) = docF m d tl
  | 0, _, _, _, h, _, _, _, _, _ => absurd h (by omega)
  | _ + 1, _, _, 0, _, h, _, _, _, _ => absurd h (by omega)
  | n + 1, acc, pre, m + 1, h1, h2, hu, d, r1, h => by
    rw [docF] at h
    obtain ⟨d1, r2, k1, h⟩ := bind_inv h
    have hl := defP_takes' acc _ _ _ k1
    have hq := def_jc h0 acc (tl := tl) pre
    rw [k1] at hq
    obtain ⟨u, q1, q2, rfl, q4⟩ := hq
    have hl2 := defP_takes' acc _ _ _ q4
    rw [docF, q4]
    show (if isK 0 (u ++ tl) then PR.ok d1 (u ++ tl) else docF m d1 (u ++ tl)) = _
    have htl : tl.length < m := by rw [List.length_append, List.length_append] at hl2; rw [List.length_append] at h2; omega
    cases u with
    | nil =>
      rw [List.nil_append, if_pos (by simp [isK, h0])] at h
      injection h with e1 e2; subst e1
      rw [List.nil_append, if_neg (by rw [hk]; decide)]
      exact doc_more _ _ _ _ htl (by omega)
    | cons a u =>
      have ha : a.kind ≠ 0 := hu a (by obtain ⟨c, hc⟩ := q1; rw [← hc]; simp)
      rw [if_neg (by simp [isK, ha])] at h ⊢
      rw [doc_join h0 hk n d1 (a :: u) m (by omega) (by omega) (fun t ht => hu t (q1.subset ht)) d r1 h]
      exact doc_more _ _ _ _ htl (by omega)
end Go.Proofs.YtgephneppgcnlaaDoor
namespace Go.Proofs.YtgephneppgcnlaaDoor
set_option linter.unusedVariables false
set_option linter.unusedSimpArgs false

/-! ### The tokens end ahead of a closing sign -/
/-- t: the closing sign; post: the tokens behind it; E: the end that stands in its place. -/
theorem toksA_last : ∀ (a : Nat) (l : List UInt8), ∀ ts, toksA a l = .ok ts → ∃ q, ts = q ++ [⟨0, [], 0, a + l.length⟩] ∧ ∀ t ∈ q, t.kind ≠ 0 := by
  refine toksA_ind ?_ ?_ ?_ ?_ ?_
  · intro a ts h
    rw [toksA_nil] at h; injection h with h; subst h
    exact ⟨[], rfl, by simp⟩
  · intro a c l hb ih ts h
    rw [toksA_blk a hb] at h
    obtain ⟨q, h1, h2⟩ := ih ts h
    exact ⟨q, by rw [h1, List.length_cons, show a + 1 + l.length = a + (l.length + 1) from by omega], h2⟩
  · intro a c l hr ih ts h
    rw [toksA_rem a hr] at h
    obtain ⟨q, h1, h2⟩ := ih ts h
    have hl := runL_le lineB l
    exact ⟨q, by rw [h1, List.length_cons, List.length_drop, show a + 1 + runL lineB l + (l.length - runL lineB l) = a + (l.length + 1) from by omega], h2⟩
  · intro a c l off e hb hr hx ts h
    rw [toksA_bad a hb hr hx] at h; cases h
  · intro a c l k t n len hb hr ho ih ts h
    rw [toksA_one a hb hr ho] at h
    obtain ⟨us, hu, rfl⟩ := Out.cons_ok h
    obtain ⟨q, h1, h2⟩ := ih us hu
    have hl := oneP_len ho
    refine ⟨⟨k, t, n, a⟩ :: q, by rw [h1, List.length_drop, show a + len + ((c :: l).length - len) = a + (c :: l).length from by omega]; rfl, fun t' ht => ?_⟩
    rcases List.mem_cons.1 ht with rfl | ht
    · exact oneP_kind ho
    · exact h2 t' ht
theorem toks_last {s : List UInt8} {ts : List Tok} (h : toks s = .ok ts) : ∃ q, ts = q ++ [⟨0, [], 0, s.length⟩] ∧ ∀ t ∈ q, t.kind ≠ 0 := by
  have := toksA_last 0 s ts (toks_ok h).2
  simpa using this
theorem relT_up (n : Nat) : ∀ r : List Tok, RelT (fun a b => b = a + n) r (r.map (Tok.upp n))
  | [] => trivial
  | t :: r => ⟨⟨rfl, rfl, rfl, rfl⟩, relT_up n r⟩
theorem DC.app_nil (d : DC) : d.app ⟨[], []⟩ = d := by cases d; simp [DC.app]
theorem endR_k0 {r : List Tok} (q : List Tok) (E : Tok) (h0 : E.kind = 0) (hq : ∀ t ∈ q, t.kind ≠ 0) (e : r = q ++ [E]) (h : isK 0 r = true) : r = [E] := by
  cases q with
  | nil => exact e
  | cons a q => subst e; exact absurd (of_decide_eq_true (show decide (a.kind = 0) = true from h)) (hq a (by simp))
end Go.Proofs.YtgephneppgcnlaaDoor
