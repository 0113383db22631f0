/- Queues of int: what each call does. -/
import Derived.Test.YtalikihdckknoaaRows
import Derived.Test.YtalikihdckknoaaComm
import Derived.Deep.Cut
import Derived.Deep.CutBlock
import Derived.Deep.QuietTactic
import Derived.BigQuiet
import Derived.Conc.SmallLaws
namespace Go.Proofs.Ytalikihdckknoaa.QI
open Go Go.RowKit Go.Conc Go.Proofs.Ytalikihdckknoaa
set_option linter.unusedVariables false
set_option linter.unusedSimpArgs false

/-- Block b holds a queue of at most cap, of which 'gone' are gone; its channel is block c, in which the things 'l' wait. -/
def At (w : World) (b c cap gone : Nat) (l : List Value) : Prop :=
  b ≠ c ∧ w.heap[b]? = some (.cells #[.chan (some c), .int .u64 gone] 85 (0, 0)) ∧ ∃ s r, w.heap[c]? = some (.chan cap l.toArray false s r false)

theorem At.cells {w : World} {b c cap gone : Nat} {l : List Value} (h : At w b c cap gone l) :
    w.cell? ⟨b, 0, none⟩ = some (.chan (some c)) ∧ w.cell? ⟨b, 0+1, none⟩ = some (.int .u64 gone) := by
  have := h.2.1; simp [World.cell?, this]
theorem At.free {w : World} {b c cap gone : Nat} {l : List Value} (h : At w b c cap gone l) (o : Nat) : w.frozen? ⟨b, o, none⟩ = false := by
  have := h.2.1; simp [World.frozen?, this]
theorem At.lt {w : World} {b c cap gone : Nat} {l : List Value} (h : At w b c cap gone l) : b < w.heap.size ∧ c < w.heap.size := by
  obtain ⟨_, h1, s, r, h2⟩ := h
  exact ⟨(Array.getElem?_eq_some_iff.1 h1).1, (Array.getElem?_eq_some_iff.1 h2).1⟩
theorem At.only {S : Nat → Prop} {w w' : World} {b c cap gone : Nat} {l : List Value} (h : At w b c cap gone l) (ho : Only S w w') (hb : ¬ S b) (hc : ¬ S c) : At w' b c cap gone l := by
  obtain ⟨l1, l2⟩ := h.lt
  obtain ⟨h0, h1, s, r, h2⟩ := h
  exact ⟨h0, by rw [ho.block _ l1 hb]; exact h1, s, r, by rw [ho.block _ l2 hc]; exact h2⟩

theorem zeroT (w : World) : (zeroValue 3).run Try.prog w = .ok (.int .i64 0) w := by kernel_rfl

theorem put_nil (x : Value) (w : World) :
    Calls Try.prog 19 #[.pointer none, x] w fun e w' => e = .returned (.tuple #[.int .u64 0, .int .i64 6]) ∧ w = w' := by
  go_enter Try.func19, Try.ntmps19
  go_wp2
  go_ret2
  exact ⟨rfl, rfl⟩

set_option maxRecDepth 100000 in
theorem put_full (x : Value) (b c cap gone : Nat) (l : List Value) (w : World) (h : At w b c cap gone l) (hf : cap ≤ l.length) :
    Calls Try.prog 19 #[.pointer (some ⟨b, 0, none⟩), x] w fun e w' => e = .returned (.tuple #[.int .u64 0, .int .i64 17]) ∧ w = w' := by
  obtain ⟨c0, c1⟩ := h.cells
  obtain ⟨_, _, s, r, hch⟩ := h
  have HC := Lib.hid hch; clear hch
  go_enter Try.func19, Try.ntmps19
  go_upto_region 5 with (fail)
  refine wp_region_rw ?_
  refine rw_sel_full (c := c) (v := x) (z := .int .i64 0) rfl rfl ?_ HC.out (by simpa using hf) ?_
  · simp [execOp, go_sem, scase, zeroT]
  refine rw_two rfl rfl ?_
  go_wp2
  go_ret2
  exact ⟨rfl, rfl⟩

/-- Behind a send. -/
theorem At.sent {w : World} {b c cap gone s r : Nat} {l : List Value} (h : At w b c cap gone l) (x : Value) : At (w.setChan c cap (l.toArray.push x) false s r false) b c cap gone (l ++ [x]) := by
  obtain ⟨l1, l2⟩ := h.lt
  obtain ⟨h0, h1, s', r', h2⟩ := h
  refine ⟨h0, ?_, s, r, ?_⟩
  · simp only [World.setChan]; rw [Array.getElem?_setIfInBounds_ne (by omega)]; exact h1
  · rw [heap_setChan _ _ _ _ _ _ _ _ l2]; simp
theorem only_setChan (w : World) (c cap : Nat) (buf : Array Value) (cl : Bool) (s r : Nat) (tm : Bool) : Only (· = c) w (w.setChan c cap buf cl s r tm) :=
  ⟨rfl, rfl, rfl, by simp [World.setChan], fun k _ hk => by simp only [World.setChan]; rw [Array.getElem?_setIfInBounds_ne (by omega)]⟩

theorem At.len {w : World} {b c cap gone : Nat} {l : List Value} (h : At w b c cap gone l) {m : Nat} (hm : l.length = m) (n : Nat) : (Builtin.len_ #[83] 3 #[.chan (some c)]).run Try.prog (w.drewN n) = .ok (.int .i64 m) (w.drewN n) := by
  subst hm
  obtain ⟨_, _, s, r, h2⟩ := h
  rw [run_len_chan _ _ Try.underlying83 (heap_drewN h2 n)]
  simp [goInt]

set_option maxRecDepth 100000 in
theorem put_room (x : Value) (b c cap gone : Nat) (l : List Value) (w : World) (h : At w b c cap gone l) (hf : l.length < cap) (hcap : cap ≤ 64) (hg : gone ≤ 8589934592) :
    Calls Try.prog 19 #[.pointer (some ⟨b, 0, none⟩), x] w fun e w' => e = .returned (.tuple #[.int .u64 ((gone : Int) + l.length + 1), .int .i64 0]) ∧ At w' b c cap gone (l ++ [x]) ∧ Only (· = c) w w' := by
  obtain ⟨c0, c1⟩ := h.cells
  have HA := Lib.hid (fun s r => h.sent (s := s) (r := r) x)
  obtain ⟨_, _, s, r, hch⟩ := h
  have HC := Lib.hid hch; clear hch
  have HO := Lib.hid (only_setChan w c cap (l.toArray.push x) false (s + 1) r false)
  go_enter Try.func19, Try.ntmps19
  go_upto_region 5 with (fail)
  refine wp_region_rw ?_
  refine rw_sel_send (c := c) (v := x) (z := .int .i64 0) rfl rfl ?_ HC.out (by simpa using hf) ?_
  · simp [execOp, go_sem, scase, zeroT]
  have h1 := HA.out (s + 1) r
  generalize w.setChan c cap (l.toArray.push x) false (s + 1) r false = w1 at h1 HO ⊢
  clear HA c0 c1
  obtain ⟨c0, c1⟩ := h1.cells
  have hl := h1.len (m := l.length + 1) (by simp)
  have H1 := Lib.hid h1; clear h1
  refine rw_two rfl rfl ?_
  go_wp2
  go_quiet (fail)
  go_wp2
  go_ret2
  exact ⟨by first | rfl | (congr 4; omega) | (congr 3; omega), H1.out, HO.out.drewN _⟩

/-! ### Take -/
theorem At.taken {w : World} {b c cap gone s r : Nat} {x : Value} {l : List Value} (h : At w b c cap gone (x :: l)) : At (w.setChan c cap ((x :: l).toArray.extract 1 (x :: l).toArray.size) false s r false) b c cap gone l := by
  obtain ⟨l1, l2⟩ := h.lt
  obtain ⟨h0, h1, s', r', h2⟩ := h
  refine ⟨h0, ?_, s, r, ?_⟩
  · simp only [World.setChan]; rw [Array.getElem?_setIfInBounds_ne (by omega)]; exact h1
  · rw [heap_setChan _ _ _ _ _ _ _ _ l2]; simp
theorem At.setGone {w : World} {b c cap gone : Nat} {l : List Value} (h : At w b c cap gone l) (g : Nat) : At (w.setCell ⟨b, 1, none⟩ (.int .u64 g)) b c cap g l := by
  obtain ⟨h0, h1, s', r', h2⟩ := h
  exact ⟨h0, heap_set (o := 1) h1 _, s', r', heap_set_ne h2 (by simpa using (Ne.symm h0)) _⟩

theorem take_nil (w : World) :
    Calls Try.prog 21 #[.pointer none] w fun e w' => e = .returned (.tuple #[.int .i64 0, .int .i64 6]) ∧ w = w' := by
  go_enter Try.func21, Try.ntmps21
  go_wp2
  go_ret2
  exact ⟨rfl, rfl⟩

set_option maxRecDepth 100000 in
theorem take_none (b c cap gone : Nat) (w : World) (h : At w b c cap gone []) :
    Calls Try.prog 21 #[.pointer (some ⟨b, 0, none⟩)] w fun e w' => e = .returned (.tuple #[.int .i64 0, .int .i64 6]) ∧ w = w' := by
  obtain ⟨c0, c1⟩ := h.cells
  obtain ⟨_, _, s, r, hch⟩ := h
  have HC := Lib.hid hch; clear hch
  go_enter Try.func21, Try.ntmps21
  go_upto_region 5 with (fail)
  refine wp_region_rw ?_
  refine rw_sel_none (c := c) (z := .int .i64 0) rfl rfl ?_ HC.out ?_
  · simp [execOp, go_sem, rcase, zeroT]
  refine rw_two rfl rfl ?_
  go_wp2
  go_ret2
  exact ⟨rfl, rfl⟩

set_option maxRecDepth 100000 in
theorem take_some (x : Value) (b c cap gone : Nat) (l : List Value) (w : World) (h : At w b c cap gone (x :: l)) (hg : gone ≤ 8589934592) :
    Calls Try.prog 21 #[.pointer (some ⟨b, 0, none⟩)] w fun e w' => e = .returned (.tuple #[x, .int .i64 0]) ∧ At w' b c cap (gone + 1) l ∧ Only (fun k => k = b ∨ k = c) w w' := by
  obtain ⟨c0, c1⟩ := h.cells
  have HA := Lib.hid (fun s r => h.taken (s := s) (r := r))
  obtain ⟨_, _, s, r, hch⟩ := h
  have HC := Lib.hid hch; clear hch
  have HO := Lib.hid ((only_setChan w c cap ((x :: l).toArray.extract 1 (x :: l).toArray.size) false s (r + 1) false).mono (T := fun k => k = b ∨ k = c) (fun _ _ e => .inr e))
  go_enter Try.func21, Try.ntmps21
  go_upto_region 5 with (fail)
  refine wp_region_rw ?_
  refine rw_sel_recv (c := c) (z := .int .i64 0) rfl rfl ?_ HC.out (by simp) ?_
  · simp [execOp, go_sem, rcase, zeroT]
  have h1 := HA.out s (r + 1)
  generalize w.setChan c cap ((x :: l).toArray.extract 1 (x :: l).toArray.size) false s (r + 1) false = w1 at h1 HO ⊢
  rw [show (x :: l).toArray.getD 0 undef = x from by simp]
  clear HA c0 c1
  obtain ⟨c0, c1⟩ := h1.cells
  have f := h1.free
  have H1 := Lib.hid h1; clear h1
  refine rw_two rfl rfl ?_
  go_wp2
  go_ret2
  exact ⟨rfl, by simpa using H1.out.setGone (gone + 1), HO.out.setCell (.inl (.inl rfl)) _⟩

/-! ### Len, Gone -/
theorem len_nil (w : World) :
    Calls Try.prog 23 #[.pointer none] w fun e w' => e = .returned (.int .i64 0) ∧ w = w' := by
  go_enter Try.func23, Try.ntmps23
  go_wp2
  go_ret
  exact ⟨rfl, rfl⟩
theorem len_any (b c cap gone : Nat) (l : List Value) (w : World) (h : At w b c cap gone l) :
    Calls Try.prog 23 #[.pointer (some ⟨b, 0, none⟩)] w fun e w' => e = .returned (.int .i64 l.length) ∧ w = w' := by
  obtain ⟨c0, c1⟩ := h.cells
  have hl := h.len (m := l.length) rfl 0
  rw [show w.drewN 0 = w from rfl] at hl
  have H1 := Lib.hid h; clear h
  go_enter Try.func23, Try.ntmps23
  go_wp2
  go_ret
  exact ⟨rfl, rfl⟩
theorem gone_nil (w : World) :
    Calls Try.prog 29 #[.pointer none] w fun e w' => e = .returned (.int .u64 0) ∧ w = w' := by
  go_enter Try.func29, Try.ntmps29
  go_wp2
  go_ret
  exact ⟨rfl, rfl⟩
theorem gone_any (b c cap gone : Nat) (l : List Value) (w : World) (h : At w b c cap gone l) :
    Calls Try.prog 29 #[.pointer (some ⟨b, 0, none⟩)] w fun e w' => e = .returned (.int .u64 gone) ∧ w = w' := by
  obtain ⟨c0, c1⟩ := h.cells
  have H1 := Lib.hid h; clear h
  go_enter Try.func29, Try.ntmps29
  go_wp2
  go_ret
  exact ⟨rfl, rfl⟩

/-! ### New -/
theorem infoE : (Try.prog.info? 3).map (fun i => (i.zero, i.size, i.bytes)) = some (some (.int .i64 0), 1, 8) := by kernel_rfl
theorem new_any (m g : Nat) (w : World) (h1 : 1 ≤ m) (h2 : m ≤ 64) :
    Calls Try.prog 17 #[.int .i64 m, .int .u64 g] w fun e w' => ∃ b c, e = .returned (.tuple #[.pointer (some ⟨b, 0, none⟩), .int .i64 0]) ∧ At w' b c m g [] ∧ Below w.heap.size w w' ∧ w.heap.size ≤ b ∧ w.heap.size ≤ c := by
  obtain ⟨i0, hi, _, _, hz2⟩ := info_parts infoE
  have hmk := fun (w : World) => run_makeChan (P := Try.prog) (w := w) Try.underlying83 hi .i64 m (by omega) (by rw [hz2]; omega)
  clear hi hz2
  go_enter Try.func17, Try.ntmps17
  go_wp2
  go_ret2
  refine ⟨w.heap.size + 1, w.heap.size, rfl, ⟨by omega, ?_, 0, 0, ?_⟩, ((Below.refl _ _).alloc (Nat.le_refl _) _).alloc (by simp) _, by omega, by omega⟩
  · have := heap_new (w.alloc (.chan m #[] false 0 0 false)) (.cells #[.chan (some w.heap.size), .int .u64 g] 85)
    simpa using this
  · exact heap_old (heap_new _ _) _
theorem new_no (m : Int) (g : Int) (w : World) (h : m < 1 ∨ 64 < m) :
    Calls Try.prog 17 #[.int .i64 m, .int .u64 g] w fun e w' => e = .returned (.tuple #[.pointer none, .int .i64 1]) ∧ w = w' := by
  by_cases h1 : m < 1 <;> by_cases h2 : 64 < m
  all_goals first | (exfalso; omega) | skip
  all_goals
    clear h
    go_enter Try.func17, Try.ntmps17
    go_wp2
    go_ret2
    exact ⟨rfl, rfl⟩

/-! ### Drop -/
theorem drop_nil (tn : Int) (w : World) :
    Calls Try.prog 37 #[.pointer none, .int .u64 tn] w fun e w' => e = .returned (.tuple #[.int .i64 0, .int .i64 6]) ∧ w = w' := by
  go_enter Try.func37, Try.ntmps37
  go_wp2
  go_ret2
  exact ⟨rfl, rfl⟩
set_option maxRecDepth 100000 in
theorem drop_arg (b c cap gone : Nat) (tn : Int) (l : List Value) (w : World) (h : At w b c cap gone l) (hl : l.length ≤ 64) (hg : gone ≤ 8589934592) (ht : (gone : Int) + l.length < tn) :
    Calls Try.prog 37 #[.pointer (some ⟨b, 0, none⟩), .int .u64 tn] w fun e w' => e = .returned (.tuple #[.int .i64 0, .int .i64 1]) ∧ At w' b c cap gone l ∧ Only (fun _ => False) w w' := by
  obtain ⟨c0, c1⟩ := h.cells
  have hlen := h.len (m := l.length) rfl
  have H1 := Lib.hid h; clear h
  go_enter Try.func37, Try.ntmps37
  go_wp2
  go_quiet (fail)
  go_wp2
  go_ret2
  exact ⟨rfl, H1.out, (Only.refl _ _).drewN _⟩
set_option maxRecDepth 100000 in
theorem drop_ok (b c cap gone : Nat) (tn : Int) (l : List Value) (w : World) (h : At w b c cap gone l) (hl : l.length ≤ 64) (hg : gone ≤ 8589934592) (ht0 : 0 ≤ tn) (ht : tn ≤ (gone : Int) + l.length) :
    Calls Try.prog 37 #[.pointer (some ⟨b, 0, none⟩), .int .u64 tn] w fun e w' => e = .returned (.tuple #[.int .i64 ((tn - gone).toNat : Nat), .int .i64 0]) ∧ At w' b c cap (gone + (tn - gone).toNat) (l.drop (tn - gone).toNat) ∧ Only (fun k => k = b ∨ k = c) w w' := by
  obtain ⟨c0, c1⟩ := h.cells
  have hlen := h.len (m := l.length) rfl
  have H1 := Lib.hid h; clear h
  obtain ⟨d, hd⟩ : ∃ d, (tn - gone).toNat = d := ⟨_, rfl⟩
  have hd1 : tn ≤ (gone : Int) + d := by omega
  have hd2 : d = 0 ∨ tn = (gone : Int) + d := by omega
  have hd3 : d ≤ l.length := by omega
  rw [hd]
  clear hd
  have HD := Lib.hid hd2; clear hd2
  go_enter Try.func37, Try.ntmps37
  go_wp2
  go_quiet (fail)
  go_wp2
  go_loopw [6] (fun n wr => ∃ j : Nat, j ≤ d ∧ n = .int .i64 j ∧ At wr b c cap (gone + j) (l.drop j) ∧ Only (fun k => k = b ∨ k = c) w wr) (fun n wr => d - (intOf n).toNat)
  case atStart => exact ⟨0, by omega, rfl, H1.out, (Only.refl _ _).drewN _⟩
  case round =>
    obtain ⟨j, hj, rfl, hA, hO⟩ := hrel
    obtain ⟨c0, c1⟩ := hA.cells
    by_cases hjd : j < d
    · have hto : ((gone + j : Nat) : Int) < tn := by rcases HD.out with e | e <;> omega
      obtain ⟨x, hx⟩ : ∃ x, l.drop j = x :: l.drop (j + 1) := ⟨_, List.drop_eq_getElem_cons (by omega)⟩
      rw [hx] at hA
      have HA := Lib.hid (fun s r => hA.taken (s := s) (r := r))
      have HO := Lib.hid hO; clear hO
      obtain ⟨_, _, s, r, hch⟩ := hA
      have HC := Lib.hid hch; clear hch
      have HX := Lib.hid hx; clear hx
      have HO2 := Lib.hid ((only_setChan wr c cap ((x :: l.drop (j + 1)).toArray.extract 1 (x :: l.drop (j + 1)).toArray.size) false s (r + 1) false).mono (T := fun k => k = b ∨ k = c) (fun _ _ e => .inr e))
      go_upto_region 7 with (fail)
      refine wp_region_rw ?_
      refine rw_same (.pointer (some ⟨b, 0, none⟩)) rfl rfl (by simp [execOp, go_sem]) ?_
      refine rw_same (.pointer (some ⟨b, 0, none⟩)) rfl rfl (by simp [execOp, go_sem]) ?_
      refine rw_same (.pointer (some ⟨b, 0, none⟩)) rfl rfl (by simp [execOp, go_sem]) ?_
      refine rw_same (.chan (some c)) rfl rfl (by simp [execOp, go_sem, c0]) ?_
      refine rw_recv (c := c) (z := .int .i64 0) rfl rfl ?_ HC.out (by simp) ?_
      · simp [execOp, go_sem, rcase, zeroT]
      refine rw_nil ?_
      have h1 := HA.out s (r + 1)
      generalize wr.setChan c cap ((x :: l.drop (j + 1)).toArray.extract 1 (x :: l.drop (j + 1)).toArray.size) false s (r + 1) false = w1 at h1 HO2 ⊢
      clear HA c0 c1
      obtain ⟨c0, c1⟩ := h1.cells
      have f := h1.free
      have H2 := Lib.hid h1; clear h1
      go_wp2
      go_roundw
      case rel =>
        refine ⟨j + 1, by omega, by go_num, ?_, (HO.out.trans HO2.out).setCell (.inl (.inl rfl)) _⟩
        have := H2.out.setGone (gone + j + 1)
        rw [show ((gone + j + 1 : Nat) : Int) = (gone : Int) + j + 1 from by omega] at this
        exact this
      case measure => simp [intOf]; omega
    · obtain rfl : j = d := by omega
      have HA := Lib.hid hA; clear hA
      have HO := Lib.hid hO; clear hO
      go_wp2
      go_ret2
      exact ⟨rfl, HA.out, HO.out⟩

/-! ### All -/
theorem all_nil (w : World) :
    Calls Try.prog 38 #[.pointer none] w fun e w' => e = .returned (.slice none 0 0) ∧ w = w' := by
  go_enter Try.func38, Try.ntmps38
  go_wp2_with fail
  refine (len_nil _).mono ?_
  rintro e w1 ⟨rfl, rfl⟩
  go_wp2
  refine wp_loop_rounds 1 ?_
  rw [rounds_succ]
  go_wp2
  go_ret
  exact ⟨rfl, rfl⟩
set_option maxRecDepth 100000 in
theorem all_any (b c cap gone : Nat) (xs : List Int) (w : World) (h : At w b c cap gone (xs.map (Value.int .i64))) (hl : xs.length ≤ cap) (hcap : cap ≤ 64) (hb : b < w.heap.size) (hc : c < w.heap.size) :
    Calls Try.prog 38 #[.pointer (some ⟨b, 0, none⟩)] w fun e w' => ∃ v, e = .returned v ∧ At w' b c cap gone (xs.map (Value.int .i64)) ∧ w'.ownsRow w.heap.size 3 1 v xs.length (xs.map (Value.int .i64)) ∧ Only (fun k => k = c) w w' := by
  have HI := Lib.hid infoE
  obtain ⟨i0, hi, hz0, hz1, hz2⟩ := info_parts HI.out
  go_enter Try.func38, Try.ntmps38
  go_wp2_with fail
  refine (len_any _ _ _ _ _ _ h).mono ?_
  rintro e w1 ⟨rfl, rfl⟩
  go_wp2
  go_loopw [3, 7] (fun v i wr => ∃ k : Nat, k ≤ xs.length ∧ i = .int .i64 k ∧ At wr b c cap gone ((xs.drop k ++ xs.take k).map (Value.int .i64)) ∧ wr.ownsRow w.heap.size 3 1 v k ((xs.take k).map (Value.int .i64)) ∧ Only (fun k => k = c) w wr) (fun v i wr => xs.length - (intOf i).toNat)
  case atStart => exact ⟨0, by omega, rfl, by simpa using h, ⟨rfl, .inl ⟨rfl, rfl⟩⟩, Only.refl _ _⟩
  case round =>
    obtain ⟨k, hk, rfl, hA, hown, hO⟩ := hrel
    obtain ⟨c0, c1⟩ := hA.cells
    by_cases hlt : k < xs.length
    · have hx : (xs.drop k ++ xs.take k).map (Value.int .i64) = (Value.int .i64) xs[k] :: (xs.drop (k + 1) ++ xs.take k).map (Value.int .i64) := by rw [List.drop_eq_getElem_cons hlt]; rfl
      have hx2 : (xs.drop (k + 1) ++ xs.take k).map (Value.int .i64) ++ [(Value.int .i64) xs[k]] = (xs.drop (k + 1) ++ xs.take (k + 1)).map (Value.int .i64) := by
        rw [List.take_succ_eq_append_getElem hlt]; simp only [List.map_append, List.map_cons, List.map_nil, List.append_assoc]
      have hlen : ((xs.drop (k + 1) ++ xs.take k).map (Value.int .i64)).length < cap := by simp; omega
      rw [hx] at hA
      generalize hg : xs[k] = x at hx hx2 hA
      have ht : xs.take (k + 1) = xs.take k ++ [x] := by rw [List.take_succ_eq_append_getElem hlt, hg]
      have HG := Lib.hid ht; clear ht hg hx
      generalize hr : (xs.drop (k + 1) ++ xs.take k).map (Value.int .i64) = rest at hx2 hA hlen
      clear hr
      have HX := Lib.hid hx2; clear hx2
      have HA := Lib.hid (fun s r => hA.taken (s := s) (r := r))
      have HO := Lib.hid hO; clear hO
      obtain ⟨_, _, s, r, hch⟩ := hA
      have HC := Lib.hid hch; clear hch
      have HO2 := Lib.hid (only_setChan wr c cap (((Value.int .i64) x :: rest).toArray.extract 1 ((Value.int .i64) x :: rest).toArray.size) false s (r + 1) false)
      have hown1 : (wr.setChan c cap (((Value.int .i64) x :: rest).toArray.extract 1 ((Value.int .i64) x :: rest).toArray.size) false s (r + 1) false).ownsRow w.heap.size 3 1 u3 k ((xs.take k).map (Value.int .i64)) := own_only hown HO2.out (by intro j hj e; omega)
      go_upto_region 4 with (fail)
      refine wp_region_rw ?_
      refine rw_same (.pointer (some ⟨b, 0, none⟩)) rfl rfl (by simp [execOp, go_sem]) ?_
      refine rw_same (.pointer (some ⟨b, 0, none⟩)) rfl rfl (by simp [execOp, go_sem]) ?_
      refine rw_same (.pointer (some ⟨b, 0, none⟩)) rfl rfl (by simp [execOp, go_sem]) ?_
      refine rw_same (.chan (some c)) rfl rfl (by simp [execOp, go_sem, c0]) ?_
      refine rw_recv (c := c) (z := .int .i64 0) rfl rfl ?_ HC.out (by simp) ?_
      · simp [execOp, go_sem, rcase, zeroT]
      rw [show ((Value.int .i64) x :: rest).toArray.getD 0 undef = (Value.int .i64) x from by simp]
      refine rw_one rfl ?_
      have h1 := HA.out s (r + 1)
      generalize wr.setChan c cap (((Value.int .i64) x :: rest).toArray.extract 1 ((Value.int .i64) x :: rest).toArray.size) false s (r + 1) false = w1 at h1 HO2 hown1 ⊢
      clear HA c0 c1 hown
      have H2 := Lib.hid h1; clear h1
      have hs1 : w.heap.size ≤ w1.heap.size := Nat.le_trans HO.out.size HO2.out.size
      go_wp2_with (at_builtin; refine wpList_append_own _ rfl _ _ 75 rfl w.heap.size 3 i0 (.int .i64 0) 1 8 Try.underlying75 hi hz0 hz1 hz2 rfl (by decide) _ _ _ rfl (hown1.alloc _) ⟨w1.heap.size, 0, none⟩ 1 1 [(Value.int .i64) x] rfl rfl ?c1 ?c2 ?c3 ?c4 ?c5 ?_)
      case c1 => exact cell_one_new _ _ _
      case c2 => intro u hu; simp at hu; subst hu; rfl
      case c3 => unfold maxLen; omega
      case c4 => omega
      case c5 => simp; omega
      intro v' w2 hown2 hgrow _
      have ho3 : Only (fun j => w.heap.size ≤ j) w1 w2 := (((Only.refl _ w1).alloc (.cells #[(Value.int .i64) x] 3)).grown hgrow (fun j hj => .inl (own_ge hown1 hj)))
      have h3 := H2.out.only ho3 (by omega) (by omega)
      clear hown1 hgrow H2
      have HO4 := Lib.hid ((HO.out.trans HO2.out).trans' ho3 (T := fun j => w.heap.size ≤ j) (by intro i hi hh; omega)); clear ho3 HO HO2
      obtain ⟨c0, c1⟩ := h3.cells
      have HA := Lib.hid (fun s r => h3.sent (s := s) (r := r) ((Value.int .i64) x))
      obtain ⟨_, _, s', r', hch⟩ := h3
      have HC2 := Lib.hid hch; clear hch
      have HO5 := Lib.hid (only_setChan w2 c cap (rest.toArray.push ((Value.int .i64) x)) false (s' + 1) r' false)
      have hown3 : (w2.setChan c cap (rest.toArray.push ((Value.int .i64) x)) false (s' + 1) r' false).ownsRow w.heap.size 3 1 v' (k + 1) ((xs.take (k + 1)).map (Value.int .i64)) := own_only (by rw [HG.out, List.map_append, List.map_take]; exact hown2) HO5.out (by intro j hj e; omega)
      clear hown2
      go_upto_region 6 with (fail)
      refine wp_region_rw ?_
      refine rw_same (.pointer (some ⟨b, 0, none⟩)) rfl rfl (by simp [execOp, go_sem]) ?_
      refine rw_same (.pointer (some ⟨b, 0, none⟩)) rfl rfl (by simp [execOp, go_sem]) ?_
      refine rw_same (.pointer (some ⟨b, 0, none⟩)) rfl rfl (by simp [execOp, go_sem]) ?_
      refine rw_same (.chan (some c)) rfl rfl (by simp [execOp, go_sem, c0]) ?_
      refine rw_same ((Value.int .i64) x) rfl rfl (by simp [execOp, go_sem]) ?_
      refine rw_send (c := c) (v := (Value.int .i64) x) (z := .tuple #[]) rfl rfl ?_ HC2.out (by simpa using hlen) ?_
      · simp [execOp, go_sem, scase]
      refine rw_nil ?_
      have h1 := HA.out (s' + 1) r'
      rw [HX.out] at h1
      generalize w2.setChan c cap (rest.toArray.push ((Value.int .i64) x)) false (s' + 1) r' false = w4 at h1 HO5 hown3 ⊢
      clear HA c0 c1
      go_wp2
      go_roundw
      case rel => exact ⟨k + 1, by omega, by go_num, h1, hown3, HO4.out.trans HO5.out⟩
      case measure => simp [intOf]; omega
    · obtain rfl : k = xs.length := by omega
      have HA := Lib.hid hA; clear hA
      have HO := Lib.hid hO; clear hO
      go_wp2
      go_ret
      exact ⟨_, rfl, by simpa using HA.out, by simpa using hown, HO.out⟩
end Go.Proofs.Ytalikihdckknoaa.QI
