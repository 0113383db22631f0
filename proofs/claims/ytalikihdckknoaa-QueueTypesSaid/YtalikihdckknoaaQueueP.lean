/- Queues of columbarylaw04.Pair: what each call does. -/
import Derived.Test.YtalikihdckknoaaRows
import Derived.Test.YtalikihdckknoaaComm
import Derived.Deep.Cut
import Derived.Deep.CutBlock
import Derived.Deep.QuietTactic
import Derived.BigQuiet
import Derived.Conc.SmallLaws
namespace Go.Proofs.Ytalikihdckknoaa.QP
open Go Go.RowKit Go.Conc Go.Proofs.Ytalikihdckknoaa
set_option linter.unusedVariables false
set_option linter.unusedSimpArgs false

/-- Block b holds a queue of at most cap, of which 'gone' are gone; its channel is block c, in which the things 'l' wait. -/
def At (w : World) (b c cap gone : Nat) (l : List Value) : Prop :=
  b ≠ c ∧ w.heap[b]? = some (.cells #[.chan (some c), .int .u64 gone] 82 (0, 0)) ∧ ∃ s r, w.heap[c]? = some (.chan cap l.toArray false s r false)

theorem At.cells {w : World} {b c cap gone : Nat} {l : List Value} (h : At w b c cap gone l) :
    w.cell? ⟨b, 0, none⟩ = some (.chan (some c)) ∧ w.cell? ⟨b, 0+1, none⟩ = some (.int .u64 gone) := by
  have := h.2.1; simp [World.cell?, this]
theorem At.free {w : World} {b c cap gone : Nat} {l : List Value} (h : At w b c cap gone l) (o : Nat) : w.frozen? ⟨b, o, none⟩ = false := by
  have := h.2.1; simp [World.frozen?, this]
theorem At.lt {w : World} {b c cap gone : Nat} {l : List Value} (h : At w b c cap gone l) : b < w.heap.size ∧ c < w.heap.size := by
  obtain ⟨_, h1, s, r, h2⟩ := h
  exact ⟨(Array.getElem?_eq_some_iff.1 h1).1, (Array.getElem?_eq_some_iff.1 h2).1⟩
theorem At.only {S : Nat → Prop} {w w' : World} {b c cap gone : Nat} {l : List Value} (h : At w b c cap gone l) (ho : Only S w w') (hb : ¬ S b) (hc : ¬ S c) : At w' b c cap gone l := by
  obtain ⟨l1, l2⟩ := h.lt
  obtain ⟨h0, h1, s, r, h2⟩ := h
  exact ⟨h0, by rw [ho.block _ l1 hb]; exact h1, s, r, by rw [ho.block _ l2 hc]; exact h2⟩

theorem zeroT (w : World) : (zeroValue 37).run Try.prog w = .ok (.agg #[.int .i64 0, .string ⟨#[]⟩]) w := by kernel_rfl

/-- Behind a send. -/
theorem At.sent {w : World} {b c cap gone s r : Nat} {l : List Value} (h : At w b c cap gone l) (x : Value) : At (w.setChan c cap (l.toArray.push x) false s r false) b c cap gone (l ++ [x]) := by
  obtain ⟨l1, l2⟩ := h.lt
  obtain ⟨h0, h1, s', r', h2⟩ := h
  refine ⟨h0, ?_, s, r, ?_⟩
  · simp only [World.setChan]; rw [Array.getElem?_setIfInBounds_ne (by omega)]; exact h1
  · rw [heap_setChan _ _ _ _ _ _ _ _ l2]; simp
theorem only_setChan (w : World) (c cap : Nat) (buf : Array Value) (cl : Bool) (s r : Nat) (tm : Bool) : Only (· = c) w (w.setChan c cap buf cl s r tm) :=
  ⟨rfl, rfl, rfl, by simp [World.setChan], fun k _ hk => by simp only [World.setChan]; rw [Array.getElem?_setIfInBounds_ne (by omega)]⟩

theorem At.len {w : World} {b c cap gone : Nat} {l : List Value} (h : At w b c cap gone l) {m : Nat} (hm : l.length = m) (n : Nat) : (Builtin.len_ #[80] 3 #[.chan (some c)]).run Try.prog (w.drewN n) = .ok (.int .i64 m) (w.drewN n) := by
  subst hm
  obtain ⟨_, _, s, r, h2⟩ := h
  rw [run_len_chan _ _ Try.underlying80 (heap_drewN h2 n)]
  simp [goInt]

theorem At.taken {w : World} {b c cap gone s r : Nat} {x : Value} {l : List Value} (h : At w b c cap gone (x :: l)) : At (w.setChan c cap ((x :: l).toArray.extract 1 (x :: l).toArray.size) false s r false) b c cap gone l := by
  obtain ⟨l1, l2⟩ := h.lt
  obtain ⟨h0, h1, s', r', h2⟩ := h
  refine ⟨h0, ?_, s, r, ?_⟩
  · simp only [World.setChan]; rw [Array.getElem?_setIfInBounds_ne (by omega)]; exact h1
  · rw [heap_setChan _ _ _ _ _ _ _ _ l2]; simp
theorem At.setGone {w : World} {b c cap gone : Nat} {l : List Value} (h : At w b c cap gone l) (g : Nat) : At (w.setCell ⟨b, 1, none⟩ (.int .u64 g)) b c cap g l := by
  obtain ⟨h0, h1, s', r', h2⟩ := h
  exact ⟨h0, heap_set (o := 1) h1 _, s', r', heap_set_ne h2 (by simpa using (Ne.symm h0)) _⟩


set_option maxRecDepth 100000 in
theorem put_full (A : Int) (s0 : ByteArray) (b c cap gone : Nat) (l : List Value) (w : World) (h : At w b c cap gone l) (hf : cap ≤ l.length) :
    Calls Try.prog 18 #[.pointer (some ⟨b, 0, none⟩), .agg #[.int .i64 A, .string s0]] w fun e w' => e = .returned (.tuple #[.int .u64 0, .int .i64 17]) ∧ At w' b c cap gone l ∧ Only (fun _ => False) w w' := by
  have hoa := (Only.refl (fun _ => False) w).alloc (.cells #[.int .i64 A, .string s0] 37)
  have h1 := h.only hoa (fun h => h) (fun h => h)
  have HO := Lib.hid hoa; clear hoa
  obtain ⟨c0, c1⟩ := h1.cells
  have HA := Lib.hid h1
  obtain ⟨_, _, s, r, hch⟩ := h1
  have HC := Lib.hid hch; clear hch
  go_enter Try.func18, Try.ntmps18
  go_upto_region 5 with (fail)
  refine wp_region_rw ?_
  refine rw_sel_full (c := c) (v := .agg #[.int .i64 A, .string s0]) (z := .agg #[.int .i64 0, .string ⟨#[]⟩]) rfl rfl ?_ HC.out (by simpa using hf) ?_
  · simp [execOp, go_sem, scase, zeroT]
  refine rw_two rfl rfl ?_
  go_wp2
  go_ret2
  exact ⟨rfl, HA.out, HO.out⟩

set_option maxRecDepth 100000 in
theorem put_room (A : Int) (s0 : ByteArray) (b c cap gone : Nat) (l : List Value) (w : World) (h : At w b c cap gone l) (hf : l.length < cap) (hcap : cap ≤ 64) (hg : gone ≤ 8589934592) :
    Calls Try.prog 18 #[.pointer (some ⟨b, 0, none⟩), .agg #[.int .i64 A, .string s0]] w fun e w' => e = .returned (.tuple #[.int .u64 ((gone : Int) + l.length + 1), .int .i64 0]) ∧ At w' b c cap gone (l ++ [.agg #[.int .i64 A, .string s0]]) ∧ Only (· = c) w w' := by
  have hoa := (Only.refl (· = c) w).alloc (.cells #[.int .i64 A, .string s0] 37)
  have h1 := h.only ((Only.refl (fun _ => False) w).alloc (.cells #[.int .i64 A, .string s0] 37)) (fun h => h) (fun h => h)
  have HO0 := Lib.hid hoa; clear hoa
  obtain ⟨c0, c1⟩ := h1.cells
  have HA := Lib.hid (fun s r => h1.sent (s := s) (r := r) (.agg #[.int .i64 A, .string s0]))
  obtain ⟨_, _, s, r, hch⟩ := h1
  have HC := Lib.hid hch; clear hch
  have HO := Lib.hid (HO0.out.trans (only_setChan (w.alloc (.cells #[.int .i64 A, .string s0] 37)) c cap (l.toArray.push (.agg #[.int .i64 A, .string s0])) false (s + 1) r false))
  go_enter Try.func18, Try.ntmps18
  go_upto_region 5 with (fail)
  refine wp_region_rw ?_
  refine rw_sel_send (c := c) (v := .agg #[.int .i64 A, .string s0]) (z := .agg #[.int .i64 0, .string ⟨#[]⟩]) rfl rfl ?_ HC.out (by simpa using hf) ?_
  · simp [execOp, go_sem, scase, zeroT]
  have h1 := HA.out (s + 1) r
  generalize World.setChan (w.alloc (.cells #[.int .i64 A, .string s0] 37)) c cap (l.toArray.push (.agg #[.int .i64 A, .string s0])) false (s + 1) r false = w1 at h1 HO ⊢
  clear HA c0 c1
  obtain ⟨c0, c1⟩ := h1.cells
  have hl := h1.len (m := l.length + 1) (by simp)
  have H1 := Lib.hid h1; clear h1
  refine rw_two rfl rfl ?_
  go_wp2
  go_quiet (fail)
  go_wp2
  go_ret2
  exact ⟨by first | rfl | (congr 4; omega) | (congr 3; omega), H1.out, HO.out.drewN _⟩

set_option maxRecDepth 100000 in
theorem take_some (A : Int) (s0 : ByteArray) (b c cap gone : Nat) (l : List Value) (w : World) (h : At w b c cap gone (.agg #[.int .i64 A, .string s0] :: l)) (hg : gone ≤ 8589934592) :
    Calls Try.prog 20 #[.pointer (some ⟨b, 0, none⟩)] w fun e w' => e = .returned (.tuple #[.agg #[.int .i64 A, .string s0], .int .i64 0]) ∧ At w' b c cap (gone + 1) l ∧ Only (fun k => k = b ∨ k = c) w w' := by
  obtain ⟨lb, lc⟩ := h.lt
  have hoa := ((Only.refl (fun k => k = b ∨ k = c) w).alloc (.cells #[.int .i64 0, .string ⟨#[]⟩] 37)).alloc (.cells #[.int .i64 0, .string ⟨#[]⟩] 37)
  have h1 := h.only (((Only.refl (fun _ => False) w).alloc (.cells #[.int .i64 0, .string ⟨#[]⟩] 37)).alloc (.cells #[.int .i64 0, .string ⟨#[]⟩] 37)) (fun h => h) (fun h => h)
  have hbx : ((w.alloc (.cells #[.int .i64 0, .string ⟨#[]⟩] 37)).alloc (.cells #[.int .i64 0, .string ⟨#[]⟩] 37)).heap[w.heap.size]? = some (.cells #[.int .i64 0, .string ⟨#[]⟩] 37) := heap_old (heap_new _ _) _
  have hsz : ((w.alloc (.cells #[.int .i64 0, .string ⟨#[]⟩] 37)).alloc (.cells #[.int .i64 0, .string ⟨#[]⟩] 37)).heap.size = w.heap.size + 2 := by simp
  obtain ⟨c0, c1⟩ := h1.cells
  have HA := Lib.hid (fun s r => h1.taken (s := s) (r := r))
  obtain ⟨_, _, s, r, hch⟩ := h1
  have HC := Lib.hid hch
  have hoc := only_setChan ((w.alloc (.cells #[.int .i64 0, .string ⟨#[]⟩] 37)).alloc (.cells #[.int .i64 0, .string ⟨#[]⟩] 37)) c cap ((.agg #[.int .i64 A, .string s0] :: l).toArray.extract 1 (.agg #[.int .i64 A, .string s0] :: l).toArray.size) false s (r + 1) false
  have HS := Lib.hid hsz
  have hsz1 := hoc.size
  have HO := Lib.hid (hoa.trans (hoc.mono (T := fun k => k = b ∨ k = c) (fun _ _ e => .inr e)))
  have HB := Lib.hid ((hoc.block w.heap.size (by rw [hsz]; omega) (by omega)).trans hbx)
  have HZ : Hid ((World.setChan ((w.alloc (.cells #[.int .i64 0, .string ⟨#[]⟩] 37)).alloc (.cells #[.int .i64 0, .string ⟨#[]⟩] 37)) c cap ((.agg #[.int .i64 A, .string s0] :: l).toArray.extract 1 (.agg #[.int .i64 A, .string s0] :: l).toArray.size) false s (r + 1) false).heap.size = w.heap.size + 2) := Lib.hid (by rw [size_setChan]; exact hsz)
  clear hch hoa hbx hsz hoc hsz1
  go_enter Try.func20, Try.ntmps20
  go_upto_region 5 with (fail)
  refine wp_region_rw ?_
  refine rw_sel_recv (c := c) (z := .agg #[.int .i64 0, .string ⟨#[]⟩]) rfl rfl ?_ HC.out (by simp) ?_
  · simp [execOp, go_sem, rcase, zeroT]
  have h1 := HA.out s (r + 1)
  generalize World.setChan ((w.alloc (.cells #[.int .i64 0, .string ⟨#[]⟩] 37)).alloc (.cells #[.int .i64 0, .string ⟨#[]⟩] 37)) c cap ((.agg #[.int .i64 A, .string s0] :: l).toArray.extract 1 (.agg #[.int .i64 A, .string s0] :: l).toArray.size) false s (r + 1) false = w1 at h1 HO HB HZ ⊢
  rw [show (.agg #[.int .i64 A, .string s0] :: l).toArray.getD 0 undef = .agg #[.int .i64 A, .string s0] from by simp]
  clear HA c0 c1 HC HS
  obtain ⟨c0, c1⟩ := h1.cells
  have f := h1.free
  have z0 : w1.cell? ⟨w.heap.size, 0, none⟩ = some (.int .i64 0) := by simp [World.cell?, HB.out]
  have z1 : w1.cell? ⟨w.heap.size, 1, none⟩ = some (.string ⟨#[]⟩) := by simp [World.cell?, HB.out]
  have zf : ∀ o, w1.frozen? ⟨w.heap.size, o, none⟩ = false := by intro o; simp [World.frozen?, HB.out]
  have hne : b ≠ w.heap.size := by omega
  have hlt1 : w.heap.size < w1.heap.size := by have := HZ.out; omega
  have hlt2 : b < w1.heap.size := by omega
  have H1 := Lib.hid h1; clear h1
  refine rw_two rfl rfl ?_
  go_wp2
  have hne2 : w.heap.size ≠ b := by omega
  refine bodyPost_ret (v := .tuple #[.agg #[.int .i64 A, .string s0], .int .i64 0]) (by simp [results, Try.results20, go_sem, z0, z1, hlt1, hne2]) rfl ⟨rfl, ?_, ?_⟩
  · have hg1 := H1.out.setGone (gone + 1)
    have ho := (((Only.refl (fun k => k = w.heap.size) (w1.setCell ⟨b, 1, none⟩ (.int .u64 ((gone : Int) + 1)))).setCell (p := ⟨w.heap.size, 0, none⟩) (.inl rfl) (.int .i64 A)).setCell (p := ⟨w.heap.size, 1, none⟩) (.inl rfl) (.string s0)).alloc (.cells #[.int .i64 A, .string s0] 37)
    exact At.only (by simpa using hg1) ho (by omega) (by omega)
  · exact (((HO.out.setCell (p := ⟨b, 1, none⟩) (.inl (.inl rfl)) _).setCell (p := ⟨w.heap.size, 0, none⟩) (.inr (Nat.le_refl _)) _).setCell (p := ⟨w.heap.size, 1, none⟩) (.inr (Nat.le_refl _)) _).alloc _

/-! ### Len, Gone -/
theorem len_nil (w : World) :
    Calls Try.prog 22 #[.pointer none] w fun e w' => e = .returned (.int .i64 0) ∧ w = w' := by
  go_enter Try.func22, Try.ntmps22
  go_wp2
  go_ret
  exact ⟨rfl, rfl⟩
theorem len_any (b c cap gone : Nat) (l : List Value) (w : World) (h : At w b c cap gone l) :
    Calls Try.prog 22 #[.pointer (some ⟨b, 0, none⟩)] w fun e w' => e = .returned (.int .i64 l.length) ∧ w = w' := by
  obtain ⟨c0, c1⟩ := h.cells
  have hl := h.len (m := l.length) rfl 0
  rw [show w.drewN 0 = w from rfl] at hl
  have H1 := Lib.hid h; clear h
  go_enter Try.func22, Try.ntmps22
  go_wp2
  go_ret
  exact ⟨rfl, rfl⟩
/-! ### New -/
theorem infoE : (Try.prog.info? 37).map (fun i => (i.zero, i.size, i.bytes)) = some (some (.agg #[.int .i64 0, .string ⟨#[]⟩]), 2, 24) := by kernel_rfl
theorem new_any (m g : Nat) (w : World) (h1 : 1 ≤ m) (h2 : m ≤ 64) :
    Calls Try.prog 16 #[.int .i64 m, .int .u64 g] w fun e w' => ∃ b c, e = .returned (.tuple #[.pointer (some ⟨b, 0, none⟩), .int .i64 0]) ∧ At w' b c m g [] ∧ Below w.heap.size w w' ∧ w.heap.size ≤ b ∧ w.heap.size ≤ c := by
  obtain ⟨i0, hi, _, _, hz2⟩ := info_parts infoE
  have hmk := fun (w : World) => run_makeChan (P := Try.prog) (w := w) Try.underlying80 hi .i64 m (by omega) (by rw [hz2]; omega)
  clear hi hz2
  go_enter Try.func16, Try.ntmps16
  go_wp2
  go_ret2
  refine ⟨w.heap.size + 1, w.heap.size, rfl, ⟨by omega, ?_, 0, 0, ?_⟩, ((Below.refl _ _).alloc (Nat.le_refl _) _).alloc (by simp) _, by omega, by omega⟩
  · have := heap_new (w.alloc (.chan m #[] false 0 0 false)) (.cells #[.chan (some w.heap.size), .int .u64 g] 82)
    simpa using this
  · exact heap_old (heap_new _ _) _
end Go.Proofs.Ytalikihdckknoaa.QP
