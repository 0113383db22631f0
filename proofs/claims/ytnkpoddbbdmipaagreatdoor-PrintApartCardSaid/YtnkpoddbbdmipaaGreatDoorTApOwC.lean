/- . -/
import Derived.Below
import Derived.WalkKit
import Derived.WalkSpells
import Derived.WalkLawsBesides
import Derived.Handy
import Derived.Lib.Hide
import Derived.Test.YtnkpoddbbdmipaaGreatDoorRows
import Derived.Tactics
import Derived.Tactics2
import Derived.Defers
import Derived.Laws.Pointers
import Derived.Laws.LoneSync
import Derived.RegionTactic
import Derived.RegionCalls
import Derived.ChangeAlike
import Derived.Maps.AppendAt
import Derived.Deep.MidRow
namespace Go.Proofs.YtnkpoddbbdmipaaGreatDoor
open Go Go.RowKit
open Go.Lib (hid)
set_option linter.unusedVariables false
set_option linter.unusedSimpArgs false
structure Only (S : Nat → Prop) (w w' : World) : Prop where
 os : w'.os = w.os
 tape : w'.tape = w.tape
 output : w'.output = w.output
 size : w.heap.size ≤ w'.heap.size
 block : ∀ k, k < w.heap.size → ¬ S k → w'.heap[k]? = w.heap[k]?
theorem Only.refl (S : Nat → Prop) (w : World) : Only S w w := ⟨rfl, rfl, rfl, Nat.le_refl _, fun _ _ _ => rfl⟩
theorem Only.trans {S : Nat → Prop} {a b c : World} (h : Only S a b) (k : Only S b c) : Only S a c :=
 ⟨k.os.trans h.os, k.tape.trans h.tape, k.output.trans h.output, Nat.le_trans h.size k.size,
  fun i hi hs => (k.block i (Nat.lt_of_lt_of_le hi h.size) hs).trans (h.block i hi hs)⟩
theorem Only.trans' {S T : Nat → Prop} {a b c : World} (h : Only S a b) (k : Only T b c) (hT : ∀ i, i < a.heap.size → T i → S i) : Only S a c :=
 ⟨k.os.trans h.os, k.tape.trans h.tape, k.output.trans h.output, Nat.le_trans h.size k.size,
  fun i hi hs => (k.block i (Nat.lt_of_lt_of_le hi h.size) (fun t => hs (hT i hi t))).trans (h.block i hi hs)⟩
theorem Only.mono {S T : Nat → Prop} {a b : World} (h : Only S a b) (hT : ∀ i, i < a.heap.size → S i → T i) : Only T a b :=
 ⟨h.os, h.tape, h.output, h.size, fun i hi hs => h.block i hi (fun t => hs (hT i hi t))⟩
theorem Only.drew {S : Nat → Prop} {a w : World} (h : Only S a w) : Only S a w.drew := ⟨h.os, h.tape, h.output, h.size, h.block⟩
theorem Only.drewN {S : Nat → Prop} {a w : World} (h : Only S a w) (n : Nat) : Only S a (w.drewN n) := ⟨h.os, h.tape, h.output, h.size, h.block⟩
theorem Only.alloc {S : Nat → Prop} {a w : World} (h : Only S a w) (o : Obj) : Only S a (w.alloc o) :=
 h.trans ⟨rfl, rfl, rfl, by simp, fun k hk _ => Below.heap_alloc _ _ _ hk⟩
theorem Only.setCell {S : Nat → Prop} {a w : World} (h : Only S a w) {p : Addr} (hp : S p.block ∨ a.heap.size ≤ p.block) (u : Value) : Only S a (w.setCell p u) :=
 h.trans' (T := fun k => k = p.block) ⟨rfl, rfl, rfl, by simp [World.setCell], fun k _ hk => Below.heap_setCell _ _ _ _ hk⟩ (by rintro i hi rfl; exact hp.resolve_right (by omega))
theorem Only.grown {S : Nat → Prop} {a w w' : World} {row : Option Nat} (h : Only S a w) (hg : w.grownBy w' row) (hr : ∀ k, row = some k → S k ∨ a.heap.size ≤ k) : Only S a w' :=
 h.trans' (T := fun k => some k = row) ⟨hg.os, hg.tape, hg.output, hg.size, fun k hk hs => hg.block k hk hs⟩ (fun i hi e => (hr i e.symm).resolve_right (by omega))
theorem heap_set {w : World} {b o : Nat} {c : Array Value} {e : TypeId} {fr : Nat × Nat} (h : w.heap[b]? = some (.cells c e fr)) (v : Value) :
  (w.setCell ⟨b, o, none⟩ v).heap[b]? = some (.cells (c.setIfInBounds o v) e fr) := by
 simp [World.setCell, Array.getElem?_modify, h]
theorem heap_set_ne {w : World} {k : Nat} {x : Option Obj} {a : Addr} (h : w.heap[k]? = x) (hk : k ≠ a.block) (v : Value) : (w.setCell a v).heap[k]? = x := by
 rw [Below.heap_setCell _ _ _ _ hk]; exact h
theorem heap_new (w : World) (o : Obj) : (w.alloc o).heap[w.heap.size]? = some o := by
 show (w.heap.push o)[w.heap.size]? = _
 simp
theorem heap_old {w : World} {k : Nat} {x : Obj} (h : w.heap[k]? = some x) (o : Obj) : (w.alloc o).heap[k]? = some x := by
 rw [Below.heap_alloc _ _ _ (Array.getElem?_eq_some_iff.1 h).1]; exact h
theorem ret_bool {a b : Bool} (h : a = b) : Ending.returned (.bool a) = .returned (.bool b) := by rw [h]
def IsRow (k : IntKind) (w : World) (a : Option Addr) (len cap : Nat) (zs : List Int) : Prop :=
 (a = none ∧ len = 0 ∧ cap = 0 ∧ zs = []) ∨
 ∃ x, a = some x ∧ len ≤ cap ∧ cap ≤ maxLen ∧ zs.length = cap ∧ (∀ i, i < zs.length → w.cell? (x.add i) = some (.int k (zs.getD i 0))) ∧ ∀ n ∈ zs, (Lit.int k n).wf = true
theorem cell_lt {w : World} {a : Addr} {v : Value} (h : w.cell? a = some v) : a.block < w.heap.size := by
 unfold World.cell? at h
 by_cases hb : a.block < w.heap.size
 ·exact hb
 ·rw [Array.getElem?_eq_none (by omega)] at h; cases h
theorem addr_add (b off k : Nat) : (⟨b, off, none⟩ : Addr).add k = ⟨b, off + k, none⟩ := by
 unfold Addr.add; split
 ·subst_vars; rfl
 ·rfl
theorem IsRow.cell {w : World} {a : Option Addr} {len cap : Nat} {zs : List Int} (h : IsRow .u8 w a len cap zs) {k : Nat} (hk : k < len) :
  ∃ b off z, a = some ⟨b, off, none⟩ ∧ b < w.heap.size ∧ w.cell? ⟨b, off + k, none⟩ = some (.int .u8 z) ∧ 0 ≤ z ∧ z ≤ 255 := by
 rcases h with ⟨_, rfl, _, _⟩ | ⟨⟨b, off, spot⟩, rfl, h1, h2, h3, h4, h5⟩
 ·omega
 ·have hs : spot = none := by simpa [Addr.add] using World.cell?_spot (h4 0 (by omega))
  subst hs; have hc := h4 k (by omega); rw [addr_add] at hc; have hm : zs.getD k 0 ∈ zs := by rw [List.getD_eq_getElem?_getD, List.getElem?_eq_getElem (by omega)]; exact List.getElem_mem _
  have hw := h5 _ hm; refine ⟨b, off, _, rfl, cell_lt hc, hc, ?_⟩
  simp [Lit.wf, IntKind.min, IntKind.max, IntKind.signed, IntKind.bits] at hw; simpa using hw
theorem on_disable (w : World) : (callFunc 126 #[]).run Tryz.prog w = .ok (.value (.tuple #[])) w := run_call_mark0 Tryz.func126 (by kernel_rfl) (by kernel_rfl) (by kernel_rfl) .disable (by kernel_rfl) w
theorem on_enable (w : World) : (callFunc 128 #[]).run Tryz.prog w = .ok (.value (.tuple #[])) w := run_call_mark0 Tryz.func128 (by kernel_rfl) (by kernel_rfl) (by kernel_rfl) .enable (by kernel_rfl) w
theorem on_acquire (a : Addr) (w : World) : (callFunc 129 #[.pointer (some a)]).run Tryz.prog w = .ok (.value (.tuple #[])) w := run_call_marked Tryz.func129 (by kernel_rfl) (by kernel_rfl) (by kernel_rfl) .acquire (by kernel_rfl) a w
theorem on_release (a : Addr) (w : World) : (callFunc 131 #[.pointer (some a)]).run Tryz.prog w = .ok (.value (.tuple #[])) w := run_call_marked Tryz.func131 (by kernel_rfl) (by kernel_rfl) (by kernel_rfl) .releaseMerge (by kernel_rfl) a w
theorem on_store (a : Addr) (x : Value) (u : FrameMode) (w : World) (hc : w.cell? a = some x) (hz : w.frozen? a = false) :
  CallsD Tryz.prog 115 #[.pointer (some a), .bool true] u w fun e u' w' => u' = u ∧ (e = .returned (.tuple #[]) ∧ w' = w.drew.setCell a (.int .u32 1)) := by
 have hc' : w.drew.cell? a = some x := by go_simp
 have hz' : w.drew.frozen? a = false := by go_simp
 have hst := run_call_store (P := Tryz.prog) Tryz.func122 (by kernel_rfl) (by kernel_rfl) (by kernel_rfl) (by kernel_rfl) (k := .u32) (y := 1) hc' hz'
 go_enter_d Tryz.func115, Tryz.ntmps115
 go_wp2
 go_region_calls
 all_goals (go_end0; exact ⟨rfl, rfl⟩)
set_option maxRecDepth 100000 in
theorem on_unlock (a : Addr) (u : FrameMode) (w : World) (hc : w.cell? a = some (.int .i32 1)) (hz : w.frozen? a = false) :
  CallsD Tryz.prog 114 #[.pointer (some a)] u w fun e u' w' => u' = u ∧ (e = .returned (.tuple #[]) ∧ w' = w.setCell a (.int .i32 0)) := by
 have hd := on_disable; have he := on_enable; have hr := on_release; have hadd := run_call_add (P := Tryz.prog) Tryz.func132 (by kernel_rfl) (by kernel_rfl) (by kernel_rfl) .i32 (by kernel_rfl) (y := -1) (s := 0) hc hz (by simp [go_sem]; rfl); have hcv := run_convert_to_unsafe (P := Tryz.prog) (src := 202) (dst := 160) Tryz.underlying202 Tryz.underlying160 (by kernel_rfl) hc
 go_enter_d Tryz.func114, Tryz.ntmps114
 go_wp2
 iterate 4 (all_goals (first | (exact ⟨rfl, rfl⟩) | go_end0 | go_wp2))
set_option maxRecDepth 100000 in
theorem on_lock (a : Addr) (w : World) (hc : w.cell? a = some (.int .i32 0)) (hz : w.frozen? a = false) :
  Calls Tryz.prog 113 #[.pointer (some a)] w fun e w' => e = .returned (.tuple #[]) ∧ w' = w.setCell a (.int .i32 1) := by
 have hd := on_disable; have he := on_enable; have ha := on_acquire; have hcas := run_call_cas_hit (P := Tryz.prog) Tryz.func127 (by kernel_rfl) (by kernel_rfl) (by kernel_rfl) .i32 (by kernel_rfl) (y := 1) hc hz; have hc' : (w.setCell a (.int .i32 1)).cell? a = some (.int .i32 1) := World.cell?_setCell_same w a _ hc; have hcv := run_convert_to_unsafe (P := Tryz.prog) (src := 202) (dst := 160) Tryz.underlying202 Tryz.underlying160 (by kernel_rfl) hc'
 go_enter Tryz.func113, Tryz.ntmps113
 go_wp2
 iterate 4 (all_goals (first | (exact ⟨rfl, rfl⟩) | go_end0 | (simp only [Exit.inBlock, Exit.then]; refine bodyPost_ret (results_none rfl _ _ _) rfl ?_) | (refine bodyPost_ret (results_none rfl _ _ _) rfl ?_) | go_wp2))
def OnceQ (b : Nat) (Q : Value → Value → World → Prop) (w w' : World) : Prop :=
 Only (fun k => k = b) w w' ∧ ∃ u3 u4 w1, w'.heap[b]? = some (.cells #[.int .u32 1, .int .i32 0, .int .u32 0, u3, u4] 142 (0, 0)) ∧ Q u3 u4 w1 ∧ Only (fun k => k = b) w1 w'
set_option maxRecDepth 100000 in
set_option maxHeartbeats 1600000 in
theorem slow_any (b : Nat) (v3 v4 : Value) (w : World) (hp : w.heap[b]? = some (.cells #[.int .u32 0, .int .i32 0, .int .u32 0, v3, v4] 142 (0, 0)))
  (Q : Value → Value → World → Prop)
  (hf : Calls Tryz.prog 83 #[.pointer (some ⟨b, 0, none⟩)] (w.setCell ⟨b, 1, none⟩ (.int .i32 1)) (fun e w' => e = .returned (.tuple #[]) ∧ Only (fun k => k = b) w w' ∧ ∃ u3 u4, w'.heap[b]? = some (.cells #[.int .u32 0, .int .i32 1, .int .u32 0, u3, u4] 142 (0, 0)) ∧ Q u3 u4 w')) :
  Calls Tryz.prog 103 #[.pointer (some ⟨b, 0, none⟩), .func (.func 83) #[.pointer (some ⟨b, 0, none⟩)] #[]] w fun e w' => e = .returned (.tuple #[]) ∧ OnceQ b Q w w' := by
 have h0 : w.cell? ⟨b, 0, none⟩ = some (.int .u32 0) := by simp [World.cell?, hp]
 have h1 : w.cell? ⟨b, 1, none⟩ = some (.int .i32 0) := by simp [World.cell?, hp]
 have f1 : w.frozen? ⟨b, 1, none⟩ = false := by simp [World.frozen?, hp]
 have h01 : (w.setCell ⟨b, 1, none⟩ (.int .i32 1)).cell? ⟨b, 0, none⟩ = some (.int .u32 0) := (World.cell?_setCell_other _ ⟨b, 1, none⟩ ⟨b, 0, none⟩ _ (by simp)).trans h0; have hl := run_call_load (P := Tryz.prog) Tryz.func112 (by kernel_rfl) (by kernel_rfl) (by kernel_rfl) .u32 (by kernel_rfl) (x := 0) h01; have hnot : ∀ (x : Bool) (w : World), (Op.unary .not (.bool x)).run Tryz.prog w = .ok (.bool (!x)) w := fun _ _ => rfl
 have HF := hid hf; clear hf hp
 go_enter_defers Tryz.func103, Tryz.ntmps103
 go_wp2_with (first | (go_at_call 113; refine (on_lock ⟨b, 1, none⟩ _ (by go_simp) (by go_simp)).mono ?_; rintro e w' ⟨rfl, rfl⟩) | (go_at_call 102; go_in))
 refine HF.out.mono ?_
 rintro e w1 ⟨rfl, o1, u3, u4, hb, hq⟩; have k0 : w1.cell? ⟨b, 0, none⟩ = some (.int .u32 0) := by simp [World.cell?, hb]
 have z0 : w1.frozen? ⟨b, 0, none⟩ = false := by simp [World.frozen?, hb]
 have hb2 := heap_set (o := 0) (w := w1.drew) hb (.int .u32 1); have hb2 : (w1.drew.setCell ⟨b, 0, none⟩ (.int .u32 1)).heap[b]? = some (.cells #[.int .u32 1, .int .i32 1, .int .u32 0, u3, u4] 142 (0, 0)) := by simpa using hb2
 have hb3 := heap_set (o := 1) hb2 (.int .i32 0); have hb3 : ((w1.drew.setCell ⟨b, 0, none⟩ (.int .u32 1)).setCell ⟨b, 1, none⟩ (.int .i32 0)).heap[b]? = some (.cells #[.int .u32 1, .int .i32 0, .int .u32 0, u3, u4] 142 (0, 0)) := by simpa using hb3
 have k1 : (w1.drew.setCell ⟨b, 0, none⟩ (.int .u32 1)).cell? ⟨b, 1, none⟩ = some (.int .i32 1) := by simp only [World.cell?, hb2]; rfl
 have z1 : (w1.drew.setCell ⟨b, 0, none⟩ (.int .u32 1)).frozen? ⟨b, 1, none⟩ = false := by simp only [World.frozen?, hb2]; rfl
 have oz : Only (fun k => k = b) w1 ((w1.drew.setCell ⟨b, 0, none⟩ (.int .u32 1)).setCell ⟨b, 1, none⟩ (.int .i32 0)) := ((Only.refl (fun k => k = b) w1).drew.setCell (p := ⟨b, 0, none⟩) (.inl rfl) _).setCell (p := ⟨b, 1, none⟩) (.inl rfl) _; have HEND := hid (show OnceQ b Q w ((w1.drew.setCell ⟨b, 0, none⟩ (.int .u32 1)).setCell ⟨b, 1, none⟩ (.int .i32 0)) from ⟨o1.trans oz, u3, u4, w1, hb3, hq, oz⟩); clear hb hb2 hb3 o1 oz hq
 go_wp2_with fail
 refine leaves_cons (f := 115) (args := #[.pointer (some ⟨b, 0, none⟩), .bool true]) (by simp) (by simp [go_sem]) ?_
 refine (on_store ⟨b, 0, none⟩ (.int .u32 0) .returning _ k0 z0).mono ?_
 rintro e u' w'' ⟨rfl, rfl, rfl⟩; refine leaves_cons (f := 114) (args := #[.pointer (some ⟨b, 1, none⟩)]) (by simp [settle]) (by simp [go_sem]) ?_
 refine (on_unlock ⟨b, 1, none⟩ _ _ k1 z1).mono ?_
 rintro e u' w'' ⟨rfl, rfl, rfl⟩; simp [Leaves, settle, results, Tryz.results103]; exact HEND.out
set_option maxRecDepth 100000 in
set_option maxHeartbeats 1600000 in
theorem do_any (b : Nat) (v3 v4 : Value) (w : World) (hp : w.heap[b]? = some (.cells #[.int .u32 0, .int .i32 0, .int .u32 0, v3, v4] 142 (0, 0)))
  (Q : Value → Value → World → Prop)
  (hf : Calls Tryz.prog 83 #[.pointer (some ⟨b, 0, none⟩)] (w.setCell ⟨b, 1, none⟩ (.int .i32 1)) (fun e w' => e = .returned (.tuple #[]) ∧ Only (fun k => k = b) w w' ∧ ∃ u3 u4, w'.heap[b]? = some (.cells #[.int .u32 0, .int .i32 1, .int .u32 0, u3, u4] 142 (0, 0)) ∧ Q u3 u4 w')) :
  Calls Tryz.prog 82 #[.pointer (some ⟨b, 0, none⟩), .func (.func 83) #[.pointer (some ⟨b, 0, none⟩)] #[]] w fun e w' => e = .returned (.tuple #[]) ∧ OnceQ b Q w w' := by
 have HS := hid (slow_any b v3 v4 w hp Q hf); have h0 : w.cell? ⟨b, 0, none⟩ = some (.int .u32 0) := by simp [World.cell?, hp]
 have hl := run_call_load (P := Tryz.prog) Tryz.func112 (by kernel_rfl) (by kernel_rfl) (by kernel_rfl) .u32 (by kernel_rfl) h0; have hnot : ∀ (x : Bool) (w : World), (Op.unary .not (.bool x)).run Tryz.prog w = .ok (.bool (!x)) w := fun _ _ => rfl
 clear hf hp
 go_enter Tryz.func82, Tryz.ntmps82
 go_wp2_with (go_at_call 102; go_in)
 refine HS.out.mono ?_
 rintro e w1 ⟨rfl, hq⟩; have HQ := hid hq; clear hq
 go_wp2_with fail
 first
  | exact ⟨rfl, HQ.out⟩
  | (go_end0; exact ⟨rfl, HQ.out⟩)
  | (go_ret; exact ⟨rfl, HQ.out⟩)
section
variable {P : Program} {ops : Array Oper} {Q : Exit → Act → World → Prop}
theorem own_form {w : World} {B : Nat} {e : TypeId} {size : Nat} {v : Value} {n : Nat} {xs : List Value} (h : w.ownsRow B e size v n xs) : ∃ a c, v = .slice a n c ∧ n ≤ c ∧ c ≤ maxLen ∧ ∀ k, v.ownBlock = some k → B ≤ k ∧ k < w.heap.size := by
 obtain ⟨h1, h2⟩ := h
 rcases h2 with ⟨rfl, rfl⟩ | ⟨g, cap, cur, rfl, hg, hh, r1, r2, _⟩
 ·exact ⟨none, 0, rfl, Nat.le_refl _, Nat.zero_le _, fun k hk => by cases hk⟩
 ·refine ⟨_, _, rfl, r1, r2, fun k hk => ?_⟩
  injection hk with hk; subst hk
  exact ⟨hg, (Array.getElem?_eq_some_iff.1 hh).1⟩
theorem own_only' {S : Nat → Prop} {w w' : World} {base : Nat} {e : TypeId} {size : Nat} {v : Value} {n : Nat} {xs : List Value} (h : w.ownsRow base e size v n xs) (ho : Only S w w') (hS : ∀ k, v.ownBlock = some k → ¬ S k) : w'.ownsRow base e size v n xs := by
 obtain ⟨h1, h2⟩ := h; refine ⟨h1, ?_⟩
 rcases h2 with h2 | ⟨g, cap, cur, rfl, hg, hh, r⟩
 ·exact Or.inl h2
 ·exact Or.inr ⟨g, cap, cur, rfl, hg, by rw [ho.block _ (Array.getElem?_eq_some_iff.1 hh).1 (hS g rfl)]; exact hh, r⟩
theorem own_range {w : World} {B : Nat} {e : TypeId} {size : Nat} {v : Value} {n : Nat} {xs : List Value} (h : w.ownsRow B e size v n xs) (hn : 0 < n) : ∃ g c, v = .slice (some ⟨g, 0, none⟩) n c ∧ B ≤ g ∧ g < w.heap.size ∧ w.rangeAt g 0 xs := by
 obtain ⟨h1, h2⟩ := h
 rcases h2 with ⟨_, h0⟩ | ⟨g, cap, cur, rfl, hg, hh, h3, h4, h5, h6⟩
 ·omega
 ·refine ⟨g, cap, rfl, hg, (Array.getElem?_eq_some_iff.1 hh).1, fun j v hv => ?_⟩
  simp only [World.cell?, hh]; rw [Nat.zero_add]; rw [← h6, List.getElem?_take] at hv
  split at hv
  ·simpa using hv
  ·cases hv
theorem own_nil (w : World) (B : Nat) (e : TypeId) (size : Nat) : w.ownsRow B e size (.slice none 0 0) 0 [] := ⟨by simp, .inl ⟨rfl, rfl⟩⟩
theorem wpList_append_own2 {w : World} {rest : List Oper} {o : Oper} {a : Act} (hgd : o.guard = none) (s x : Operand) (T E : TypeId)
  (ho : o.op = .call { callee := .builtin .append, args := #[s, x], argTypes := #[T, T] }) (hu : P.underlying T = some (.slice E)) {z : Value} {size bytes : Nat} (hi : (P.info? E).map (fun i => (i.zero, i.size, i.bytes)) = some (some z, size, bytes)) (hzs : z.cells.size = size) (hsz : 0 < size)
  (B : Nat) (v : Value) (n m c : Nat) (xs ys : List Value) (ad : Addr) (hs : a.eval s = v) (hx : a.eval x = .slice (some ad) m c) (hown : w.ownsRow B E size v n xs) (hl : ys.length = m * size) (hys : ∀ j u, ys[j]? = some u → w.cell? (ad.add j) = some u) (h1 : ∀ u ∈ ys, u.oneCell' = true)
  (hb1 : n + m ≤ maxLen) (hb2 : (n + m) * bytes ≤ 140737488355328) (hB : B ≤ w.heap.size)
  (h : ∀ v' w', w'.ownsRow B E size v' (n + m) (xs ++ ys) → Only (fun k => v.ownBlock = some k) w w' → (∀ k, v'.ownBlock = some k → v.ownBlock = some k ∨ w.heap.size ≤ k) → wpList P ops Q rest (a.put o.dst v') w') : wpList P ops Q (o :: rest) a w := by
 obtain ⟨i0, hi, hz0, hz1, hz2⟩ := info_parts hi; refine wpList_plain hgd fun K hK => ?_
 obtain ⟨v', w', hr, g1, g2, _, g3⟩ := run_append_own_at (P := P) (w := w) B T o.type E i0 z size bytes hu hi hz0 hz1 hz2 hzs hsz v n xs hown ad m c ys hl hys h1 hb1 hb2 hB; unfold Oper.wp execOp; simp only [ho, resolve, invoke, builtin, Sem.run_bind, Sem.run_pure, Result.andThen_ok, List.map_toArray, List.map_cons, List.map_nil, hs, hx, hr]
 exact hK _ _ (h v' w' g1 ((Only.refl (fun k => v.ownBlock = some k) w).grown g2 (fun k hk => .inl hk)) (fun k hk => by
  rcases g3 with g | g
  ·exact .inl (g ▸ hk)
  ·rw [g] at hk; injection hk with hk; exact .inr (Nat.le_of_eq hk)))
theorem setCells_heap : ∀ (vs : List Value) (w : World) (b : Nat) (pre old post : List Value) (T : TypeId) (fr : Nat × Nat), old.length = vs.length → w.heap[b]? = some (.cells (pre ++ old ++ post).toArray T fr) → (w.setCells b pre.length vs).heap[b]? = some (.cells (pre ++ vs ++ post).toArray T fr)
 | [], w, b, pre, old, post, T, fr, hl, h => by
  have : old = [] := List.eq_nil_of_length_eq_zero (by simpa using hl); subst this; exact h
 | v :: vs, w, b, pre, old, post, T, fr, hl, h => by
  cases old with
  | nil => simp at hl
  | cons u old =>
   rw [World.setCells]; have h1 := heap_set (o := pre.length) h v; have e : (pre ++ u :: old ++ post).toArray.setIfInBounds pre.length v = ((pre ++ [v]) ++ old ++ post).toArray := by
    simp
   rw [e] at h1; have h2 := setCells_heap vs (w.setCell ⟨b, pre.length, none⟩ v) b (pre ++ [v]) old post T fr (by simpa using hl) h1; rw [show (pre ++ [v]).length = pre.length + 1 from by simp] at h2; rw [h2]; simp
theorem setCells_only : ∀ (vs : List Value) (w : World) (b o : Nat), Only (fun k => k = b) w (w.setCells b o vs)
 | [], w, b, o => Only.refl _ _
 | v :: vs, w, b, o => by
  rw [World.setCells]; exact ((Only.refl (fun k => k = b) w).setCell (p := ⟨b, o, none⟩) (.inl rfl) v).trans (setCells_only vs _ b (o + 1))
theorem wpList_store_box {w : World} {rest : List Oper} {o : Oper} {a : Act} (hgd : o.guard = none) (T : TypeId) (x y : Operand) (ho : o.op = .store T x y)
  (b : Nat) (old new : List Value) (hx : a.eval x = .pointer (some ⟨b, 0, none⟩)) (hy : a.eval y = .agg new.toArray) (hb : w.heap[b]? = some (.cells old.toArray T (0, 0))) (hl : old.length = new.length)
  (hi : (P.info? T).map (·.size) = some new.length) (h1 : ∀ v ∈ new, v.oneCell' = true)
  (h : ∀ w', w'.heap[b]? = some (.cells new.toArray T (0, 0)) → Only (fun k => k = b) w w' → wpList P ops Q rest (a.put o.dst undef) w') : wpList P ops Q (o :: rest) a w := by
 refine wpList_store_mid hgd T x y ho b 0 new.toArray hx hy (fun j hj => ?_) (by simpa using hi) (all_oneCell_toArray h1) (h _ ?_ ?_)
 ·have hj' : j < old.length := by simpa [hl] using hj
  constructor
  ·rw [Nat.zero_add]; simp [World.cell?, hb, hj']
  ·simp [World.frozen?, hb]
 ·have := setCells_heap new w b [] old [] T (0, 0) hl (by simpa using hb); simpa using this
 ·simpa using setCells_only new w b 0
end
section
variable {P : Program} {ops : Array Oper} {Q : Exit → Act → World → Prop}
theorem wpList_store_part {w : World} {rest : List Oper} {o : Oper} {a : Act} (hgd : o.guard = none) (T : TypeId) (x y : Operand) (ho : o.op = .store T x y)
  (b k : Nat) (T' : TypeId) (pre old new post : List Value) (hx : a.eval x = .pointer (some ⟨b, k, none⟩)) (hy : a.eval y = .agg new.toArray) (hb : w.heap[b]? = some (.cells (pre ++ old ++ post).toArray T' (0, 0))) (hk : pre.length = k) (hl : old.length = new.length)
  (hi : (P.info? T).map (·.size) = some new.length) (h1 : ∀ v ∈ new, v.oneCell' = true)
  (h : ∀ w', w'.heap[b]? = some (.cells (pre ++ new ++ post).toArray T' (0, 0)) → Only (fun k => k = b) w w' → wpList P ops Q rest (a.put o.dst undef) w') : wpList P ops Q (o :: rest) a w := by
 refine wpList_store_mid hgd T x y ho b k new.toArray hx hy (fun j hj => ?_) (by simpa using hi) (all_oneCell_toArray h1) (h _ ?_ ?_)
 ·have hj' : j < old.length := by simpa [hl] using hj
  constructor
  ·have e : (pre ++ old ++ post)[k + j]? = some old[j] := by
    rw [List.append_assoc, List.getElem?_append_right (by omega), List.getElem?_append_left (by omega), show k + j - pre.length = j from by omega]; exact List.getElem?_eq_getElem hj'
   have e2 : k + j < (pre ++ old ++ post).length := (List.getElem?_eq_some_iff.1 e).1; have e3 : w.cell? ⟨b, k + j, none⟩ = some old[j] := by
    simp only [World.cell?, hb]; simpa using e
   rw [e3]; rfl
  ·simp [World.frozen?, hb]
 ·have := setCells_heap new w b pre old post T' (0, 0) hl hb; rw [hk] at this; simpa using this
 ·simpa using setCells_only new w b k
end
theorem boxN3 {w : World} {b : Nat} {x0 x1 x2 : Value} {T : TypeId} (h : w.heap[b]? = some (.cells #[x0, x1, x2] T (0, 0))) :
  w.cell? ⟨b, 0, none⟩ = some x0 ∧ w.cell? ⟨b, 1, none⟩ = some x1 ∧ w.cell? ⟨b, 2, none⟩ = some x2 ∧ ∀ o, w.frozen? ⟨b, o, none⟩ = false := by
 refine ⟨?_, ?_, ?_, fun o => ?_⟩ <;> simp [World.cell?, World.frozen?, h]
theorem boxN4 {w : World} {b : Nat} {x0 x1 x2 x3 : Value} {T : TypeId} (h : w.heap[b]? = some (.cells #[x0, x1, x2, x3] T (0, 0))) :
  w.cell? ⟨b, 0, none⟩ = some x0 ∧ w.cell? ⟨b, 1, none⟩ = some x1 ∧ w.cell? ⟨b, 2, none⟩ = some x2 ∧ w.cell? ⟨b, 3, none⟩ = some x3 ∧ ∀ o, w.frozen? ⟨b, o, none⟩ = false := by
 refine ⟨?_, ?_, ?_, ?_, fun o => ?_⟩ <;> simp [World.cell?, World.frozen?, h]
theorem boxN5 {w : World} {b : Nat} {x0 x1 x2 x3 x4 : Value} {T : TypeId} (h : w.heap[b]? = some (.cells #[x0, x1, x2, x3, x4] T (0, 0))) :
  w.cell? ⟨b, 0, none⟩ = some x0 ∧ w.cell? ⟨b, 1, none⟩ = some x1 ∧ w.cell? ⟨b, 2, none⟩ = some x2 ∧ w.cell? ⟨b, 3, none⟩ = some x3 ∧ w.cell? ⟨b, 4, none⟩ = some x4 ∧ ∀ o, w.frozen? ⟨b, o, none⟩ = false := by
 refine ⟨?_, ?_, ?_, ?_, ?_, fun o => ?_⟩ <;> simp [World.cell?, World.frozen?, h]
inductive Cell where
 | lit (v : Value)
 | row (n : Nat) (rs : List (List Cell))
mutual
def CellAt (w : World) (G : Nat → Prop) : Cell → Value → Prop
 | .lit u, v => v = u ∧ u.oneCell' = true
 | .row n rs, v => ∃ a c, v = .slice a rs.length c ∧ rs.length ≤ c ∧ c ≤ 9223372036854775807 ∧ (0 < rs.length → ∃ b off, a = some ⟨b, off, none⟩ ∧ G b ∧ b < w.heap.size ∧ RowsAt w G n rs b off)
def CellsAt (w : World) (G : Nat → Prop) : List Cell → List Value → Prop
 | [], vs => vs = []
 | c :: cs, vs => ∃ v us, vs = v :: us ∧ CellAt w G c v ∧ CellsAt w G cs us
def RowsAt (w : World) (G : Nat → Prop) (n : Nat) : List (List Cell) → Nat → Nat → Prop
 | [], _, _ => True
 | r :: rs, b, off => (∃ vs, vs.length = n ∧ w.rangeAt b off vs ∧ CellsAt w G r vs) ∧ RowsAt w G n rs b (off + n)
end
theorem cell_keep {S : Nat → Prop} {w w' : World} {p : Addr} (ho : Only S w w') (hb : p.block < w.heap.size) (hS : ¬ S p.block) : w'.cell? p = w.cell? p := by
 simp only [World.cell?]; rw [ho.block p.block hb hS]
theorem range_keep {S : Nat → Prop} {w w' : World} {b off : Nat} {cs : List Value} (h : w.rangeAt b off cs) (hb : b < w.heap.size) (ho : Only S w w') (hS : ¬ S b) : w'.rangeAt b off cs := fun j v hv => by
 rw [cell_keep ho hb hS]; exact h j v hv
mutual
theorem CellAt.only {S G : Nat → Prop} {w w' : World} (ho : Only S w w') (hS : ∀ k, G k → ¬ S k) : ∀ (c : Cell) (v : Value), CellAt w G c v → CellAt w' G c v
 | .lit u, v, h => by simp only [CellAt] at h ⊢; exact h
 | .row n rs, v, h => by
  simp only [CellAt] at h ⊢; obtain ⟨a, c, e, h1, h2, h3⟩ := h; refine ⟨a, c, e, h1, h2, fun hp => ?_⟩
  obtain ⟨b, off, e, hg, hb, hr⟩ := h3 hp; exact ⟨b, off, e, hg, Nat.lt_of_lt_of_le hb ho.size, RowsAt.only ho hS n rs b off hb hg hr⟩
theorem CellsAt.only {S G : Nat → Prop} {w w' : World} (ho : Only S w w') (hS : ∀ k, G k → ¬ S k) : ∀ (cs : List Cell) (vs : List Value), CellsAt w G cs vs → CellsAt w' G cs vs
 | [], vs, h => by simp only [CellsAt] at h ⊢; exact h
 | c :: cs, vs, h => by
  simp only [CellsAt] at h ⊢; obtain ⟨v, us, e, h1, h2⟩ := h; exact ⟨v, us, e, CellAt.only ho hS c v h1, CellsAt.only ho hS cs us h2⟩
theorem RowsAt.only {S G : Nat → Prop} {w w' : World} (ho : Only S w w') (hS : ∀ k, G k → ¬ S k) (n : Nat) : ∀ (rs : List (List Cell)) (b off : Nat), b < w.heap.size → G b → RowsAt w G n rs b off → RowsAt w' G n rs b off
 | [], _, _, _, _, _ => by simp only [RowsAt]
 | r :: rs, b, off, hb, hg, h => by
  simp only [RowsAt] at h ⊢; obtain ⟨⟨vs, h1, h2, h3⟩, h4⟩ := h; exact ⟨⟨vs, h1, range_keep h2 hb ho (hS b hg), CellsAt.only ho hS r vs h3⟩, RowsAt.only ho hS n rs b (off + n) hb hg h4⟩
end
mutual
theorem CellAt.weaken {w : World} {G G' : Nat → Prop} (h : ∀ q, q < w.heap.size → G q → G' q) : ∀ (c : Cell) (v : Value), CellAt w G c v → CellAt w G' c v
 | .lit u, v, hv => by simp only [CellAt] at hv ⊢; exact hv
 | .row n rs, v, hv => by
  simp only [CellAt] at hv ⊢; obtain ⟨a, c, e, h1, h2, h3⟩ := hv; refine ⟨a, c, e, h1, h2, fun hp => ?_⟩
  obtain ⟨b, off, e, hg, hb, hr⟩ := h3 hp; exact ⟨b, off, e, h b hb hg, hb, RowsAt.weaken h n rs b off hr⟩
theorem CellsAt.weaken {w : World} {G G' : Nat → Prop} (h : ∀ q, q < w.heap.size → G q → G' q) : ∀ (cs : List Cell) (vs : List Value), CellsAt w G cs vs → CellsAt w G' cs vs
 | [], vs, hv => by simp only [CellsAt] at hv ⊢; exact hv
 | c :: cs, vs, hv => by
  simp only [CellsAt] at hv ⊢; obtain ⟨v, us, e, h1, h2⟩ := hv; exact ⟨v, us, e, CellAt.weaken h c v h1, CellsAt.weaken h cs us h2⟩
theorem RowsAt.weaken {w : World} {G G' : Nat → Prop} (h : ∀ q, q < w.heap.size → G q → G' q) (n : Nat) : ∀ (rs : List (List Cell)) (b off : Nat), RowsAt w G n rs b off → RowsAt w G' n rs b off
 | [], _, _, _ => by simp only [RowsAt]
 | r :: rs, b, off, hv => by
  simp only [RowsAt] at hv ⊢; obtain ⟨⟨vs, h1, h2, h3⟩, h4⟩ := hv; exact ⟨⟨vs, h1, h2, CellsAt.weaken h r vs h3⟩, RowsAt.weaken h n rs b (off + n) h4⟩
end
theorem CellAt.one {w : World} {G : Nat → Prop} {c : Cell} {v : Value} (h : CellAt w G c v) : v.oneCell' = true := by
 cases c with
 | lit u => simp only [CellAt] at h; rw [h.1]; exact h.2
 | row n rs => simp only [CellAt] at h; obtain ⟨a, c, rfl, _⟩ := h; rfl
theorem CellsAt.one {w : World} {G : Nat → Prop} : ∀ {cs : List Cell} {vs : List Value}, CellsAt w G cs vs → ∀ u ∈ vs, u.oneCell' = true
 | [], vs, h => by simp only [CellsAt] at h; subst h; simp
 | c :: cs, vs, h => by
  simp only [CellsAt] at h; obtain ⟨v, us, rfl, h1, h2⟩ := h; intro u hu
  rcases List.mem_cons.1 hu with rfl | hu
  ·exact h1.one
  ·exact CellsAt.one h2 u hu
theorem CellsAt.len {w : World} {G : Nat → Prop} : ∀ {cs : List Cell} {vs : List Value}, CellsAt w G cs vs → vs.length = cs.length
 | [], vs, h => by simp only [CellsAt] at h; subst h; rfl
 | c :: cs, vs, h => by
  simp only [CellsAt] at h; obtain ⟨v, us, rfl, h1, h2⟩ := h; rw [List.length_cons, List.length_cons, CellsAt.len h2]
theorem CellsAt.app {w : World} {G : Nat → Prop} : ∀ {cs ds : List Cell} {vs us : List Value}, CellsAt w G cs vs → CellsAt w G ds us → CellsAt w G (cs ++ ds) (vs ++ us)
 | [], ds, vs, us, h, k => by simp only [CellsAt] at h; subst h; exact k
 | c :: cs, ds, vs, us, h, k => by
  simp only [CellsAt] at h; obtain ⟨v, vs', rfl, h1, h2⟩ := h; exact ⟨v, vs' ++ us, rfl, h1, CellsAt.app h2 k⟩
theorem CellsAt.split {w : World} {G : Nat → Prop} : ∀ {cs ds : List Cell} {xs : List Value}, CellsAt w G (cs ++ ds) xs → ∃ vs us, xs = vs ++ us ∧ CellsAt w G cs vs ∧ CellsAt w G ds us
 | [], ds, xs, h => ⟨[], xs, rfl, by simp only [CellsAt], h⟩
 | c :: cs, ds, xs, h => by
  rw [List.cons_append] at h; simp only [CellsAt] at h; obtain ⟨v, xs', rfl, h1, h2⟩ := h; obtain ⟨vs, us, rfl, k1, k2⟩ := CellsAt.split h2; exact ⟨v :: vs, us, rfl, ⟨v, vs, rfl, h1, k1⟩, k2⟩
theorem CellsAt.nil (w : World) (G : Nat → Prop) : CellsAt w G [] [] := by simp only [CellsAt]
theorem CellsAt.cons {w : World} {G : Nat → Prop} {c : Cell} {cs : List Cell} {v : Value} {vs : List Value} (h : CellAt w G c v) (k : CellsAt w G cs vs) : CellsAt w G (c :: cs) (v :: vs) := ⟨v, vs, rfl, h, k⟩
theorem CellsAt.lit {w : World} {G : Nat → Prop} {u : Value} {cs : List Cell} {vs : List Value} (h : u.oneCell' = true) (k : CellsAt w G cs vs) : CellsAt w G (.lit u :: cs) (u :: vs) := ⟨u, vs, rfl, ⟨rfl, h⟩, k⟩
theorem CellAt.nilRow (w : World) (G : Nat → Prop) (n : Nat) : CellAt w G (.row n []) (.slice none 0 0) := ⟨none, 0, rfl, Nat.le_refl _, by decide, fun h => absurd h (by simp)⟩
theorem rowsAt_get {w : World} {G : Nat → Prop} {n : Nat} : ∀ {rs : List (List Cell)} {b off : Nat}, RowsAt w G n rs b off → ∀ (i : Nat) (h : i < rs.length), ∃ vs, vs.length = n ∧ w.rangeAt b (off + i * n) vs ∧ CellsAt w G rs[i] vs
 | [], _, _, _, i, h => absurd h (by simp)
 | r :: rs, b, off, hv, 0, _ => by simp only [RowsAt] at hv; simpa using hv.1
 | r :: rs, b, off, hv, i + 1, h => by
  simp only [RowsAt] at hv; have := rowsAt_get hv.2 i (by simpa using h); rw [show off + (i + 1) * n = off + n + i * n from by rw [Nat.succ_mul]; omega]; exact this
theorem CellAt.rows {w : World} {G : Nat → Prop} {n : Nat} {rs : List (List Cell)} {v : Value} (h : CellAt w G (.row n rs) v) : ∃ a c, v = .slice a rs.length c ∧ rs.length ≤ c ∧ c ≤ 9223372036854775807 ∧
  ∀ i (h : i < rs.length), ∃ b off vs, a = some ⟨b, off, none⟩ ∧ G b ∧ b < w.heap.size ∧ vs.length = n ∧ w.rangeAt b (off + i * n) vs ∧ CellsAt w G rs[i] vs := by
 simp only [CellAt] at h; obtain ⟨a, c, e, h1, h2, h3⟩ := h; refine ⟨a, c, e, h1, h2, fun i hi => ?_⟩
 obtain ⟨b, off, e, hg, hb, hr⟩ := h3 (by omega); obtain ⟨vs, k1, k2, k3⟩ := rowsAt_get hr i hi; exact ⟨b, off, vs, e, hg, hb, k1, k2, k3⟩
def Chk (w : World) (G : Nat → Prop) (n : Nat) : List (List Cell) → List Value → Prop
 | [], xs => xs = []
 | r :: rs, xs => ∃ vs rest, xs = vs ++ rest ∧ vs.length = n ∧ CellsAt w G r vs ∧ Chk w G n rs rest
theorem Chk.only {S G : Nat → Prop} {n : Nat} {w w' : World} (ho : Only S w w') (hS : ∀ k, G k → ¬ S k) : ∀ {rs : List (List Cell)} {xs : List Value}, Chk w G n rs xs → Chk w' G n rs xs
 | [], _, h => h
 | r :: rs, _, ⟨vs, rest, e, h1, h2, h3⟩ => ⟨vs, rest, e, h1, CellsAt.only ho hS r vs h2, Chk.only ho hS h3⟩
theorem Chk.weaken {w : World} {G G' : Nat → Prop} {n : Nat} (h : ∀ q, q < w.heap.size → G q → G' q) : ∀ {rs : List (List Cell)} {xs : List Value}, Chk w G n rs xs → Chk w G' n rs xs
 | [], _, hc => hc
 | r :: rs, _, ⟨vs, rest, e, h1, h2, h3⟩ => ⟨vs, rest, e, h1, CellsAt.weaken h r vs h2, Chk.weaken h h3⟩
theorem Chk.snoc {w : World} {G : Nat → Prop} {n : Nat} {r : List Cell} {vs : List Value} (hl : vs.length = n) (hv : CellsAt w G r vs) : ∀ {rs : List (List Cell)} {xs : List Value}, Chk w G n rs xs → Chk w G n (rs ++ [r]) (xs ++ vs)
 | [], _, h => by have h : _ = [] := h; subst h; exact ⟨vs, [], by simp, hl, hv, rfl⟩
 | u :: us, _, ⟨ds, rest, e, h1, h2, h3⟩ => ⟨ds, rest ++ vs, by rw [e, List.append_assoc], h1, h2, Chk.snoc hl hv h3⟩
theorem Chk.rows {w : World} {G : Nat → Prop} {n b : Nat} : ∀ {rs : List (List Cell)} {xs : List Value} {off : Nat}, Chk w G n rs xs → w.rangeAt b off xs → RowsAt w G n rs b off
 | [], _, _, _, _ => by simp only [RowsAt]
 | r :: rs, _, off, ⟨vs, rest, e, h1, h2, h3⟩, hr => by
  subst e; simp only [RowsAt]; refine ⟨⟨vs, h1, fun j u hu => hr j u (by rw [List.getElem?_append_left (by have := (List.getElem?_eq_some_iff.1 hu).1; omega)]; exact hu), h2⟩, Chk.rows h3 (fun j u hu => ?_)⟩
  have := hr (n + j) u (by rw [List.getElem?_append_right (by omega), h1]; simpa using hu); rw [← Nat.add_assoc] at this; exact this
def OwnRow (w : World) (B : Nat) (T : TypeId) (n : Nat) (v : Value) (rs : List (List Cell)) : Prop :=
 ∃ xs, w.ownsRow B T n v rs.length xs ∧ Chk w (fun q => B ≤ q ∧ v.ownBlock ≠ some q ∧ q < w.heap.size) n rs xs
theorem OwnRow.nil (w : World) (B : Nat) (T : TypeId) (n : Nat) : OwnRow w B T n (.slice none 0 0) [] := ⟨[], own_nil _ _ _ _, rfl⟩
theorem OwnRow.form {w : World} {B : Nat} {T : TypeId} {n : Nat} {v : Value} {rs : List (List Cell)} (h : OwnRow w B T n v rs) : ∃ a c, v = .slice a rs.length c ∧ rs.length ≤ c ∧ c ≤ maxLen ∧ ∀ k, v.ownBlock = some k → B ≤ k ∧ k < w.heap.size := by
 obtain ⟨xs, h1, _⟩ := h; exact own_form h1
theorem OwnRow.only {S : Nat → Prop} {w w' : World} {B : Nat} {T : TypeId} {n : Nat} {v : Value} {rs : List (List Cell)} (h : OwnRow w B T n v rs) (ho : Only S w w') (hS : ∀ k, B ≤ k → k < w.heap.size → ¬ S k) : OwnRow w' B T n v rs := by
 obtain ⟨xs, h1, h2⟩ := h; obtain ⟨a, c, e, _, _, h3⟩ := own_form h1; exact ⟨xs, own_only' h1 ho (fun k hk => hS k (h3 k hk).1 (h3 k hk).2), (h2.only ho (fun k hk => hS k hk.1 hk.2.2)).weaken (fun q _ hq => ⟨hq.1, hq.2.1, Nat.lt_of_lt_of_le hq.2.2 ho.size⟩)⟩
theorem OwnRow.cell {w : World} {B : Nat} {T : TypeId} {n : Nat} {v : Value} {rs : List (List Cell)} (h : OwnRow w B T n v rs) : CellAt w (fun q => B ≤ q) (.row n rs) v := by
 obtain ⟨xs, h1, h2⟩ := h; obtain ⟨a, c, e, k1, k2, k3⟩ := own_form h1; simp only [CellAt]; refine ⟨a, c, e, k1, by unfold maxLen at k2; omega, fun hp => ?_⟩
 obtain ⟨g, c', e', hg, hb, hr⟩ := own_range h1 hp; rw [e] at e'; injection e' with e' _ _; exact ⟨g, 0, e', hg, hb, RowsAt.weaken (fun q _ hq => hq.1) n rs g 0 (h2.rows hr)⟩
theorem OwnRow.append {w w' : World} {B : Nat} {T : TypeId} {n : Nat} {v v' : Value} {rs : List (List Cell)} {r : List Cell} {xs vs : List Value} (h1 : w.ownsRow B T n v rs.length xs) (h2 : Chk w (fun q => B ≤ q ∧ v.ownBlock ≠ some q ∧ q < w.heap.size) n rs xs)
  (hl : vs.length = n) (hr : CellsAt w (fun q => B ≤ q ∧ v.ownBlock ≠ some q ∧ q < w.heap.size) r vs) (q1 : w'.ownsRow B T n v' (rs.length + 1) (xs ++ vs)) (q2 : Only (fun k => v.ownBlock = some k) w w') (q3 : ∀ k, v'.ownBlock = some k → v.ownBlock = some k ∨ w.heap.size ≤ k) : OwnRow w' B T n v' (rs ++ [r]) := by
 refine ⟨xs ++ vs, by rw [List.length_append, List.length_singleton]; exact q1, ?_⟩
 refine ((Chk.snoc hl hr h2).only q2 (fun k hk => hk.2.1)).weaken (fun q _ hq => ⟨hq.1, fun e => ?_, Nat.lt_of_lt_of_le hq.2.2 q2.size⟩)
 rcases q3 q e with h | h
 ·exact hq.2.1 h
 ·have := hq.2.2; omega
end Go.Proofs.YtnkpoddbbdmipaaGreatDoor
