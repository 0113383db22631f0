/- . -/
import Derived.Below
import Derived.WalkKit
import Derived.WalkSpells
import Derived.WalkLawsBesides
import Derived.Handy
import Derived.Lib.Hide
import Derived.Test.YtnkpoddbbdmipaaGreatDoorRows
import Derived.Tactics
import Derived.Tactics2
import Derived.Defers
import Derived.Laws.Pointers
import Derived.Laws.LoneSync
import Derived.RegionTactic
import Derived.RegionCalls
import Derived.ChangeAlike
namespace Go.Proofs.YtnkpoddbbdmipaaGreatDoor
open Go Go.RowKit
open Go.Lib (hid)
set_option linter.unusedVariables false
set_option linter.unusedSimpArgs false
structure Only (S : Nat → Prop) (w w' : World) : Prop where
 os : w'.os = w.os
 tape : w'.tape = w.tape
 output : w'.output = w.output
 size : w.heap.size ≤ w'.heap.size
 block : ∀ k, k < w.heap.size → ¬ S k → w'.heap[k]? = w.heap[k]?
theorem Only.refl (S : Nat → Prop) (w : World) : Only S w w := ⟨rfl, rfl, rfl, Nat.le_refl _, fun _ _ _ => rfl⟩
theorem Only.trans {S : Nat → Prop} {a b c : World} (h : Only S a b) (k : Only S b c) : Only S a c :=
 ⟨k.os.trans h.os, k.tape.trans h.tape, k.output.trans h.output, Nat.le_trans h.size k.size,
  fun i hi hs => (k.block i (Nat.lt_of_lt_of_le hi h.size) hs).trans (h.block i hi hs)⟩
theorem Only.trans' {S T : Nat → Prop} {a b c : World} (h : Only S a b) (k : Only T b c) (hT : ∀ i, i < a.heap.size → T i → S i) : Only S a c :=
 ⟨k.os.trans h.os, k.tape.trans h.tape, k.output.trans h.output, Nat.le_trans h.size k.size,
  fun i hi hs => (k.block i (Nat.lt_of_lt_of_le hi h.size) (fun t => hs (hT i hi t))).trans (h.block i hi hs)⟩
theorem Only.mono {S T : Nat → Prop} {a b : World} (h : Only S a b) (hT : ∀ i, i < a.heap.size → S i → T i) : Only T a b :=
 ⟨h.os, h.tape, h.output, h.size, fun i hi hs => h.block i hi (fun t => hs (hT i hi t))⟩
theorem Only.drew {S : Nat → Prop} {a w : World} (h : Only S a w) : Only S a w.drew := ⟨h.os, h.tape, h.output, h.size, h.block⟩
theorem Only.drewN {S : Nat → Prop} {a w : World} (h : Only S a w) (n : Nat) : Only S a (w.drewN n) := ⟨h.os, h.tape, h.output, h.size, h.block⟩
theorem Only.alloc {S : Nat → Prop} {a w : World} (h : Only S a w) (o : Obj) : Only S a (w.alloc o) :=
 h.trans ⟨rfl, rfl, rfl, by simp, fun k hk _ => Below.heap_alloc _ _ _ hk⟩
theorem Only.setCell {S : Nat → Prop} {a w : World} (h : Only S a w) {p : Addr} (hp : S p.block ∨ a.heap.size ≤ p.block) (u : Value) : Only S a (w.setCell p u) :=
 h.trans' (T := fun k => k = p.block) ⟨rfl, rfl, rfl, by simp [World.setCell], fun k _ hk => Below.heap_setCell _ _ _ _ hk⟩ (by rintro i hi rfl; exact hp.resolve_right (by omega))
theorem Only.grown {S : Nat → Prop} {a w w' : World} {row : Option Nat} (h : Only S a w) (hg : w.grownBy w' row) (hr : ∀ k, row = some k → S k ∨ a.heap.size ≤ k) : Only S a w' :=
 h.trans' (T := fun k => some k = row) ⟨hg.os, hg.tape, hg.output, hg.size, fun k hk hs => hg.block k hk hs⟩ (fun i hi e => (hr i e.symm).resolve_right (by omega))
theorem heap_set {w : World} {b o : Nat} {c : Array Value} {e : TypeId} {fr : Nat × Nat} (h : w.heap[b]? = some (.cells c e fr)) (v : Value) :
  (w.setCell ⟨b, o, none⟩ v).heap[b]? = some (.cells (c.setIfInBounds o v) e fr) := by
 simp [World.setCell, Array.getElem?_modify, h]
theorem heap_set_ne {w : World} {k : Nat} {x : Option Obj} {a : Addr} (h : w.heap[k]? = x) (hk : k ≠ a.block) (v : Value) : (w.setCell a v).heap[k]? = x := by
 rw [Below.heap_setCell _ _ _ _ hk]; exact h
theorem heap_new (w : World) (o : Obj) : (w.alloc o).heap[w.heap.size]? = some o := by
 show (w.heap.push o)[w.heap.size]? = _
 simp
theorem heap_old {w : World} {k : Nat} {x : Obj} (h : w.heap[k]? = some x) (o : Obj) : (w.alloc o).heap[k]? = some x := by
 rw [Below.heap_alloc _ _ _ (Array.getElem?_eq_some_iff.1 h).1]; exact h
theorem ret_bool {a b : Bool} (h : a = b) : Ending.returned (.bool a) = .returned (.bool b) := by rw [h]
def IsRow (k : IntKind) (w : World) (a : Option Addr) (len cap : Nat) (zs : List Int) : Prop :=
 (a = none ∧ len = 0 ∧ cap = 0 ∧ zs = []) ∨
 ∃ x, a = some x ∧ len ≤ cap ∧ cap ≤ maxLen ∧ zs.length = cap ∧ (∀ i, i < zs.length → w.cell? (x.add i) = some (.int k (zs.getD i 0))) ∧ ∀ n ∈ zs, (Lit.int k n).wf = true
theorem cell_lt {w : World} {a : Addr} {v : Value} (h : w.cell? a = some v) : a.block < w.heap.size := by
 unfold World.cell? at h
 by_cases hb : a.block < w.heap.size
 ·exact hb
 ·rw [Array.getElem?_eq_none (by omega)] at h; cases h
theorem addr_add (b off k : Nat) : (⟨b, off, none⟩ : Addr).add k = ⟨b, off + k, none⟩ := by
 unfold Addr.add; split
 ·subst_vars; rfl
 ·rfl
theorem IsRow.cell {w : World} {a : Option Addr} {len cap : Nat} {zs : List Int} (h : IsRow .u8 w a len cap zs) {k : Nat} (hk : k < len) :
  ∃ b off z, a = some ⟨b, off, none⟩ ∧ b < w.heap.size ∧ w.cell? ⟨b, off + k, none⟩ = some (.int .u8 z) ∧ 0 ≤ z ∧ z ≤ 255 := by
 rcases h with ⟨_, rfl, _, _⟩ | ⟨⟨b, off, spot⟩, rfl, h1, h2, h3, h4, h5⟩
 ·omega
 ·have hs : spot = none := by simpa [Addr.add] using World.cell?_spot (h4 0 (by omega))
  subst hs; have hc := h4 k (by omega); rw [addr_add] at hc; have hm : zs.getD k 0 ∈ zs := by rw [List.getD_eq_getElem?_getD, List.getElem?_eq_getElem (by omega)]; exact List.getElem_mem _
  have hw := h5 _ hm; refine ⟨b, off, _, rfl, cell_lt hc, hc, ?_⟩
  simp [Lit.wf, IntKind.min, IntKind.max, IntKind.signed, IntKind.bits] at hw; simpa using hw
theorem on_disable (w : World) : (callFunc 126 #[]).run Tryz.prog w = .ok (.value (.tuple #[])) w := run_call_mark0 Tryz.func126 (by kernel_rfl) (by kernel_rfl) (by kernel_rfl) .disable (by kernel_rfl) w
theorem on_enable (w : World) : (callFunc 128 #[]).run Tryz.prog w = .ok (.value (.tuple #[])) w := run_call_mark0 Tryz.func128 (by kernel_rfl) (by kernel_rfl) (by kernel_rfl) .enable (by kernel_rfl) w
theorem on_acquire (a : Addr) (w : World) : (callFunc 129 #[.pointer (some a)]).run Tryz.prog w = .ok (.value (.tuple #[])) w := run_call_marked Tryz.func129 (by kernel_rfl) (by kernel_rfl) (by kernel_rfl) .acquire (by kernel_rfl) a w
theorem on_release (a : Addr) (w : World) : (callFunc 131 #[.pointer (some a)]).run Tryz.prog w = .ok (.value (.tuple #[])) w := run_call_marked Tryz.func131 (by kernel_rfl) (by kernel_rfl) (by kernel_rfl) .releaseMerge (by kernel_rfl) a w
theorem on_store (a : Addr) (x : Value) (u : FrameMode) (w : World) (hc : w.cell? a = some x) (hz : w.frozen? a = false) :
  CallsD Tryz.prog 115 #[.pointer (some a), .bool true] u w fun e u' w' => u' = u ∧ (e = .returned (.tuple #[]) ∧ w' = w.drew.setCell a (.int .u32 1)) := by
 have hc' : w.drew.cell? a = some x := by go_simp
 have hz' : w.drew.frozen? a = false := by go_simp
 have hst := run_call_store (P := Tryz.prog) Tryz.func122 (by kernel_rfl) (by kernel_rfl) (by kernel_rfl) (by kernel_rfl) (k := .u32) (y := 1) hc' hz'
 go_enter_d Tryz.func115, Tryz.ntmps115
 go_wp2
 go_region_calls
 all_goals (go_end0; exact ⟨rfl, rfl⟩)
set_option maxRecDepth 100000 in
theorem on_unlock (a : Addr) (u : FrameMode) (w : World) (hc : w.cell? a = some (.int .i32 1)) (hz : w.frozen? a = false) :
  CallsD Tryz.prog 114 #[.pointer (some a)] u w fun e u' w' => u' = u ∧ (e = .returned (.tuple #[]) ∧ w' = w.setCell a (.int .i32 0)) := by
 have hd := on_disable; have he := on_enable; have hr := on_release; have hadd := run_call_add (P := Tryz.prog) Tryz.func132 (by kernel_rfl) (by kernel_rfl) (by kernel_rfl) .i32 (by kernel_rfl) (y := -1) (s := 0) hc hz (by simp [go_sem]; rfl); have hcv := run_convert_to_unsafe (P := Tryz.prog) (src := 202) (dst := 160) Tryz.underlying202 Tryz.underlying160 (by kernel_rfl) hc
 go_enter_d Tryz.func114, Tryz.ntmps114
 go_wp2
 iterate 4 (all_goals (first | (exact ⟨rfl, rfl⟩) | go_end0 | go_wp2))
set_option maxRecDepth 100000 in
theorem on_lock (a : Addr) (w : World) (hc : w.cell? a = some (.int .i32 0)) (hz : w.frozen? a = false) :
  Calls Tryz.prog 113 #[.pointer (some a)] w fun e w' => e = .returned (.tuple #[]) ∧ w' = w.setCell a (.int .i32 1) := by
 have hd := on_disable; have he := on_enable; have ha := on_acquire; have hcas := run_call_cas_hit (P := Tryz.prog) Tryz.func127 (by kernel_rfl) (by kernel_rfl) (by kernel_rfl) .i32 (by kernel_rfl) (y := 1) hc hz; have hc' : (w.setCell a (.int .i32 1)).cell? a = some (.int .i32 1) := World.cell?_setCell_same w a _ hc; have hcv := run_convert_to_unsafe (P := Tryz.prog) (src := 202) (dst := 160) Tryz.underlying202 Tryz.underlying160 (by kernel_rfl) hc'
 go_enter Tryz.func113, Tryz.ntmps113
 go_wp2
 iterate 4 (all_goals (first | (exact ⟨rfl, rfl⟩) | go_end0 | (simp only [Exit.inBlock, Exit.then]; refine bodyPost_ret (results_none rfl _ _ _) rfl ?_) | (refine bodyPost_ret (results_none rfl _ _ _) rfl ?_) | go_wp2))
def OnceQ (b : Nat) (Q : Value → Value → World → Prop) (w w' : World) : Prop :=
 Only (fun k => k = b) w w' ∧ ∃ u3 u4 w1, w'.heap[b]? = some (.cells #[.int .u32 1, .int .i32 0, .int .u32 0, u3, u4] 142 (0, 0)) ∧ Q u3 u4 w1 ∧ Only (fun k => k = b) w1 w'
set_option maxRecDepth 100000 in
set_option maxHeartbeats 1600000 in
theorem slow_any (b : Nat) (v3 v4 : Value) (w : World) (hp : w.heap[b]? = some (.cells #[.int .u32 0, .int .i32 0, .int .u32 0, v3, v4] 142 (0, 0)))
  (Q : Value → Value → World → Prop)
  (hf : Calls Tryz.prog 83 #[.pointer (some ⟨b, 0, none⟩)] (w.setCell ⟨b, 1, none⟩ (.int .i32 1)) (fun e w' => e = .returned (.tuple #[]) ∧ Only (fun k => k = b) w w' ∧ ∃ u3 u4, w'.heap[b]? = some (.cells #[.int .u32 0, .int .i32 1, .int .u32 0, u3, u4] 142 (0, 0)) ∧ Q u3 u4 w')) :
  Calls Tryz.prog 103 #[.pointer (some ⟨b, 0, none⟩), .func (.func 83) #[.pointer (some ⟨b, 0, none⟩)] #[]] w fun e w' => e = .returned (.tuple #[]) ∧ OnceQ b Q w w' := by
 have h0 : w.cell? ⟨b, 0, none⟩ = some (.int .u32 0) := by simp [World.cell?, hp]
 have h1 : w.cell? ⟨b, 1, none⟩ = some (.int .i32 0) := by simp [World.cell?, hp]
 have f1 : w.frozen? ⟨b, 1, none⟩ = false := by simp [World.frozen?, hp]
 have h01 : (w.setCell ⟨b, 1, none⟩ (.int .i32 1)).cell? ⟨b, 0, none⟩ = some (.int .u32 0) := (World.cell?_setCell_other _ ⟨b, 1, none⟩ ⟨b, 0, none⟩ _ (by simp)).trans h0; have hl := run_call_load (P := Tryz.prog) Tryz.func112 (by kernel_rfl) (by kernel_rfl) (by kernel_rfl) .u32 (by kernel_rfl) (x := 0) h01; have hnot : ∀ (x : Bool) (w : World), (Op.unary .not (.bool x)).run Tryz.prog w = .ok (.bool (!x)) w := fun _ _ => rfl
 have HF := hid hf; clear hf hp
 go_enter_defers Tryz.func103, Tryz.ntmps103
 go_wp2_with (first | (go_at_call 113; refine (on_lock ⟨b, 1, none⟩ _ (by go_simp) (by go_simp)).mono ?_; rintro e w' ⟨rfl, rfl⟩) | (go_at_call 102; go_in))
 refine HF.out.mono ?_
 rintro e w1 ⟨rfl, o1, u3, u4, hb, hq⟩; have k0 : w1.cell? ⟨b, 0, none⟩ = some (.int .u32 0) := by simp [World.cell?, hb]
 have z0 : w1.frozen? ⟨b, 0, none⟩ = false := by simp [World.frozen?, hb]
 have hb2 := heap_set (o := 0) (w := w1.drew) hb (.int .u32 1); have hb2 : (w1.drew.setCell ⟨b, 0, none⟩ (.int .u32 1)).heap[b]? = some (.cells #[.int .u32 1, .int .i32 1, .int .u32 0, u3, u4] 142 (0, 0)) := by simpa using hb2
 have hb3 := heap_set (o := 1) hb2 (.int .i32 0); have hb3 : ((w1.drew.setCell ⟨b, 0, none⟩ (.int .u32 1)).setCell ⟨b, 1, none⟩ (.int .i32 0)).heap[b]? = some (.cells #[.int .u32 1, .int .i32 0, .int .u32 0, u3, u4] 142 (0, 0)) := by simpa using hb3
 have k1 : (w1.drew.setCell ⟨b, 0, none⟩ (.int .u32 1)).cell? ⟨b, 1, none⟩ = some (.int .i32 1) := by simp only [World.cell?, hb2]; rfl
 have z1 : (w1.drew.setCell ⟨b, 0, none⟩ (.int .u32 1)).frozen? ⟨b, 1, none⟩ = false := by simp only [World.frozen?, hb2]; rfl
 have oz : Only (fun k => k = b) w1 ((w1.drew.setCell ⟨b, 0, none⟩ (.int .u32 1)).setCell ⟨b, 1, none⟩ (.int .i32 0)) := ((Only.refl (fun k => k = b) w1).drew.setCell (p := ⟨b, 0, none⟩) (.inl rfl) _).setCell (p := ⟨b, 1, none⟩) (.inl rfl) _; have HEND := hid (show OnceQ b Q w ((w1.drew.setCell ⟨b, 0, none⟩ (.int .u32 1)).setCell ⟨b, 1, none⟩ (.int .i32 0)) from ⟨o1.trans oz, u3, u4, w1, hb3, hq, oz⟩); clear hb hb2 hb3 o1 oz hq
 go_wp2_with fail
 refine leaves_cons (f := 115) (args := #[.pointer (some ⟨b, 0, none⟩), .bool true]) (by simp) (by simp [go_sem]) ?_
 refine (on_store ⟨b, 0, none⟩ (.int .u32 0) .returning _ k0 z0).mono ?_
 rintro e u' w'' ⟨rfl, rfl, rfl⟩; refine leaves_cons (f := 114) (args := #[.pointer (some ⟨b, 1, none⟩)]) (by simp [settle]) (by simp [go_sem]) ?_
 refine (on_unlock ⟨b, 1, none⟩ _ _ k1 z1).mono ?_
 rintro e u' w'' ⟨rfl, rfl, rfl⟩; simp [Leaves, settle, results, Tryz.results103]; exact HEND.out
set_option maxRecDepth 100000 in
set_option maxHeartbeats 1600000 in
theorem do_any (b : Nat) (v3 v4 : Value) (w : World) (hp : w.heap[b]? = some (.cells #[.int .u32 0, .int .i32 0, .int .u32 0, v3, v4] 142 (0, 0)))
  (Q : Value → Value → World → Prop)
  (hf : Calls Tryz.prog 83 #[.pointer (some ⟨b, 0, none⟩)] (w.setCell ⟨b, 1, none⟩ (.int .i32 1)) (fun e w' => e = .returned (.tuple #[]) ∧ Only (fun k => k = b) w w' ∧ ∃ u3 u4, w'.heap[b]? = some (.cells #[.int .u32 0, .int .i32 1, .int .u32 0, u3, u4] 142 (0, 0)) ∧ Q u3 u4 w')) :
  Calls Tryz.prog 82 #[.pointer (some ⟨b, 0, none⟩), .func (.func 83) #[.pointer (some ⟨b, 0, none⟩)] #[]] w fun e w' => e = .returned (.tuple #[]) ∧ OnceQ b Q w w' := by
 have HS := hid (slow_any b v3 v4 w hp Q hf); have h0 : w.cell? ⟨b, 0, none⟩ = some (.int .u32 0) := by simp [World.cell?, hp]
 have hl := run_call_load (P := Tryz.prog) Tryz.func112 (by kernel_rfl) (by kernel_rfl) (by kernel_rfl) .u32 (by kernel_rfl) h0; have hnot : ∀ (x : Bool) (w : World), (Op.unary .not (.bool x)).run Tryz.prog w = .ok (.bool (!x)) w := fun _ _ => rfl
 clear hf hp
 go_enter Tryz.func82, Tryz.ntmps82
 go_wp2_with (go_at_call 102; go_in)
 refine HS.out.mono ?_
 rintro e w1 ⟨rfl, hq⟩; have HQ := hid hq; clear hq
 go_wp2_with fail
 first
  | exact ⟨rfl, HQ.out⟩
  | (go_end0; exact ⟨rfl, HQ.out⟩)
  | (go_ret; exact ⟨rfl, HQ.out⟩)
end Go.Proofs.YtnkpoddbbdmipaaGreatDoor
