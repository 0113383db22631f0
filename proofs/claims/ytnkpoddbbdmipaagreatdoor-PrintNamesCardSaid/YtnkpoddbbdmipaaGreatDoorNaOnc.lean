/- sync.Once in one goroutine: Do, not yet done and its lock free, of a strings.Replacer's buildOnce. -/
import Derived.Test.YtnkpoddbbdmipaaGreatDoorRows
import Derived.Test.YtnkpoddbbdmipaaGreatDoorNaReads
import Derived.Tactics
import Derived.Tactics2
import Derived.Defers
import Derived.Laws.Pointers
import Derived.Laws.LoneSync
import Derived.RegionTactic
import Derived.RegionCalls
import Derived.ChangeAlike
namespace Go.Proofs.YtnkpoddbbdmipaaGreatDoor
open Go Go.RowKit
set_option linter.unusedVariables false
set_option linter.unusedSimpArgs false

theorem on_disable (w : World) : (callFunc 126 #[]).run Tryz.prog w = .ok (.value (.tuple #[])) w := run_call_mark0 Tryz.func126 (by kernel_rfl) (by kernel_rfl) (by kernel_rfl) .disable (by kernel_rfl) w
theorem on_enable (w : World) : (callFunc 128 #[]).run Tryz.prog w = .ok (.value (.tuple #[])) w := run_call_mark0 Tryz.func128 (by kernel_rfl) (by kernel_rfl) (by kernel_rfl) .enable (by kernel_rfl) w
theorem on_acquire (a : Addr) (w : World) : (callFunc 129 #[.pointer (some a)]).run Tryz.prog w = .ok (.value (.tuple #[])) w := run_call_marked Tryz.func129 (by kernel_rfl) (by kernel_rfl) (by kernel_rfl) .acquire (by kernel_rfl) a w
theorem on_release (a : Addr) (w : World) : (callFunc 131 #[.pointer (some a)]).run Tryz.prog w = .ok (.value (.tuple #[])) w := run_call_marked Tryz.func131 (by kernel_rfl) (by kernel_rfl) (by kernel_rfl) .releaseMerge (by kernel_rfl) a w
theorem on_store (a : Addr) (x : Value) (u : FrameMode) (w : World) (hc : w.cell? a = some x) (hz : w.frozen? a = false) :
    CallsD Tryz.prog 115 #[.pointer (some a), .bool true] u w fun e u' w' => u' = u ∧ (e = .returned (.tuple #[]) ∧ w' = w.drew.setCell a (.int .u32 1)) := by
  have hc' : w.drew.cell? a = some x := by go_simp
  have hz' : w.drew.frozen? a = false := by go_simp
  have hst := run_call_store (P := Tryz.prog) Tryz.func122 (by kernel_rfl) (by kernel_rfl) (by kernel_rfl) (by kernel_rfl) (k := .u32) (y := 1) hc' hz'
  go_enter_d Tryz.func115, Tryz.ntmps115
  go_wp2
  go_region_calls
  all_goals (go_end0; exact ⟨rfl, rfl⟩)
set_option maxRecDepth 100000 in
theorem on_unlock (a : Addr) (u : FrameMode) (w : World) (hc : w.cell? a = some (.int .i32 1)) (hz : w.frozen? a = false) :
    CallsD Tryz.prog 114 #[.pointer (some a)] u w fun e u' w' => u' = u ∧ (e = .returned (.tuple #[]) ∧ w' = w.setCell a (.int .i32 0)) := by
  have hd := on_disable
  have he := on_enable
  have hr := on_release
  have hadd := run_call_add (P := Tryz.prog) Tryz.func132 (by kernel_rfl) (by kernel_rfl) (by kernel_rfl) .i32 (by kernel_rfl) (y := -1) (s := 0) hc hz (by simp [go_sem]; rfl)
  have hcv := run_convert_to_unsafe (P := Tryz.prog) (src := 202) (dst := 160) Tryz.underlying202 Tryz.underlying160 (by kernel_rfl) hc
  go_enter_d Tryz.func114, Tryz.ntmps114
  go_wp2
  iterate 4 (all_goals (first | (exact ⟨rfl, rfl⟩) | go_end0 | go_wp2))
set_option maxRecDepth 100000 in
theorem on_lock (a : Addr) (w : World) (hc : w.cell? a = some (.int .i32 0)) (hz : w.frozen? a = false) :
    Calls Tryz.prog 113 #[.pointer (some a)] w fun e w' => e = .returned (.tuple #[]) ∧ w' = w.setCell a (.int .i32 1) := by
  have hd := on_disable
  have he := on_enable
  have ha := on_acquire
  have hcas := run_call_cas_hit (P := Tryz.prog) Tryz.func127 (by kernel_rfl) (by kernel_rfl) (by kernel_rfl) .i32 (by kernel_rfl) (y := 1) hc hz
  have hc' : (w.setCell a (.int .i32 1)).cell? a = some (.int .i32 1) := World.cell?_setCell_same w a _ hc
  have hcv := run_convert_to_unsafe (P := Tryz.prog) (src := 202) (dst := 160) Tryz.underlying202 Tryz.underlying160 (by kernel_rfl) hc'
  go_enter Tryz.func113, Tryz.ntmps113
  go_wp2
  iterate 4 (all_goals (first | (exact ⟨rfl, rfl⟩) | go_end0 | (simp only [Exit.inBlock, Exit.then]; refine bodyPost_ret (results_none rfl _ _ _) rfl ?_) | (refine bodyPost_ret (results_none rfl _ _ _) rfl ?_) | go_wp2))
/-- What is known behind a call of the Once: the function was called (Q held behind it), the Once is done and its lock is free. -/
def OnceQ (b : Nat) (Q : Value → Value → World → Prop) (w w' : World) : Prop :=
  Only (fun k => k = b) w w' ∧ ∃ u3 u4 w1, w'.heap[b]? = some (.cells #[.int .u32 1, .int .i32 0, .int .u32 0, u3, u4] 142 (0, 0)) ∧ Q u3 u4 w1 ∧ Only (fun k => k = b) w1 w'
set_option maxRecDepth 100000 in
set_option maxHeartbeats 1600000 in
theorem slow_any (b : Nat) (v3 v4 : Value) (w : World) (hp : w.heap[b]? = some (.cells #[.int .u32 0, .int .i32 0, .int .u32 0, v3, v4] 142 (0, 0)))
    (Q : Value → Value → World → Prop)
    (hf : Calls Tryz.prog 83 #[.pointer (some ⟨b, 0, none⟩)] (w.setCell ⟨b, 1, none⟩ (.int .i32 1)) (fun e w' => e = .returned (.tuple #[]) ∧ Only (fun k => k = b) w w' ∧ ∃ u3 u4, w'.heap[b]? = some (.cells #[.int .u32 0, .int .i32 1, .int .u32 0, u3, u4] 142 (0, 0)) ∧ Q u3 u4 w')) :
    Calls Tryz.prog 103 #[.pointer (some ⟨b, 0, none⟩), .func (.func 83) #[.pointer (some ⟨b, 0, none⟩)] #[]] w fun e w' => e = .returned (.tuple #[]) ∧ OnceQ b Q w w' := by
  have h0 : w.cell? ⟨b, 0, none⟩ = some (.int .u32 0) := by simp [World.cell?, hp]
  have h1 : w.cell? ⟨b, 1, none⟩ = some (.int .i32 0) := by simp [World.cell?, hp]
  have f1 : w.frozen? ⟨b, 1, none⟩ = false := by simp [World.frozen?, hp]
  have h01 : (w.setCell ⟨b, 1, none⟩ (.int .i32 1)).cell? ⟨b, 0, none⟩ = some (.int .u32 0) := (World.cell?_setCell_other _ ⟨b, 1, none⟩ ⟨b, 0, none⟩ _ (by simp)).trans h0
  have hl := run_call_load (P := Tryz.prog) Tryz.func112 (by kernel_rfl) (by kernel_rfl) (by kernel_rfl) .u32 (by kernel_rfl) (x := 0) h01
  have hnot : ∀ (x : Bool) (w : World), (Op.unary .not (.bool x)).run Tryz.prog w = .ok (.bool (!x)) w := fun _ _ => rfl
  have HF := Lib.hid hf
  clear hf hp
  go_enter_defers Tryz.func103, Tryz.ntmps103
  go_wp2_with (first | (go_at_call 113; refine (on_lock ⟨b, 1, none⟩ _ (by go_simp) (by go_simp)).mono ?_; rintro e w' ⟨rfl, rfl⟩) | (go_at_call 102; go_in))
  refine HF.out.mono ?_
  rintro e w1 ⟨rfl, o1, u3, u4, hb, hq⟩
  have k0 : w1.cell? ⟨b, 0, none⟩ = some (.int .u32 0) := by simp [World.cell?, hb]
  have z0 : w1.frozen? ⟨b, 0, none⟩ = false := by simp [World.frozen?, hb]
  have hb2 := heap_set (o := 0) (w := w1.drew) hb (.int .u32 1)
  have hb2 : (w1.drew.setCell ⟨b, 0, none⟩ (.int .u32 1)).heap[b]? = some (.cells #[.int .u32 1, .int .i32 1, .int .u32 0, u3, u4] 142 (0, 0)) := by simpa using hb2
  have hb3 := heap_set (o := 1) hb2 (.int .i32 0)
  have hb3 : ((w1.drew.setCell ⟨b, 0, none⟩ (.int .u32 1)).setCell ⟨b, 1, none⟩ (.int .i32 0)).heap[b]? = some (.cells #[.int .u32 1, .int .i32 0, .int .u32 0, u3, u4] 142 (0, 0)) := by simpa using hb3
  have k1 : (w1.drew.setCell ⟨b, 0, none⟩ (.int .u32 1)).cell? ⟨b, 1, none⟩ = some (.int .i32 1) := by simp only [World.cell?, hb2]; rfl
  have z1 : (w1.drew.setCell ⟨b, 0, none⟩ (.int .u32 1)).frozen? ⟨b, 1, none⟩ = false := by simp only [World.frozen?, hb2]; rfl
  have oz : Only (fun k => k = b) w1 ((w1.drew.setCell ⟨b, 0, none⟩ (.int .u32 1)).setCell ⟨b, 1, none⟩ (.int .i32 0)) := ((Only.refl (fun k => k = b) w1).drew.setCell (p := ⟨b, 0, none⟩) (.inl rfl) _).setCell (p := ⟨b, 1, none⟩) (.inl rfl) _
  have HEND := Lib.hid (show OnceQ b Q w ((w1.drew.setCell ⟨b, 0, none⟩ (.int .u32 1)).setCell ⟨b, 1, none⟩ (.int .i32 0)) from ⟨o1.trans oz, u3, u4, w1, hb3, hq, oz⟩)
  clear hb hb2 hb3 o1 oz hq
  go_wp2_with fail
  refine leaves_cons (f := 115) (args := #[.pointer (some ⟨b, 0, none⟩), .bool true]) (by simp) (by simp [go_sem]) ?_
  refine (on_store ⟨b, 0, none⟩ (.int .u32 0) .returning _ k0 z0).mono ?_
  rintro e u' w'' ⟨rfl, rfl, rfl⟩
  refine leaves_cons (f := 114) (args := #[.pointer (some ⟨b, 1, none⟩)]) (by simp [settle]) (by simp [go_sem]) ?_
  refine (on_unlock ⟨b, 1, none⟩ _ _ k1 z1).mono ?_
  rintro e u' w'' ⟨rfl, rfl, rfl⟩
  simp [Leaves, settle, results, Tryz.results103]
  exact HEND.out
set_option maxRecDepth 100000 in
set_option maxHeartbeats 1600000 in
theorem do_any (b : Nat) (v3 v4 : Value) (w : World) (hp : w.heap[b]? = some (.cells #[.int .u32 0, .int .i32 0, .int .u32 0, v3, v4] 142 (0, 0)))
    (Q : Value → Value → World → Prop)
    (hf : Calls Tryz.prog 83 #[.pointer (some ⟨b, 0, none⟩)] (w.setCell ⟨b, 1, none⟩ (.int .i32 1)) (fun e w' => e = .returned (.tuple #[]) ∧ Only (fun k => k = b) w w' ∧ ∃ u3 u4, w'.heap[b]? = some (.cells #[.int .u32 0, .int .i32 1, .int .u32 0, u3, u4] 142 (0, 0)) ∧ Q u3 u4 w')) :
    Calls Tryz.prog 82 #[.pointer (some ⟨b, 0, none⟩), .func (.func 83) #[.pointer (some ⟨b, 0, none⟩)] #[]] w fun e w' => e = .returned (.tuple #[]) ∧ OnceQ b Q w w' := by
  have HS := Lib.hid (slow_any b v3 v4 w hp Q hf)
  have h0 : w.cell? ⟨b, 0, none⟩ = some (.int .u32 0) := by simp [World.cell?, hp]
  have hl := run_call_load (P := Tryz.prog) Tryz.func112 (by kernel_rfl) (by kernel_rfl) (by kernel_rfl) .u32 (by kernel_rfl) h0
  have hnot : ∀ (x : Bool) (w : World), (Op.unary .not (.bool x)).run Tryz.prog w = .ok (.bool (!x)) w := fun _ _ => rfl
  clear hf hp
  go_enter Tryz.func82, Tryz.ntmps82
  go_wp2_with (go_at_call 102; go_in)
  refine HS.out.mono ?_
  rintro e w1 ⟨rfl, hq⟩
  have HQ := Lib.hid hq; clear hq
  go_wp2_with fail
  first
    | exact ⟨rfl, HQ.out⟩
    | (go_end0; exact ⟨rfl, HQ.out⟩)
    | (go_ret; exact ⟨rfl, HQ.out⟩)
end Go.Proofs.YtnkpoddbbdmipaaGreatDoor
