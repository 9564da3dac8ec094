/- Texts of this proof, one behind the other: Once. -/
import Derived.Test.YtmabpnkdagipfaaGreatProg
import Derived.Tactics
import Derived.Tactics2
import Derived.Defers
import Derived.Laws.Pointers
import Derived.Laws.LoneSync
import Derived.RegionTactic
import Derived.RegionCalls
import Derived.ChangeAlike
import Derived.WalkKit
import Derived.Test.YtmabpnkdagipfaaGreatJ2

/- sync.Once on one goroutine: its parts, each a contract. -/
namespace Go.Proofs.YtmabpnkdagipfaaGreat
open Go.RowKit

theorem once_disable (w : World) : (callFunc 118 #[]).run Tryz.prog w = .ok (.value (.tuple #[])) w := run_call_mark0 Tryz.func118 (by kernel_rfl) (by kernel_rfl) (by kernel_rfl) .disable (by kernel_rfl) w
theorem once_enable (w : World) : (callFunc 120 #[]).run Tryz.prog w = .ok (.value (.tuple #[])) w := run_call_mark0 Tryz.func120 (by kernel_rfl) (by kernel_rfl) (by kernel_rfl) .enable (by kernel_rfl) w
theorem once_acquire (a : Addr) (w : World) : (callFunc 121 #[.pointer (some a)]).run Tryz.prog w = .ok (.value (.tuple #[])) w := run_call_marked Tryz.func121 (by kernel_rfl) (by kernel_rfl) (by kernel_rfl) .acquire (by kernel_rfl) a w
theorem once_releaseMerge (a : Addr) (w : World) : (callFunc 123 #[.pointer (some a)]).run Tryz.prog w = .ok (.value (.tuple #[])) w := run_call_marked Tryz.func123 (by kernel_rfl) (by kernel_rfl) (by kernel_rfl) .releaseMerge (by kernel_rfl) a w

/-- '(*sync/atomic.Bool).Store(true)', entered as a deferred call: the cell holds 1. -/
theorem once_store (a : Addr) (x : Value) (u : FrameMode) (w : World) (hc : w.cell? a = some x) (hz : w.frozen? a = false) :
    CallsD Tryz.prog 113 #[.pointer (some a), .bool true] u w fun e u' w' => u' = u ∧ (e = .returned (.tuple #[]) ∧ w' = w.drew.setCell a (.int .u32 1)) := by
  have hc' : w.drew.cell? a = some x := by go_simp
  have hz' : w.drew.frozen? a = false := by go_simp
  have hst := run_call_store (P := Tryz.prog) Tryz.func116 (by kernel_rfl) (by kernel_rfl) (by kernel_rfl) (by kernel_rfl) (k := .u32) (y := 1) hc' hz'
  go_enter_d Tryz.func113, Tryz.ntmps113
  go_wp2
  go_region_calls
  all_goals (go_end0; exact ⟨rfl, rfl⟩)

set_option maxRecDepth 100000 in
theorem once_unlock_in (a : Addr) (w : World) (hc : w.cell? a = some (.int .i32 1)) (hz : w.frozen? a = false) :
    Calls Tryz.prog 115 #[.pointer (some a)] w fun e w' => e = .returned (.tuple #[]) ∧ w' = w.setCell a (.int .i32 0) := by
  have hd := once_disable
  have he := once_enable
  have hr := once_releaseMerge
  have hadd := run_call_add (P := Tryz.prog) Tryz.func124 (by kernel_rfl) (by kernel_rfl) (by kernel_rfl) .i32 (by kernel_rfl) (y := -1) (s := 0) hc hz (by simp [go_sem]; rfl)
  have hcv := run_convert_to_unsafe (P := Tryz.prog) (src := 141) (dst := 129) Tryz.underlying141 Tryz.underlying129 (by kernel_rfl) hc
  go_enter Tryz.func115, Tryz.ntmps115
  go_wp2
  all_goals (go_end0; try exact ⟨rfl, rfl⟩)

set_option maxRecDepth 100000 in
theorem once_lock_in (a : Addr) (w : World) (hc : w.cell? a = some (.int .i32 0)) (hz : w.frozen? a = false) :
    Calls Tryz.prog 114 #[.pointer (some a)] w fun e w' => e = .returned (.tuple #[]) ∧ w' = w.setCell a (.int .i32 1) := by
  have hd := once_disable
  have he := once_enable
  have ha := once_acquire
  have hcas := run_call_cas_hit (P := Tryz.prog) Tryz.func119 (by kernel_rfl) (by kernel_rfl) (by kernel_rfl) .i32 (by kernel_rfl) (y := 1) hc hz
  have hc' : (w.setCell a (.int .i32 1)).cell? a = some (.int .i32 1) := World.cell?_setCell_same w a _ hc
  have hcv := run_convert_to_unsafe (P := Tryz.prog) (src := 141) (dst := 129) Tryz.underlying141 Tryz.underlying129 (by kernel_rfl) hc'
  go_enter Tryz.func114, Tryz.ntmps114
  go_wp2
  refine bodyPost_ret (results_none rfl _ _ _) rfl ?_
  exact ⟨rfl, rfl⟩

theorem once_lock (a : Addr) (w : World) (hc : w.cell? a = some (.int .i32 0)) (hz : w.frozen? a = false) :
    Calls Tryz.prog 111 #[.pointer (some a)] w fun e w' => e = .returned (.tuple #[]) ∧ w' = w.setCell a (.int .i32 1) := by
  go_enter Tryz.func111, Tryz.ntmps111
  go_wp2_with (go_at_call 114; refine (once_lock_in a _ hc hz).mono ?_; rintro e w' ⟨rfl, rfl⟩)
  all_goals (go_end0; try exact ⟨rfl, rfl⟩)

theorem once_unlock (a : Addr) (u : FrameMode) (w : World) (hc : w.cell? a = some (.int .i32 1)) (hz : w.frozen? a = false) :
    CallsD Tryz.prog 112 #[.pointer (some a)] u w fun e u' w' => u' = u ∧ (e = .returned (.tuple #[]) ∧ w' = w.setCell a (.int .i32 0)) := by
  go_enter_d Tryz.func112, Tryz.ntmps112
  go_wp2_with (go_at_call 115; refine (once_unlock_in a _ hc hz).mono ?_; rintro e w' ⟨rfl, rfl⟩)
  all_goals (go_end0; try exact ⟨rfl, rfl⟩)

theorem once_load (a : Addr) (d : Int) (b : Bool) (w : World) (hc : w.cell? a = some (.int .u32 d)) (hb : (d != 0) = b) :
    Calls Tryz.prog 108 #[.pointer (some a)] w fun e w' => e = .returned (.bool b) ∧ w' = w := by
  have hl := run_call_load (P := Tryz.prog) Tryz.func110 (by kernel_rfl) (by kernel_rfl) (by kernel_rfl) .u32 (by kernel_rfl) hc
  go_enter Tryz.func108, Tryz.ntmps108
  go_wp2
  subst hb
  go_ret
  exact ⟨by simp, rfl⟩

end Go.Proofs.YtmabpnkdagipfaaGreat
