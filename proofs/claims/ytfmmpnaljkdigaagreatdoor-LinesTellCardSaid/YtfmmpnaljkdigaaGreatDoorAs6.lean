/-
  The number of an api.Fault. By an AI agent.
-/
import Derived.Test.YtfmmpnaljkdigaaGreatDoorAs5
set_option linter.unusedSimpArgs false
set_option maxRecDepth 100000
set_option linter.unusedVariables false
namespace Go.Vc
open Go Go.RowKit Go.Extern.Stop Go.Stop Go.Extern Go.Proofs
theorem grow6 (w : World) (o1 o2 o3 o4 o5 o6 : Obj) : Grow w ((((((w.alloc o1).alloc o2).alloc o3).alloc o4).alloc o5).alloc o6) := grow_alloc (grow5 w o1 o2 o3 o4 o5) o6
set_option maxHeartbeats 4000000 in
theorem Code_fault (at_ n : Int) (w : World) (hg : w.cell? ⟨0, 0, none⟩ = some (.iface 103 (.agg #[.pointer (some ⟨9, 28, none⟩)]))) :
    Calls Tryz.prog 11 #[.iface 30 (.agg #[.int .i64 at_, .iface 26 (.int .i64 n)])] w fun ev w' => ev = .returned (.int .i64 n) ∧ Grow w w' := by
  have hlt : 0 < w.heap.size := by
    rcases Nat.eq_zero_or_pos w.heap.size with h0 | h
    · simp [World.cell?, h0] at hg
    · exact h
  have hgA : (w.alloc (.cells #[.int .i64 0] 26)).cell? ⟨0, 0, none⟩ = some (.iface 103 (.agg #[.pointer (some ⟨9, 28, none⟩)])) := by
    rw [World.cell?_alloc_lt _ _ ⟨0, 0, none⟩ hlt]; exact hg
  have htA : (w.alloc (.cells #[.int .i64 0] 26)).cell? ⟨w.heap.size, 0, none⟩ = some (.int .i64 0) := by simp
  have hfA : (w.alloc (.cells #[.int .i64 0] 26)).frozen? ⟨w.heap.size, 0, none⟩ = false := by simp
  go_enter Tryz.func11, Tryz.ntmps11
  go_wp2_with (first | (go_at_call 22; refine (as_fault at_ n _ (.int .i64 0) _ hgA htA hfA).mono ?_; rintro e w' ⟨rfl, rfl⟩))
  go_ret
  refine ⟨by simp, grow6 _ _ _ _ _ _ _⟩
/-- errors.errorType, which the start lays -/
def ErrT (w : World) : Prop := w.cell? ⟨0, 0, none⟩ = some (.iface 103 (.agg #[.pointer (some ⟨9, 28, none⟩)]))
theorem Code_errno_spec {n : Int} {w : World} {K : Value → World → Prop} (h : ErrT w) (h0 : -9223372036854775808 ≤ n) (h1 : n ≤ 9223372036854775807) (hK : ∀ w', Grow w w' → K (.int .i64 n) w') : CallV PR F.api_Code #[.iface T.api_Errno (.int .i64 n)] w K :=
  callV_of (Code_errno n h0 h1 w h) fun e w' ⟨he, g⟩ => ⟨_, he, hK _ g⟩
theorem Code_fault_spec {a n : Int} {w : World} {K : Value → World → Prop} (h : ErrT w) (hK : ∀ w', Grow w w' → K (.int .i64 n) w') : CallV PR F.api_Code #[.iface T.api_Fault (.agg #[.int .i64 a, .iface T.api_Errno (.int .i64 n)])] w K :=
  callV_of (Code_fault a n w h) fun e w' ⟨he, g⟩ => ⟨_, he, hK _ g⟩
end Go.Vc
