/-
  The number of an api.Errno. By an AI agent.
-/
import Derived.Test.YtfmmpnaljkdigaaGreatDoorAs2
set_option linter.unusedSimpArgs false
set_option maxRecDepth 100000
set_option linter.unusedVariables false
namespace Go.Vc
open Go Go.RowKit Go.Extern.Stop Go.Stop Go.Extern Go.Proofs
theorem grow_alloc {w w1 : World} (g : Grow w w1) (o : Obj) : Grow w (w1.alloc o) := grow_below (Below.alloc ⟨g.os, g.tape, g.output, g.size, fun k hk => g.block k hk (fun e => e)⟩ g.size o)
theorem grow5 (w : World) (o1 o2 o3 o4 o5 : Obj) : Grow w (((((w.alloc o1).alloc o2).alloc o3).alloc o4).alloc o5) :=
  grow_alloc (grow_alloc (grow_alloc (grow_alloc (grow_alloc (.refl _ w) o1) o2) o3) o4) o5
set_option maxHeartbeats 4000000 in
theorem Code_errno (n : Int) (h0 : -9223372036854775808 ≤ n) (h1 : n ≤ 9223372036854775807) (w : World) (hg : w.cell? ⟨0, 0, none⟩ = some (.iface 103 (.agg #[.pointer (some ⟨9, 28, none⟩)]))) :
    Calls Tryz.prog 11 #[.iface 26 (.int .i64 n)] w fun ev w' => ev = .returned (.int .i64 n) ∧ Grow w w' := by
  have hlt : 0 < w.heap.size := by
    rcases Nat.eq_zero_or_pos w.heap.size with h0 | h
    · simp [World.cell?, h0] at hg
    · exact h
  have hgA : (w.alloc (.cells #[.int .i64 0] 26)).cell? ⟨0, 0, none⟩ = some (.iface 103 (.agg #[.pointer (some ⟨9, 28, none⟩)])) := by
    rw [World.cell?_alloc_lt _ _ ⟨0, 0, none⟩ hlt]; exact hg
  have htA : (w.alloc (.cells #[.int .i64 0] 26)).cell? ⟨w.heap.size, 0, none⟩ = some (.int .i64 0) := by simp
  have hfA : (w.alloc (.cells #[.int .i64 0] 26)).frozen? ⟨w.heap.size, 0, none⟩ = false := by simp
  have hw : IntKind.wrap .i64 n = n := wrap_id h0 h1
  go_enter Tryz.func11, Tryz.ntmps11
  go_wp2_with (first | (go_at_call 22; refine (as_hit n _ (.int .i64 0) _ hgA htA hfA).mono ?_; rintro e w' ⟨rfl, rfl⟩))
  go_ret
  refine ⟨by simp, grow5 _ _ _ _ _ _⟩
end Go.Vc
