/-
  An api.Fault has Unwrap and no As. By an AI agent.
-/
import Derived.Test.YtfmmpnaljkdigaaGreatDoorAs3
set_option linter.unusedSimpArgs false
set_option maxRecDepth 100000
set_option linter.unusedVariables false
namespace Go.Vc
open Go Go.RowKit Go.Extern.Stop Go.Stop Go.Extern Go.Proofs
theorem under108 : (Tryz.prog.underlying 108).map (fun t => match t with | .interface ms => ms.toList.map (·.1) | _ => []) = some ["As"] := by kernel_rfl
theorem under111 : (Tryz.prog.underlying 111).map (fun t => match t with | .interface ms => ms.toList.map (·.1) | _ => []) = some ["Unwrap"] := by kernel_rfl
theorem iface_of {P : Program} {t : TypeId} {l : List String} (h : (P.underlying t).map (fun t => match t with | .interface ms => ms.toList.map (·.1) | _ => []) = some l) (hne : l ≠ []) : ∃ ms, P.underlying t = some (.interface ms) := by
  cases hu : P.underlying t with
  | none => rw [hu] at h; cases h
  | some u =>
    rw [hu] at h
    cases u with
    | interface ms => exact ⟨ms, rfl⟩
    | _ => exact absurd (Option.some.inj h).symm hne
theorem noAs (v : Value) (xT : TypeId) (w : World) : (Instr.typeAssert (.iface 30 v) xT 108 true).run Tryz.prog w = .ok (.tuple #[.nilIface, .bool false]) w := by
  obtain ⟨ms, hu⟩ := iface_of under108 (by simp)
  exact run_typeAssert_lacksB hu (by
    have : (Tryz.prog.info? 30).map (fun i => match Tryz.prog.underlying 108 with | some (.interface want) => (lacking want i.methods).isEmpty | _ => true) = some false := by kernel_rfl
    rw [hu] at this; exact this) (by kernel_rfl) v xT w
theorem hasUnwrap (v : Value) (xT : TypeId) (w : World) : (Instr.typeAssert (.iface 30 v) xT 111 true).run Tryz.prog w = .ok (.tuple #[.iface 30 v, .bool true]) w := by
  obtain ⟨ms, hu⟩ := iface_of under111 (by simp)
  exact run_typeAssert_hasB hu (by
    have : (Tryz.prog.info? 30).map (fun i => match Tryz.prog.underlying 111 with | some (.interface want) => (lacking want i.methods).isEmpty | _ => true) = some true := by kernel_rfl
    rw [hu] at this; exact this) v xT w
theorem methodUnwrap (x y : Value) (w : World) : (Go.method 288 30 (.agg #[x, y]) "Unwrap").run Tryz.prog w = .ok (113, .agg #[x, y]) w := by kernel_rfl
end Go.Vc
