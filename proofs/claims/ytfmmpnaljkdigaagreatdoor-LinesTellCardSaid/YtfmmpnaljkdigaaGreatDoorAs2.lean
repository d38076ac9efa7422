/-
  errors.As of an api.Errno: it is set. By an AI agent.
-/
import Derived.Test.YtfmmpnaljkdigaaGreatDoorAs1
set_option linter.unusedSimpArgs false
set_option maxRecDepth 100000
set_option linter.unusedVariables false
namespace Go.Vc
open Go Go.RowKit Go.Extern.Stop Go.Stop Go.Extern Go.Proofs
set_option maxHeartbeats 4000000 in
theorem as_hit (n : Int) (t : Addr) (old : Value) (w : World) (hg : w.cell? ⟨0, 0, none⟩ = some (.iface 103 (.agg #[.pointer (some ⟨9, 28, none⟩)]))) (ht0 : w.cell? t = some old) (hf0 : w.frozen? t = false) :
    Calls Tryz.prog 22 #[.iface 26 (.int .i64 n), .iface 56 (.pointer (some t))] w fun ev w' => ev = .returned (.bool true) ∧ w' = ((((w.alloc (.cells #[.pointer (some t)] 56)).alloc (.cells #[.pointer (some ⟨9, 56, none⟩), .pointer (some ⟨w.heap.size, 0, none⟩), .int .u64 150] 77)).alloc (.cells #[.pointer (some ⟨9, 56, none⟩), .pointer (some ⟨w.heap.size, 0, none⟩), .int .u64 150] 77)).alloc (.cells #[.int .i64 n] 26)).setCell t (.int .i64 n) := by
  have h6 := @run_callFunc_extern Tryz.prog 33 _ (fun args => ReflectliteValue.unpack (args.getD 0 (.tuple #[]))) Tryz.func33 (by kernel_rfl) (by kernel_rfl) (by kernel_rfl) (by kernel_rfl)
  have h7 := @run_callFunc_extern Tryz.prog 34 _ (ReflectliteValue.methodAny (ReflectliteValue.valueError "reflectlite.Value.Type" 0) (fun t _ _ _ => ReflectliteType.toType t)) Tryz.func34 (by kernel_rfl) (by kernel_rfl) (by kernel_rfl) (by kernel_rfl)
  have h8 := @run_callFunc_extern Tryz.prog 35 _ (ReflectliteValue.method (ReflectliteValue.valueError "reflectlite.Value.IsNil" 0) ReflectliteValue.isNil) Tryz.func35 (by kernel_rfl) (by kernel_rfl) (by kernel_rfl) (by kernel_rfl)
  have h27 := @run_callFunc_extern Tryz.prog 108 _ (ReflectliteType.abiMethod fun t => do pure (.int .u8 (← Rtype.kind t))) Tryz.func108 (by kernel_rfl) (by kernel_rfl) (by kernel_rfl) (by kernel_rfl)
  have h37 := @run_callFunc_extern Tryz.prog 121 _ (ReflectliteType.method ReflectliteType.elem) Tryz.func121 (by kernel_rfl) (by kernel_rfl) (by kernel_rfl) (by kernel_rfl)
  have h38 := @run_callFunc_extern Tryz.prog 122 _ (ReflectliteType.relation "Implements" ReflectliteType.implements_) Tryz.func122 (by kernel_rfl) (by kernel_rfl) (by kernel_rfl) (by kernel_rfl)
  have h10 := @run_callFunc_extern Tryz.prog 54 _ ReflectliteType.typeOf Tryz.func54 (by kernel_rfl) (by kernel_rfl) (by kernel_rfl) (by kernel_rfl)
  have h35 := @run_callFunc_extern Tryz.prog 119 _ (ReflectliteType.relation "AssignableTo" ReflectliteType.assignableTo) Tryz.func119 (by kernel_rfl) (by kernel_rfl) (by kernel_rfl) (by kernel_rfl)
  have h11 := @run_callFunc_extern Tryz.prog 55 _ (ReflectliteValue.method (ReflectliteValue.valueError "reflectlite.Value.Elem" 0) ReflectliteValue.elem) Tryz.func55 (by kernel_rfl) (by kernel_rfl) (by kernel_rfl) (by kernel_rfl)
  have h12 := @run_callFunc_extern Tryz.prog 56 _ ReflectliteValue.set Tryz.func56 (by kernel_rfl) (by kernel_rfl) (by kernel_rfl) (by kernel_rfl)
  have tO := typeOfE
  have mA := methodAssignableTo
  have a25 := assignableE
  have v25 := valueOfE
  have f6 := valueOfP
  have f7 := typeP
  have mK := methodKind
  have mE := methodElem
  have mI := methodImplements
  have k27 := kindP
  have k25 := kindE
  have e27 := elemP
  have i25 := implementsE
  have n8 := isNilP ⟨w.heap.size, 0, none⟩ t ((w.alloc (.cells #[.pointer (some t)] 56)).alloc (.cells #[.pointer (some ⟨9, 56, none⟩), .pointer (some ⟨w.heap.size, 0, none⟩), .int .u64 150] 77)) (by simp)
  have hlt : 0 < w.heap.size := by
    rcases Nat.eq_zero_or_pos w.heap.size with h0 | h
    · simp [World.cell?, h0] at hg
    · exact h
  have hg2 : ((w.alloc (.cells #[.pointer (some t)] 56)).alloc (.cells #[.pointer (some ⟨9, 56, none⟩), .pointer (some ⟨w.heap.size, 0, none⟩), .int .u64 150] 77)).cell? ⟨0, 0, none⟩ = some (.iface 103 (.agg #[.pointer (some ⟨9, 28, none⟩)])) := by
    rw [World.cell?_alloc_lt _ _ ⟨0, 0, none⟩ (by simp), World.cell?_alloc_lt _ _ ⟨0, 0, none⟩ hlt]; exact hg
  have htl : t.block < w.heap.size := by
    rcases Nat.lt_or_ge t.block w.heap.size with h | h
    · exact h
    · simp [World.cell?, Array.getElem?_eq_none h] at ht0
  have el := elemVP ⟨w.heap.size, 0, none⟩ t (((w.alloc (.cells #[.pointer (some t)] 56)).alloc (.cells #[.pointer (some ⟨9, 56, none⟩), .pointer (some ⟨w.heap.size, 0, none⟩), .int .u64 150] 77)).alloc (.cells #[.pointer (some ⟨9, 56, none⟩), .pointer (some ⟨w.heap.size, 0, none⟩), .int .u64 150] 77)) (by rw [World.cell?_alloc_lt _ _ ⟨w.heap.size, 0, none⟩ (by simp; omega)]; simp)
  have st := setE t ⟨w.heap.size + 1 + 1 + 1, 0, none⟩ n old ((((w.alloc (.cells #[.pointer (some t)] 56)).alloc (.cells #[.pointer (some ⟨9, 56, none⟩), .pointer (some ⟨w.heap.size, 0, none⟩), .int .u64 150] 77)).alloc (.cells #[.pointer (some ⟨9, 56, none⟩), .pointer (some ⟨w.heap.size, 0, none⟩), .int .u64 150] 77)).alloc (.cells #[.int .i64 n] 26))
    (by rw [World.cell?_alloc_at _ _ _ _ (by simp)]; rfl)
    (by rw [World.cell?_alloc_lt _ _ t (by simp; omega), World.cell?_alloc_lt _ _ t (by simp; omega), World.cell?_alloc_lt _ _ t (by simp; omega), World.cell?_alloc_lt _ _ t htl]; exact ht0)
    (by rw [World.frozen?_alloc_old _ _ t (by simp; omega), World.frozen?_alloc_old _ _ t (by simp; omega), World.frozen?_alloc_old _ _ t (by simp; omega), World.frozen?_alloc_old _ _ t (Nat.ne_of_lt htl)]; exact hf0)
  go_enter Tryz.func22, Tryz.ntmps22
  go_wp2
  refine wp_loop_rounds 1 ?_
  rw [rounds_succ]
  go_wp2
  go_ret
  exact ⟨rfl, rfl⟩
end Go.Vc
