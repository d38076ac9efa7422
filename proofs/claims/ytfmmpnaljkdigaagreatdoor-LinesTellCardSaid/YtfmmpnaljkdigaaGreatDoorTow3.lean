/-
  The row's witness, the row, and its card. By an AI agent.
-/
import Derived.Test.YtfmmpnaljkdigaaGreatDoorTow2
set_option linter.unusedSimpArgs false
set_option maxRecDepth 1000000
set_option linter.unusedVariables false
namespace Go.Vc
open Go Go.ChangeShapes Go.WideShapes Go.ChangeAt Go.RowKit Go.Proofs Go.Proofs.YtfmmpnaljkdigaaGreatDoor
/-! ## The witness, the row, the card -/
def lit1 : DataW Unit → Value
  | .lit (.int k n) => .int k n
  | _ => .nilIface
def flatD : DataW Unit → List Value
  | .agg xs => xs.flatMap fun
    | .agg zs => zs.map lit1
    | y => [lit1 y]
  | _ => []
noncomputable abbrev N0 : Nat := (World.settled Tryz.prog default).heap.size
/-- the settled world; the listed tables, the error type and the two errors as the start lays them -/
noncomputable def laidWorld (os : Os) : World :=
  let N := (World.settled Tryz.prog os).heap.size
  let w0 := World.holding Tryz.prog os ⟨#[.cells #[.string ⟨#[118, 97, 108, 117, 101, 32, 111, 117, 116, 32, 111, 102, 32, 114, 97, 110, 103, 101]⟩] T.errors_errorString, .cells #[.string ⟨#[105, 110, 118, 97, 108, 105, 100, 32, 115, 121, 110, 116, 97, 120]⟩] T.errors_errorString], #[], []⟩
  let put (h : Array Obj) (g : Nat) (cs : Array Value) : Array Obj := h.modify g fun
    | .cells _ t frozen => .cells cs t frozen
    | o => o
  let h0 := put w0.heap 0 #[.iface 103 (.agg #[.pointer (some ⟨9, 28, none⟩)])]
  let h1 := put h0 7 (flatD Rows.laid_math_bits_deBruijn32tab).toArray
  let h2 := put h1 8 (flatD Rows.laid_math_bits_deBruijn64tab).toArray
  let h3 := put h2 1 (flatD Rows.laid_internal_strconv_uint64pow10).toArray
  let h4 := put h3 6 (flatD Rows.laid_unicode_utf8_acceptRanges).toArray
  let h5 := put h4 4 #[.iface T.p_errors_errorString (.pointer (some ⟨N, 0, none⟩))]
  let h6 := put h5 3 #[.iface T.p_errors_errorString (.pointer (some ⟨N + 1, 0, none⟩))]
  let h7 := put h6 5 (flatD Rows.laid_unicode_utf8_first).toArray
  { w0 with heap := h7 }
theorem laid_met (os : Os) (args : Array Value) : laidMetH Tryz.prog Rows.linesTellRow.laid ((laidWorld os).forCall (fun _ _ => 0) ⟨#[], args, []⟩).memory :=
  laidMetH_of_parts (LaidIn.of_run (l := Rows.linesTellRow.laid.filter fun x => x.2.handleName?.isNone) [7, 8, 1, 6, 4, N0, 3, N0 + 1, 5] 8 (by kernel_rfl) (by kernel_rfl) (by kernel_rfl) (by kernel_rfl)).met (by kernel_rfl)
def zIn : Array Value := #[.slice none 0 0, .int .u8 0, .bool false]
theorem reads (os : Os) {H : Type} (enc : TypeId × Value → H) : ∃ places, DataW.whole enc Tryz.prog ((laidWorld os).forCall (fun _ _ => 0) ⟨#[], zIn, []⟩).memory Tryz.f3.params.toList Rows.linesTellSpec.vars false zIn.toList 8 =
    some ([.nil, .lit (.int .u8 0), .lit (.bool false)], [], places) :=
  ⟨[], by kernel_rfl⟩
theorem lifted (os : Os) (started : os.Started) (H : Type) (enc : TypeId × Value → H) (F : Stop.Interp) :
    ReturnsInHanded {} Tryz.checked os 3 .any ((OpenSpec.ofChange Rows.linesTellSpec).preRow enc Tryz.prog Tryz.f3 Rows.linesTellRow.domain false Rows.linesTellRow.laid) (((OpenSpec.ofChange Rows.linesTellSpec).at F).post enc Tryz.prog Tryz.f3 false true false false) := by
  obtain ⟨places, hx⟩ := reads os enc
  refine returnsInHanded_of_row (C := Tryz.checked) (s := OpenSpec.ofChange Rows.linesTellSpec) own started (by kernel_rfl) Tryz.func3
    (witness_row_atRef (enc := enc) (C := Tryz.checked) false (laidWorld os) zIn rfl (by kernel_rfl) (by kernel_rfl) (by kernel_rfl)
      (OpenSpec.preRow_of_cond 8 hx (by kernel_rfl) (fun k hk => by cases hk) (by kernel_rfl) (laid_met os _))) ?_
  intro W base args ds gs before hval hW _ _ _ hL hsh _
  exact contract H enc W base args ds gs before hval hW hL hsh
theorem said : Rows.LinesTellSaid :=
  OpenClaim.holds_of_cond 3 Tryz.f3 rfl rfl rfl rfl rfl rfl rfl ⟨rfl, rfl, rfl, rfl, rfl⟩ rfl rfl rfl rfl rfl (by kernel_rfl) Tryz.func3 (by kernel_rfl)
    (of_decide_eq_true (by kernel_rfl)) (by unfold Func.isWrapper; first | (rw [if_pos (by decide +kernel)]; kernel_rfl) | (rw [if_neg (by decide +kernel)]; exact ⟨rfl, rfl⟩))
    (fun os started H enc _ F => by rw [OpenClaim.pre_eq_preRow]; exact lifted os started H enc F)
theorem plain (f : FuncId) (fn : Func) (hf : Tryz.pinned.checked.prog.funcNamed "lading/ladinglaw29.LinesTell" = some f) (hfn : Tryz.pinned.checked.prog.funcs[f]? = some fn) :
    true = Tryz.pinned.checked.prog.looks [] ∧ ∀ (j : Nat) t, fn.params[j]? = some t → Tryz.pinned.checked.prog.wantsStandIn t = false := by
  obtain rfl : f = 3 := Option.some.inj ((show Tryz.prog.funcNamed "lading/ladinglaw29.LinesTell" = some 3 by kernel_rfl).symm.trans hf) |>.symm
  obtain rfl : fn = Tryz.f3 := (Option.some.inj (Tryz.func3.symm.trans hfn)).symm
  refine ⟨by kernel_rfl, fun j t ht => ?_⟩
  rw [params3] at ht
  have ht : t = T.sl_int ∨ t = T.uint8 ∨ t = T.bool := by simpa using Array.mem_of_getElem? ht
  rcases ht with rfl | rfl | rfl
  · exact (show Tryz.prog.wantsStandIn T.sl_int = false by kernel_rfl)
  · exact (show Tryz.prog.wantsStandIn T.uint8 = false by kernel_rfl)
  · exact (show Tryz.prog.wantsStandIn T.bool = false by kernel_rfl)
theorem card : Rows.LinesTellCardSaid :=
  Claim7.holds_tied_plain_at .later [] _ _ _ _ said (fun _ h => by cases h) (by kernel_rfl) (fun _ h => by cases h) linesTell_row_tie rfl ⟨rfl, rfl⟩ (by kernel_rfl) rfl plain (by kernel_rfl)
end Go.Vc
