/-
  The row's witness, the row, and its card, up to the plain law. By an AI agent.
-/
import Derived.Test.YtfmmpnaljkdigaaDoorRow2
import Derived.Lib.LaidIn
set_option linter.unusedSimpArgs false
set_option maxRecDepth 1000000
set_option linter.unusedVariables false
namespace Go.Vc
open Go Go.ChangeShapes Go.WideShapes Go.ChangeAt Go.RowKit Go.Proofs Go.Proofs.YtfmmpnaljkdigaaDoor
/-! ## The witness, the row, the card -/
def lit1 : DataW Unit → Value
  | .lit (.int k n) => .int k n
  | _ => .nilIface
def flatD : DataW Unit → List Value
  | .agg xs => xs.flatMap fun
    | .agg zs => zs.map lit1
    | y => [lit1 y]
  | _ => []
noncomputable abbrev N0 : Nat := (World.settled Tryd.prog default).heap.size
/-- the settled world; the listed tables and the two errors as the start lays them -/
noncomputable def laidWorld (os : Os) : World :=
  let N := (World.settled Tryd.prog os).heap.size
  let w0 := World.holding Tryd.prog os ⟨#[.cells #[.string ⟨#[118, 97, 108, 117, 101, 32, 111, 117, 116, 32, 111, 102, 32, 114, 97, 110, 103, 101]⟩] 132, .cells #[.string ⟨#[105, 110, 118, 97, 108, 105, 100, 32, 115, 121, 110, 116, 97, 120]⟩] 132], #[], []⟩
  let put (h : Array Obj) (g : Nat) (cs : Array Value) : Array Obj := h.modify g fun
    | .cells _ t frozen => .cells cs t frozen
    | o => o
  let h1 := put w0.heap 6 (flatD Rows.laid_math_bits_deBruijn32tab).toArray
  let h2 := put h1 7 (flatD Rows.laid_math_bits_deBruijn64tab).toArray
  let h3 := put h2 0 (flatD Rows.laid_internal_strconv_uint64pow10).toArray
  let h4 := put h3 5 (flatD Rows.laid_unicode_utf8_acceptRanges).toArray
  let h5 := put h4 3 #[.iface 130 (.pointer (some ⟨N, 0, none⟩))]
  let h6 := put h5 2 #[.iface 130 (.pointer (some ⟨N + 1, 0, none⟩))]
  let h7 := put h6 4 (flatD Rows.laid_unicode_utf8_first).toArray
  { w0 with heap := h7 }
theorem laid_met (os : Os) (args : Array Value) : laidMet Tryd.prog Rows.linesUnlikeRow.laid ((laidWorld os).forCall (fun _ _ => 0) ⟨#[], args, []⟩).memory :=
  (LaidIn.of_run (l := Rows.linesUnlikeRow.laid) [6, 7, 0, 5, 3, N0, 2, N0 + 1, 4] 8 (by kernel_rfl) (by kernel_rfl) (by kernel_rfl) (by kernel_rfl)).met

def zEv : Value := .agg #[.int .i64 0, .int .i64 0, .int .i64 0, .int .i64 0, .int .i64 0, .int .i64 0, .slice none 0 0, .string ⟨#[]⟩, .slice none 0 0]
theorem reads (os : Os) {H : Type} (enc : TypeId × Value → H) : ∃ places, DataW.whole enc Tryd.prog ((laidWorld os).forCall (fun _ _ => 0) ⟨#[], #[zEv, zEv], []⟩).memory Tryd.f3.params.toList Rows.linesUnlikeSpec.vars false #[zEv, zEv].toList 8 =
    some ([.agg [.lit (.int .i64 0), .agg [.lit (.int .i64 0), .lit (.int .i64 0), .lit (.int .i64 0), .lit (.int .i64 0), .lit (.int .i64 0)], .nil, .lit (.string []), .nil], .agg [.lit (.int .i64 0), .agg [.lit (.int .i64 0), .lit (.int .i64 0), .lit (.int .i64 0), .lit (.int .i64 0), .lit (.int .i64 0)], .nil, .lit (.string []), .nil]], [], places) :=
  ⟨[], by kernel_rfl⟩
theorem lifted (law : LineLaw) (os : Os) (started : os.Started) (H : Type) (enc : TypeId × Value → H) (F : Stop.Interp) :
    ReturnsInHanded {} Tryd.checked os 3 .any ((OpenSpec.ofChange Rows.linesUnlikeSpec).preRow enc Tryd.prog Tryd.f3 Rows.linesUnlikeRow.domain false Rows.linesUnlikeRow.laid) (((OpenSpec.ofChange Rows.linesUnlikeSpec).at F).post enc Tryd.prog Tryd.f3 false true false false) := by
  obtain ⟨places, hx⟩ := reads os enc
  refine returnsInHanded_of_row (C := Tryd.checked) (s := OpenSpec.ofChange Rows.linesUnlikeSpec) own started (by kernel_rfl) Tryd.func3
    (witness_row_atRef (enc := enc) (C := Tryd.checked) false (laidWorld os) #[zEv, zEv] rfl (by kernel_rfl) (by kernel_rfl) (by kernel_rfl)
      (OpenSpec.preRow_of_cond 8 hx (by kernel_rfl) (fun k hk => by cases hk) (by kernel_rfl) (laid_met os _))) ?_
  intro W base args ds gs before hval hW _ _ _ hL hsh _
  exact contract law H enc W base args ds gs before hval hW hL hsh
theorem said (law : LineLaw) : Rows.LinesUnlikeSaid :=
  OpenClaim.holds_of_cond 3 Tryd.f3 rfl rfl rfl rfl rfl rfl rfl ⟨rfl, rfl, rfl, rfl, rfl⟩ rfl rfl rfl rfl rfl (by kernel_rfl) Tryd.func3 (by kernel_rfl)
    (of_decide_eq_true (by kernel_rfl)) (by unfold Func.isWrapper; first | (rw [if_pos (by decide +kernel)]; kernel_rfl) | (rw [if_neg (by decide +kernel)]; exact ⟨rfl, rfl⟩))
    (fun os started H enc _ F => by rw [OpenClaim.pre_eq_preRow]; exact lifted law os started H enc F)
theorem plain (f : FuncId) (fn : Func) (hf : Tryd.pinned.checked.prog.funcNamed "lading/ladinglaw29.LinesUnlike" = some f) (hfn : Tryd.pinned.checked.prog.funcs[f]? = some fn) :
    true = Tryd.pinned.checked.prog.looks [] ∧ ∀ (j : Nat) t, fn.params[j]? = some t → Tryd.pinned.checked.prog.wantsStandIn t = false := by
  obtain rfl : f = 3 := Option.some.inj ((show Tryd.prog.funcNamed "lading/ladinglaw29.LinesUnlike" = some 3 by kernel_rfl).symm.trans hf) |>.symm
  obtain rfl : fn = Tryd.f3 := (Option.some.inj (Tryd.func3.symm.trans hfn)).symm
  refine ⟨by kernel_rfl, fun j t ht => ?_⟩
  rw [params3] at ht
  obtain rfl : t = 26 := by simpa using Array.mem_of_getElem? ht
  exact (show Tryd.prog.wantsStandIn 26 = false by kernel_rfl)
theorem card (law : LineLaw) : Rows.LinesUnlikeCardSaid :=
  Claim7.holds_tied_plain_at .later [] _ _ _ _ (said law) (fun _ h => by cases h) (by kernel_rfl) (fun _ h => by cases h) linesUnlike_row_tie rfl ⟨rfl, rfl⟩ (by kernel_rfl) rfl plain (by kernel_rfl)
end Go.Vc
