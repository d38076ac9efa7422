/-
  A part of the proof of the statement ActNoneCardSaid, in Lean: RoN. By an AI agent.
-/
import Derived.Test.YtjfpofjppjaofaaGreatDoorP11
import Derived.Test.YtjfpofjppjaofaaGreatDoorP12
import Derived.Test.YtjfpofjppjaofaaGreatDoorCards
import Derived.Test.YtjfpofjppjaofaaGreatDoorTie
import Derived.LaidSub
import Derived.LaidLaws
import Derived.LaidHandle
import Derived.Stop.LaidErr
import Derived.Deep.DeepHandedRow
import Derived.Deep.DeepWitnessRowRef
import Derived.Lib.LaidTab
import Derived.Lib.LaidIn
set_option linter.unusedSimpArgs false
set_option linter.unusedVariables false
set_option maxRecDepth 1000000
/-! A part of the proof that two events of one line are one event: the calculus that follows known memory by computing, and its soundness. By an AI agent. -/












namespace Go.Vc
open Go Go.ChangeShapes Go.WideShapes Go.ChangeAt Go.RowKit Go.Deep Go.Proofs Go.Proofs.YtjfpofjppjaofaaGreatDoor
/-! ## ActNone: the row, the card -/
theorem params3 : Tryz.f3.params = #[T.int, 22, T.msg_Msg] := by kernel_rfl
theorem uArr : PR.underlying 22 = some (.array 2 T.int) := by kernel_rfl
theorem cArr : PR.cellsOf 22 = 2 := by kernel_rfl
theorem recArr : PR.readableRec 22 = true := by kernel_rfl
theorem recMsg : PR.readableRec T.msg_Msg = true := by kernel_rfl
theorem gErr : PR.globalNamed "errors.errorType" = some 0 := by kernel_rfl
theorem rtN : (PR.cutTypes.find? (·.1 == "internal/reflectlite.rtype")).map (·.2) = some T.reflectlite_rtype := by kernel_rfl
theorem tsize : PR.types.size = 321 := by kernel_rfl
theorem oneRow : ((List.range 321).filter fun t => PR.rowNamed t [101, 114, 114, 111, 114]) = [T.error] := by kernel_rfl
theorem errT_of {W : World} (h : laidMetH PR Rows.actNoneRow.laid W) : ErrT W := by
  obtain ⟨_, h2⟩ := laidMetH_iff.1 h
  obtain ⟨name, u, ty, e1, e2, e3, e4, e5⟩ := h2 ("errors.errorType", Rows.laid_errors_errorType) (by
    refine List.mem_filter.2 ⟨?_, rfl⟩
    exact .head _)
  have en : name = [101, 114, 114, 111, 114] := (Option.some.inj e1).symm
  subst en
  obtain rfl := Option.some.inj (rtN.symm.trans e2)
  have hm : ty ∈ (List.range 321).filter fun t => PR.rowNamed t [101, 114, 114, 111, 114] := List.mem_filter.2 ⟨List.mem_range.2 (by rw [← tsize]; exact e3), e4⟩
  rw [oneRow] at hm
  obtain rfl := List.mem_singleton.1 hm
  have hh : typeHandle PR T.error = .pointer (some ⟨2, T.error, none⟩) := by kernel_rfl
  rw [hh] at e5
  have := World.var?_cell gErr e5 0
  unfold ErrT
  simpa using this
theorem contractN (H : Type) (enc : TypeId × Value → H) (W : World) (base : Nat) (args : Array Value) (ds gs : List (DataW H)) (before : List MemPlace)
    (hval : ∀ (j : Nat) t v, Tryz.f3.params[j]? = some t → args[j]? = some v → Value.okWide Tryz.prog W .any base t v)
    (hW : DataW.Whole enc Tryz.prog Tryz.f3.params.toList Rows.actNoneSpec.vars false W args.toList ds gs before) (hL : laidMetH Tryz.prog Rows.actNoneRow.laid W) :
    Calls Tryz.prog 3 args W fun e W' => ∃ v, e = .returned v ∧ Rows.actNoneSpec.post enc Tryz.prog Tryz.f3 false true false false W args v W' := by
  have hW' := hW
  obtain ⟨p, q, hA0, hV, rfl, hfz, hnd⟩ := hW
  have hA : DataW.TrodAll enc Tryz.prog W 0 (fun _ => true) true Tryz.f3.params.toList args.toList ds p := hA0
  rw [params3] at hA hval
  obtain ⟨v0, v1, v2, d0, d1, d2, p0, p1, p2, rfl, rfl, rfl, h0, h1, h2⟩ := trodAll_three hA
  obtain ⟨rfl, rfl⟩ := trodVars_none hV
  have h0k := h0
  have h1k := h1
  have h2k := h2
  obtain ⟨n, rfl⟩ := okWide_int uInt (hval 0 _ _ rfl rfl)
  obtain ⟨⟨cs1⟩, rfl, hs1⟩ := okWide_array uArr (hval 1 _ _ rfl rfl)
  obtain ⟨fs, hu, _⟩ := flds_of fMsg
  obtain ⟨⟨cs2⟩, rfl, hs2⟩ := okWide_struct hu (hval 2 _ _ rfl rfl)
  rw [cArr] at hs1
  rw [cMsg] at hs2
  obtain ⟨fuel1, hf1⟩ := h1
  obtain ⟨fuel2, hf2⟩ := h2
  have hf1 : DataW.trod enc PR W 0 (fun _ => true) true fuel1 22 cs1 = some (d1, p1) := hf1
  have hf2 : DataW.trod enc PR W 0 (fun _ => true) true fuel2 T.msg_Msg cs2 = some (d2, p2) := hf2
  have hs1 : cs1.length = 2 := by simpa using hs1
  have hs2 : cs2.length = 5 := by simpa using hs2
  obtain ⟨o, rfl, so, _⟩ := msg_of hf2 hs2
  obtain ⟨xs, m, _, _, _, hxl, hg⟩ := DataW.trod_array uArr hf1
  match cs1, hs1 with
  | [a0, a1], _ =>
    have g0 := hg 0 (by decide)
    have g1 := hg 1 (by decide)
    rw [cInt] at g0 g1
    rw [List.getElem?_eq_getElem (by omega)] at g0 g1
    obtain ⟨n0, e0, _, _⟩ := DataW.trod_int uInt g0
    obtain ⟨n1, e1, _, _⟩ := DataW.trod_int uInt g1
    obtain rfl : a0 = .int .i64 n0 := (List.cons.inj e0).1
    obtain rfl : a1 = .int .i64 n1 := (List.cons.inj e1).1
    have hl0 : ∀ x ∈ p0 ++ p1 ++ p2, x.block < W.heap.size := fun x hx => hW'.lt x (by simpa using hx)
    refine ActNone_spec (errT_of hL) so fun W' g => ?_
    have hb := below_of_grow g
    refine post_of_below (pa := p0 ++ (p1 ++ (p2 ++ []))) (pv := []) hW' (fun _ _ _ => trodAll_cons_mk (shut_bool uBool _) trodAll_mk0)
      (fun sp hsp => ?_) (fun _ _ => rfl) (by simp) hb (ok_one (by kernel_rfl) rfl (okWide_bool_mk uBool _))
    rw [params3]
    have stay : ∀ {t : TypeId} {v : Value} {d : DataW H} {q : List MemPlace}, PR.readableRec t = true → decide (t < PR.types.size) = true → (∀ x ∈ q, x ∈ p0 ++ p1 ++ p2) → DataW.Trod enc PR W 0 (fun _ => true) true t v d q → DataW.Trod enc PR W' 0 sp true t v d q := fun hr hz hq h =>
      WideElems.Trod_stays layG hr (of_decide_eq_true hz) h (fun x hx => hb.same (hl0 x (hq x hx))) (fun x hx => hsp x (by simpa using hq x hx))
    exact trodAll_cons_mk (stay (show PR.readableRec T.int = true by kernel_rfl) (by kernel_rfl) (fun x hx => by simp [hx]) h0k) (trodAll_cons_mk (stay recArr (by kernel_rfl) (fun x hx => by simp [hx]) h1k) (trodAll_cons_mk (stay recMsg (by kernel_rfl) (fun x hx => by simp [hx]) h2k) trodAll_mk0))
/-- the settled world, the error type as the start lays it -/
noncomputable def laidWorld (os : Os) : World :=
  let w0 := World.holding Tryz.prog os ⟨#[], #[], []⟩
  let put (h : Array Obj) (g : Nat) (cs : Array Value) : Array Obj := h.modify g fun
    | .cells _ t frozen => .cells cs t frozen
    | o => o
  { w0 with heap := put w0.heap 0 #[.iface T.reflectlite_rtype (.agg #[.pointer (some ⟨2, T.error, none⟩)])] }
theorem laid_met (os : Os) (args : Array Value) : laidMetH Tryz.prog Rows.actNoneRow.laid ((laidWorld os).forCall (fun _ _ => 0) ⟨#[], args, []⟩).memory :=
  laidMetH_of_parts (LaidIn.of_run (l := Rows.actNoneRow.laid.filter fun x => x.2.handleName?.isNone) [] 8 (by kernel_rfl) (by kernel_rfl) (by kernel_rfl) (by kernel_rfl)).met (by kernel_rfl)
def zIn : Array Value := #[.int .i64 0, .agg #[.int .i64 0, .int .i64 0], .agg #[.int .i64 0, .int .i64 0, .int .i64 0, .string ⟨#[]⟩, .slice none 0 0]]
theorem readsN (os : Os) {H : Type} (enc : TypeId × Value → H) : ∃ places, DataW.whole enc Tryz.prog ((laidWorld os).forCall (fun _ _ => 0) ⟨#[], zIn, []⟩).memory Tryz.f3.params.toList Rows.actNoneSpec.vars false zIn.toList 8 =
    some ([.lit (.int .i64 0), .agg [.lit (.int .i64 0), .lit (.int .i64 0)], .agg [.lit (.int .i64 0), .lit (.int .i64 0), .lit (.int .i64 0), .lit (.string []), .nil]], [], places) :=
  ⟨[], by kernel_rfl⟩
theorem liftedN (os : Os) (started : os.Started) (H : Type) (enc : TypeId × Value → H) (F : Stop.Interp) :
    ReturnsInHanded {} Tryz.checked os 3 .any ((OpenSpec.ofChange Rows.actNoneSpec).preRow enc Tryz.prog Tryz.f3 Rows.actNoneRow.domain false Rows.actNoneRow.laid) (((OpenSpec.ofChange Rows.actNoneSpec).at F).post enc Tryz.prog Tryz.f3 false true false false) := by
  obtain ⟨places, hx⟩ := readsN os enc
  refine returnsInHanded_of_row (C := Tryz.checked) (s := OpenSpec.ofChange Rows.actNoneSpec) ownG started (by kernel_rfl) Tryz.func3
    (witness_row_atRef (enc := enc) (C := Tryz.checked) false (laidWorld os) zIn rfl (by kernel_rfl) (by kernel_rfl) (by kernel_rfl)
      (OpenSpec.preRow_of_cond 8 hx (by kernel_rfl) (fun k hk => by cases hk) (by kernel_rfl) (laid_met os _))) ?_
  intro W base args ds gs before hval hW _ _ _ hL hsh _
  exact contractN H enc W base args ds gs before hval hW hL
theorem saidN : Rows.ActNoneSaid :=
  OpenClaim.holds_of_cond 3 Tryz.f3 rfl rfl rfl rfl rfl rfl rfl ⟨rfl, rfl, rfl, rfl, rfl⟩ rfl rfl rfl rfl rfl (by kernel_rfl) Tryz.func3 (by kernel_rfl)
    (of_decide_eq_true (by kernel_rfl)) (by unfold Func.isWrapper; first | (rw [if_pos (by decide +kernel)]; kernel_rfl) | (rw [if_neg (by decide +kernel)]; exact ⟨rfl, rfl⟩))
    (fun os started H enc _ F => by rw [OpenClaim.pre_eq_preRow]; exact liftedN os started H enc F)
theorem plainN (f : FuncId) (fn : Func) (hf : Tryz.pinned.checked.prog.funcNamed "lading/ladinglaw23.ActNone" = some f) (hfn : Tryz.pinned.checked.prog.funcs[f]? = some fn) :
    true = Tryz.pinned.checked.prog.looks [] ∧ ∀ (j : Nat) t, fn.params[j]? = some t → Tryz.pinned.checked.prog.wantsStandIn t = false := by
  obtain rfl : f = 3 := Option.some.inj ((show Tryz.prog.funcNamed "lading/ladinglaw23.ActNone" = some 3 by kernel_rfl).symm.trans hf) |>.symm
  obtain rfl : fn = Tryz.f3 := (Option.some.inj (Tryz.func3.symm.trans hfn)).symm
  refine ⟨by kernel_rfl, fun j t ht => ?_⟩
  rw [params3] at ht
  have ht : t = T.int ∨ t = 22 ∨ t = T.msg_Msg := by simpa using Array.mem_of_getElem? ht
  rcases ht with rfl | rfl | rfl
  · exact (show Tryz.prog.wantsStandIn T.int = false by kernel_rfl)
  · exact (show Tryz.prog.wantsStandIn 22 = false by kernel_rfl)
  · exact (show Tryz.prog.wantsStandIn T.msg_Msg = false by kernel_rfl)
theorem cardN : Rows.ActNoneCardSaid :=
  Claim7.holds_tied_plain_at .later [] _ _ _ _ saidN (fun _ h => by cases h) (by kernel_rfl) (fun _ h => by cases h) actNone_row_tie rfl ⟨rfl, rfl⟩ (by kernel_rfl) rfl plainN (by kernel_rfl)
end Go.Vc
