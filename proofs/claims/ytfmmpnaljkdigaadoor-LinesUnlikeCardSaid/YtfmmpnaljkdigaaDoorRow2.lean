/-
  The row's contract: for every two events the law returns true and changes nothing. By an AI agent.
-/
import Derived.Test.YtfmmpnaljkdigaaDoorRow1
import Derived.Test.YtfmmpnaljkdigaaDoorCards
import Derived.Test.YtfmmpnaljkdigaaDoorTie
import Derived.WalkKit
import Derived.ProofKit
import Derived.OpenShut
import Derived.Below
import Derived.ChangeSame
import Derived.Carry
import Derived.MakeChecks
import Derived.Stop.LaidErr
import Derived.Deep.DeepHandedRow
import Derived.Deep.DeepWitnessRowRef
import Derived.Lib.LaidTab
set_option linter.unusedSimpArgs false
set_option maxRecDepth 100000
set_option linter.unusedVariables false
namespace Go.Vc
open Go Go.ChangeShapes Go.WideShapes Go.ChangeAt Go.RowKit Go.Proofs Go.Proofs.YtfmmpnaljkdigaaDoor
section
variable {H : Type} {enc : TypeId × Value → H} {P : Program}
theorem post_of_below {f : Func} {s : ChangeSpec} {apart fresh handsOn again : Bool} {W W' : World} {args : Array Value} {v : Value} {ds gs : List (DataW H)} {before pa pv : List MemPlace}
    (hW : DataW.Whole enc P f.params.toList s.vars apart W args.toList ds gs before)
    (hres : ∀ (b : Nat) (sp : Nat → Bool) (hd : Bool), DataW.TrodAll enc P W' b sp hd f.resultTypes.toList (v.resultList f.resultTypes.size) (s.fn H (ds ++ gs)).results [])
    (hargs : ∀ sp : Nat → Bool, (∀ p ∈ before, sp p.block = true) → DataW.TrodAll enc P W' 0 sp true f.params.toList args.toList (s.fn H (ds ++ gs)).args pa)
    (hvars : ∀ sp : Nat → Bool, (∀ p ∈ before, sp p.block = true) → DataW.TrodVars enc P W' sp s.vars (s.fn H (ds ++ gs)).vars pv)
    (hps : before = pa ++ pv) (hb : Below W.heap.size W W')
    (hok : ∀ (j : Nat) (t : TypeId) (r : Value), f.resultTypes[j]? = some t → (v.resultList f.resultTypes.size)[j]? = some r → Value.okWide P W' .any 0 t r) :
    s.post enc P f apart fresh handsOn again W args v W' := by
  have hlt : ∀ p ∈ before, p.block < W.heap.size := fun p hp => hW.lt p hp
  have hold : ∀ p ∈ before, (fun b => decide (b < W.heap.size)) p.block = true := fun p hp => by simpa using hlt p hp
  refine ⟨ds, gs, before, [], pa, pv, hW, hres _ _ _, hargs _ hold, hvars _ hold, World.keptBut_mono (fun p hp => ⟨hp, ?_⟩) (hb.frame (· ∈ before)), fun _ => ?_⟩
  · rw [hps, List.mem_append] at hp
    exact Or.inr hp
  · obtain ⟨_, _, _, _, _, hz, hn⟩ := hW
    refine ⟨hok, _, _, ([] ++ pa) ++ pv, ⟨[] ++ pa, pv, trodAll_append (hargs _ (fun _ _ => rfl)) (hres _ _ _), hvars _ (fun _ _ => rfl), rfl, ?_, ?_⟩, ?_⟩
    · intro b off hp
      have hin : MemPlace.cell b off ∈ before := by rw [hps]; simpa using hp
      rw [hb.frozen (hlt _ hin)]
      exact hz b off hin
    · intro ha
      have := hn ha
      rw [hps] at this
      simpa using this
    · intro p hp _
      rw [hps]
      simpa using hp
end
theorem below_of_grow {w w' : World} (h : Grow w w') : Below w.heap.size w w' := ⟨h.os, h.tape, h.output, h.size, fun k hk => h.block k hk (fun e => e)⟩
theorem cell_grow {w w' : World} (g : Grow w w') {a : Addr} {v : Value} (h : w.cell? a = some v) : w'.cell? a = some v := by
  unfold World.cell? at h ⊢
  cases hb : w.heap[a.block]? with
  | none => simp [hb] at h
  | some o => rw [g.get hb]; rw [hb] at h; exact h
theorem own : ownKnob Tryd.prog.godebug = none := by kernel_rfl
theorem gTab : PR.globalNamed "internal/strconv.uint64pow10" = some 0 := by kernel_rfl
theorem gTabType : (PR.globals[0]?).map (·.type) = some 107 := by kernel_rfl
theorem u82 : PR.underlying 82 = some (.int .u64) := by kernel_rfl
theorem u107 : PR.underlying 107 = some (.array 20 82) := by kernel_rfl
theorem c82 : PR.cellsOf 82 = 1 := by kernel_rfl
theorem c107 : PR.cellsOf 107 = 20 := by kernel_rfl
theorem plainLaid : (Rows.linesUnlikeRow.laid.all fun x => x.2.handleName?.isNone) = true := by kernel_rfl
theorem tab_of {W : World} (h : laidMetH Tryd.prog Rows.linesUnlikeRow.laid W) : Tab W := by
  rw [Go.MakeChecks.laidMetH_plain _ _ _ plainLaid] at h
  exact Lib.tabIs_of_head (k := .u64) (zs := Lib.pow10Tab) gTab gTabType u107 u82 c82 c107 h.tail.tail
theorem lay : laidOutB Tryd.prog = true := by kernel_rfl
theorem rec26 : Tryd.prog.readableRec 26 = true := by kernel_rfl
/-- the plain law: two events have one line if and only if they are one -/
def LineLaw : Prop := ∀ a b : Ev, a.line ≠ [] → b.line ≠ [] → (a.line = b.line ↔ a = b)
theorem params3 : Tryd.f3.params = #[26, 26] := by kernel_rfl
theorem contract (law : LineLaw) (H : Type) (enc : TypeId × Value → H) (W : World) (base : Nat) (args : Array Value) (ds gs : List (DataW H)) (before : List MemPlace)
    (hval : ∀ (j : Nat) t v, Tryd.f3.params[j]? = some t → args[j]? = some v → Value.okWide Tryd.prog W .any base t v)
    (hW : DataW.Whole enc Tryd.prog Tryd.f3.params.toList Rows.linesUnlikeSpec.vars false W args.toList ds gs before) (hL : laidMetH Tryd.prog Rows.linesUnlikeRow.laid W) (hsh : W.ShapedOpen Tryd.prog) :
    Calls Tryd.prog 3 args W fun e W' => ∃ v, e = .returned v ∧ Rows.linesUnlikeSpec.post enc Tryd.prog Tryd.f3 false true false false W args v W' := by
  have hW' := hW
  obtain ⟨p, q, hA0, hV, rfl, hfz, hnd⟩ := hW
  have hA : DataW.TrodAll enc Tryd.prog W 0 (fun _ => true) true Tryd.f3.params.toList args.toList ds p := hA0
  rw [params3] at hA hval
  obtain ⟨v0, v1, d0, d1, p0, p1, rfl, rfl, rfl, h0, h1⟩ := trodAll_two hA
  obtain ⟨rfl, rfl⟩ := trodVars_none hV
  have h0k := h0
  have h1k := h1
  obtain ⟨a, qe, qk, ce, ck, rfl, se, sk⟩ := open_event (hval 0 26 _ rfl rfl) h0
  obtain ⟨b, qe', qk', ce', ck', rfl, se', sk'⟩ := open_event (hval 1 26 _ rfl rfl) h1
  obtain ⟨m, hm⟩ := Tryd.laysM146.s1_3 W hsh
  have hl0 : ∀ x ∈ p0, x.block < W.heap.size := fun x hx => hW'.lt x (by simp [hx])
  have hl1 : ∀ x ∈ p1, x.block < W.heap.size := fun x hx => hW'.lt x (by simp [hx])
  have hm' : ∀ w', Grow W w' → w'.cell? ⟨1, 0, none⟩ = some (.int .i64 m) := fun w' g => cell_grow g hm
  refine unlike_spec (a := a) (b := b) (m := m) (tab_of hL) hm' se sk rfl rfl se' sk' rfl rfl (law a b) fun W' g => ?_
  have hb := below_of_grow g
  refine post_of_below (pa := p0 ++ p1) (pv := []) hW' (fun _ _ _ => trodAll_cons_mk (shut_bool u4 _) trodAll_mk0)
    (fun sp hsp => ?_) (fun _ _ => rfl) (by simp) hb (ok_one (by kernel_rfl) rfl (okWide_bool_mk u4 _))
  rw [params3]
  exact trodAll_mk2 (WideElems.Trod_stays lay rec26 (of_decide_eq_true (by kernel_rfl)) h0k (fun x hx => hb.same (hl0 x hx)) (fun x hx => hsp x (by simp [hx])))
    (WideElems.Trod_stays lay rec26 (of_decide_eq_true (by kernel_rfl)) h1k (fun x hx => hb.same (hl1 x hx)) (fun x hx => hsp x (by simp [hx])))
end Go.Vc
