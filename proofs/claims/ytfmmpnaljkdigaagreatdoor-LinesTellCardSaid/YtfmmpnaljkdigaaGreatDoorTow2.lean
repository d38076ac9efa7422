/-
  The row's contract: for every list, code and depth the law returns true and changes nothing. By an AI agent.
-/
import Derived.Test.YtfmmpnaljkdigaaGreatDoorTel3
import Derived.Test.YtfmmpnaljkdigaaGreatDoorCards
import Derived.Test.YtfmmpnaljkdigaaGreatDoorTie
import Derived.OpenShut
import Derived.KernelRfl
import Derived.WalkKit
import Derived.ProofKit
import Derived.Below
import Derived.ChangeSame
import Derived.ChangeSlices
import Derived.Carry
import Derived.LaidSub
import Derived.LaidLaws
import Derived.LaidHandle
import Derived.Stop.LaidErr
import Derived.Deep.DeepHandedRow
import Derived.Deep.DeepWitnessRowRef
import Derived.Lib.LaidTab
import Derived.Lib.LaidIn
set_option linter.unusedSimpArgs false
set_option maxRecDepth 100000
set_option linter.unusedVariables false
namespace Go.Vc
open Go Go.ChangeShapes Go.WideShapes Go.ChangeAt Go.RowKit Go.Proofs Go.Proofs.YtfmmpnaljkdigaaGreatDoor
theorem sl_of_cells {w : World} {a : Addr} {xs : List Value} (h : ∀ i, i < xs.length → w.cell? (a.add i) = xs[i]?) : Sl w (some a) xs := by
  cases xs with
  | nil => exact .inl rfl
  | cons x xs =>
    right
    have h0 := h 0 (by simp)
    have h0' : w.cell? a = some x := by simpa [Addr.add] using h0
    have hs := World.cell?_spot h0'
    obtain ⟨b, o, sp⟩ := a
    simp only at hs
    subst hs
    refine ⟨b, o, rfl, ?_⟩
    unfold World.cell? at h0'
    cases hb : w.heap[b]? with
    | none => simp [hb] at h0'
    | some ob =>
      cases ob with
      | cells cs T fz =>
        refine ⟨cs, T, fz, hb, fun i hi => ?_⟩
        have hh := h i hi
        have e : w.cell? ((⟨b, o, none⟩ : Addr).add i) = cs[o + i]? := by
          by_cases hi0 : i = 0
          · subst hi0; simp [Addr.add, World.cell?, hb]
          · simp [Addr.add, hi0, World.cell?, hb]
        rw [← e, hh]
      | _ => simp [hb] at h0'
section
variable {H : Type} {enc : TypeId × Value → H} {P : Program}
theorem post_of_below {f : Func} {s : ChangeSpec} {apart fresh handsOn again : Bool} {W W' : World} {args : Array Value} {v : Value} {ds gs : List (DataW H)} {before pa pv : List MemPlace}
    (hW : DataW.Whole enc P f.params.toList s.vars apart W args.toList ds gs before)
    (hres : ∀ (b : Nat) (sp : Nat → Bool) (hd : Bool), DataW.TrodAll enc P W' b sp hd f.resultTypes.toList (v.resultList f.resultTypes.size) (s.fn H (ds ++ gs)).results [])
    (hargs : ∀ sp : Nat → Bool, (∀ p ∈ before, sp p.block = true) → DataW.TrodAll enc P W' 0 sp true f.params.toList args.toList (s.fn H (ds ++ gs)).args pa)
    (hvars : ∀ sp : Nat → Bool, (∀ p ∈ before, sp p.block = true) → DataW.TrodVars enc P W' sp s.vars (s.fn H (ds ++ gs)).vars pv)
    (hps : before = pa ++ pv) (hb : Below W.heap.size W W')
    (hok : ∀ (j : Nat) (t : TypeId) (r : Value), f.resultTypes[j]? = some t → (v.resultList f.resultTypes.size)[j]? = some r → Value.okWide P W' .any 0 t r) :
    s.post enc P f apart fresh handsOn again W args v W' := by
  have hlt : ∀ p ∈ before, p.block < W.heap.size := fun p hp => hW.lt p hp
  have hold : ∀ p ∈ before, (fun b => decide (b < W.heap.size)) p.block = true := fun p hp => by simpa using hlt p hp
  refine ⟨ds, gs, before, [], pa, pv, hW, hres _ _ _, hargs _ hold, hvars _ hold, World.keptBut_mono (fun p hp => ⟨hp, ?_⟩) (hb.frame (· ∈ before)), fun _ => ?_⟩
  · rw [hps, List.mem_append] at hp
    exact Or.inr hp
  · obtain ⟨_, _, _, _, _, hz, hn⟩ := hW
    refine ⟨hok, _, _, ([] ++ pa) ++ pv, ⟨[] ++ pa, pv, trodAll_append (hargs _ (fun _ _ => rfl)) (hres _ _ _), hvars _ (fun _ _ => rfl), rfl, ?_, ?_⟩, ?_⟩
    · intro b off hp
      have hin : MemPlace.cell b off ∈ before := by rw [hps]; simpa using hp
      rw [hb.frozen (hlt _ hin)]
      exact hz b off hin
    · intro ha
      have := hn ha
      rw [hps] at this
      simpa using this
    · intro p hp _
      rw [hps]
      simpa using hp
end
theorem below_of_grow {w w' : World} (h : Grow w w') : Below w.heap.size w w' := ⟨h.os, h.tape, h.output, h.size, fun k hk => h.block k hk (fun e => e)⟩
theorem own : ownKnob Tryz.prog.godebug = none := by kernel_rfl
theorem gTab : PR.globalNamed "internal/strconv.uint64pow10" = some 1 := by kernel_rfl
theorem gTabType : (PR.globals[1]?).map (·.type) = some 134 := by kernel_rfl
theorem u_u64 : PR.underlying T.uint64 = some (.int .u64) := by kernel_rfl
theorem u_tab : PR.underlying 134 = some (.array 20 T.uint64) := by kernel_rfl
theorem c_u64 : PR.cellsOf T.uint64 = 1 := by kernel_rfl
theorem c_tab : PR.cellsOf 134 = 20 := by kernel_rfl
theorem u3 : PR.underlying T.int = some (.int .i64) := by kernel_rfl
theorem c3 : PR.cellsOf T.int = 1 := by kernel_rfl
theorem u4 : PR.underlying T.bool = some .bool := by kernel_rfl
theorem u5 : PR.underlying T.uint8 = some (.int .u8) := by kernel_rfl
theorem uSl : PR.underlying T.sl_int = some (.slice T.int) := by kernel_rfl
theorem params3 : Tryz.f3.params = #[T.sl_int, T.uint8, T.bool] := by kernel_rfl
theorem lay : laidOutB Tryz.prog = true := by kernel_rfl
theorem recSl : Tryz.prog.readableRec T.sl_int = true := by kernel_rfl
theorem gErr : Tryz.prog.globalNamed "errors.errorType" = some 0 := by kernel_rfl
theorem rt : (Tryz.prog.cutTypes.find? (·.1 == "internal/reflectlite.rtype")).map (·.2) = some 103 := by kernel_rfl
theorem oneRow : ((List.range 188).filter fun t => Tryz.prog.rowNamed t [101, 114, 114, 111, 114]) = [28] := by kernel_rfl
theorem tsize : Tryz.prog.types.size = 188 := by kernel_rfl
theorem errT_of {W : World} (h : laidMetH Tryz.prog Rows.linesTellRow.laid W) : ErrT W := by
  obtain ⟨_, h2⟩ := laidMetH_iff.1 h
  obtain ⟨name, u, ty, e1, e2, e3, e4, e5⟩ := h2 ("errors.errorType", Rows.laid_errors_errorType) (by
    refine List.mem_filter.2 ⟨?_, rfl⟩
    exact .tail _ (.tail _ (.tail _ (.tail _ (.head _)))))
  have en : name = [101, 114, 114, 111, 114] := (Option.some.inj e1).symm
  subst en
  obtain rfl := Option.some.inj (rt.symm.trans e2)
  have hm : ty ∈ (List.range 188).filter fun t => Tryz.prog.rowNamed t [101, 114, 114, 111, 114] := List.mem_filter.2 ⟨List.mem_range.2 (by rw [← tsize]; exact e3), e4⟩
  rw [oneRow] at hm
  obtain rfl := List.mem_singleton.1 hm
  have hh : typeHandle Tryz.prog 28 = .pointer (some ⟨9, 28, none⟩) := by kernel_rfl
  rw [hh] at e5
  have := World.var?_cell gErr e5 0
  unfold ErrT
  simpa using this
theorem tab_of {W : World} (h : laidMetH Tryz.prog Rows.linesTellRow.laid W) : Tab W := by
  have h1 := (laidMetH_iff.1 h).1
  have e : (Rows.linesTellRow.laid.filter fun x => x.2.handleName?.isNone) = [("math/bits.deBruijn32tab", Rows.laid_math_bits_deBruijn32tab), ("math/bits.deBruijn64tab", Rows.laid_math_bits_deBruijn64tab), ("internal/strconv.uint64pow10", Rows.laid_internal_strconv_uint64pow10), ("unicode/utf8.acceptRanges", Rows.laid_unicode_utf8_acceptRanges), ("strconv.ErrRange", Rows.laid_strconv_ErrRange), ("strconv.ErrSyntax", Rows.laid_strconv_ErrSyntax), ("unicode/utf8.first", Rows.laid_unicode_utf8_first)] := rfl
  rw [e] at h1
  exact Lib.tabIs_of_head (k := .u64) (zs := Lib.pow10Tab) gTab gTabType u_tab u_u64 c_u64 c_tab h1.tail.tail
theorem contract (H : Type) (enc : TypeId × Value → H) (W : World) (base : Nat) (args : Array Value) (ds gs : List (DataW H)) (before : List MemPlace)
    (hval : ∀ (j : Nat) t v, Tryz.f3.params[j]? = some t → args[j]? = some v → Value.okWide Tryz.prog W .any base t v)
    (hW : DataW.Whole enc Tryz.prog Tryz.f3.params.toList Rows.linesTellSpec.vars false W args.toList ds gs before) (hL : laidMetH Tryz.prog Rows.linesTellRow.laid W) (hsh : W.ShapedOpen Tryz.prog) :
    Calls Tryz.prog 3 args W fun e W' => ∃ v, e = .returned v ∧ Rows.linesTellSpec.post enc Tryz.prog Tryz.f3 false true false false W args v W' := by
  have hW' := hW
  obtain ⟨p, q, hA0, hV, rfl, hfz, hnd⟩ := hW
  have hA : DataW.TrodAll enc Tryz.prog W 0 (fun _ => true) true Tryz.f3.params.toList args.toList ds p := hA0
  rw [params3] at hA hval
  obtain ⟨v0, vs0, d0, ds0, p0, q0, hargs, rfl, rfl, h0, r0⟩ := trodAll_cons hA
  obtain ⟨v1, vs1, d1, ds1, p1, q1, rfl, rfl, rfl, h1, r1⟩ := trodAll_cons r0
  obtain ⟨v2, vs2, d2, ds2, p2, q2, rfl, rfl, rfl, h2, r2⟩ := trodAll_cons r1
  obtain ⟨rfl, rfl, rfl⟩ := trodAll_nil r2
  obtain rfl : args = #[v0, v1, v2] := by cases args; simp_all
  obtain ⟨rfl, rfl⟩ := trodVars_none hV
  obtain ⟨code, rfl, rfl, rfl, wc⟩ := open_int u5 (hval 1 _ _ rfl rfl) h1
  obtain ⟨deep, rfl, rfl, rfl⟩ := open_bool u4 (hval 2 _ _ rfl rfl) h2
  obtain ⟨c0, c1⟩ := bounds_u8 wc
  have h0k := h0
  obtain ⟨q, ns, c, rfl, sn⟩ : ∃ (q : Option Addr) (ns : List Int) (c : Nat), v0 = .slice q ns.length c ∧ Sl W q (ns.map iv) := by
    obtain ⟨fuel, hf⟩ := h0
    obtain ⟨q, l, c, rfl⟩ := okWide_slice uSl (hval 0 _ _ rfl rfl)
    rcases open_ints uSl u3 c3 hf with ⟨e, _⟩ | ⟨a, len, cap, zs, e, _, hlc, _, hz, _, hc, _⟩
    · cases e
      exact ⟨none, [], 0, rfl, .inl rfl⟩
    · cases e
      simp only [if_true] at hz
      refine ⟨some a, zs.take l, c, by rw [List.length_take, Nat.min_eq_left (by omega)], sl_of_cells fun i hi => ?_⟩
      simp only [List.length_map, List.length_take] at hi
      rw [hc i (by omega)]
      have hi' : i < zs.length := by omega
      simp [hi', iv, List.getElem?_take, show i < l by omega]
  obtain ⟨m, hm⟩ := Tryz.laysM146.s1_3 W hsh
  have hm' : ∀ w', Grow W w' → w'.cell? ⟨G.internal_bytealg_MaxLen, 0, none⟩ = some (.int .i64 m) := fun w' g => cell_grow g hm
  have hl0 : ∀ x ∈ p0, x.block < W.heap.size := fun x hx => hW'.lt x (by simp [hx])
  have fin : ∀ W', Grow W W' → Rows.linesTellSpec.post enc Tryz.prog Tryz.f3 false true false false W #[.slice q ns.length c, .int .u8 code, .bool deep] (.bool true) W' := fun W' g => by
    have hb := below_of_grow g
    refine post_of_below (pa := p0 ++ ([] ++ ([] ++ []))) (pv := []) hW' (fun _ _ _ => trodAll_cons_mk (shut_bool u4 _) trodAll_mk0)
      (fun sp hsp => ?_) (fun _ _ => rfl) (by simp) hb (ok_one (by kernel_rfl) rfl (okWide_bool_mk u4 _))
    rw [params3]
    exact trodAll_cons_mk (WideElems.Trod_stays lay recSl (of_decide_eq_true (by kernel_rfl)) h0k (fun x hx => hb.same (hl0 x hx)) (fun x hx => hsp x (by simp [hx])))
      (trodAll_cons_mk (shut_int u5 wc) (trodAll_cons_mk (shut_bool u4 _) trodAll_mk0))
  cases deep with
  | false => exact tell_spec_f (tab_of hL) (errT_of hL) hm' sn rfl c0 c1 fin
  | true => exact tell_spec_t (tab_of hL) (errT_of hL) hm' sn rfl c0 c1 fin
end Go.Vc
