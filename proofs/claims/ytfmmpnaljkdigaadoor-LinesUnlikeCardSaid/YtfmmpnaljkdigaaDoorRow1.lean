/-
  An event, opened from its reading. By an AI agent.
-/
import Derived.Test.YtfmmpnaljkdigaaDoorLin6
import Derived.OpenShut
import Derived.KernelRfl
import Derived.Deep.SlicePairs
import Derived.Deep.Grids
import Derived.ChangeArms
import Derived.WideShapes
set_option linter.unusedSimpArgs false
set_option maxRecDepth 100000
set_option linter.unusedVariables false
namespace Go.Vc
open Go Go.ChangeShapes Go.WideShapes Go.Deep
/-! ## An event, opened -/
noncomputable def flds (t : TypeId) : Option (List (Nat × Nat)) := match PR.underlying t with
  | some (.struct fs) => some (fs.toList.map fun f => (f.type, f.offset))
  | _ => none
theorem flds_ev : flds 26 = some [(3, 0), (22, 1), (23, 6), (9, 7), (24, 8)] := by kernel_rfl
theorem flds_ed : flds 54 = some [(3, 0), (3, 1)] := by kernel_rfl
theorem flds_of {t : TypeId} {l : List (Nat × Nat)} (h : flds t = some l) : ∃ fs : Array Field, PR.underlying t = some (.struct fs) ∧ fs.toList.map (fun f => (f.type, f.offset)) = l := by
  unfold flds at h
  split at h
  · rename_i fs hfs
    exact ⟨fs, hfs, Option.some.inj h⟩
  · cases h
theorem flds_at {fs : Array Field} {l : List (Nat × Nat)} (h : fs.toList.map (fun f => (f.type, f.offset)) = l) {i : Nat} {x : Nat × Nat} (hi : l[i]? = some x) : ∃ f, fs[i]? = some f ∧ f.type = x.1 ∧ f.offset = x.2 := by
  rw [← h, List.getElem?_map] at hi
  rw [← Array.getElem?_toList]
  cases hf : fs.toList[i]? with
  | none => rw [hf] at hi; cases hi
  | some f => rw [hf] at hi; cases hi; exact ⟨f, rfl, rfl, rfl⟩
theorem u3 : PR.underlying 3 = some (.int .i64) := by kernel_rfl
theorem u22 : PR.underlying 22 = some (.array 5 3) := by kernel_rfl
theorem u23 : PR.underlying 23 = some (.slice 54) := by kernel_rfl
theorem u9 : PR.underlying 9 = some .string := by kernel_rfl
theorem u24 : PR.underlying 24 = some (.slice 4) := by kernel_rfl
theorem u4 : PR.underlying 4 = some .bool := by kernel_rfl
theorem c3 : PR.cellsOf 3 = 1 := by kernel_rfl
theorem c22 : PR.cellsOf 22 = 5 := by kernel_rfl
theorem c23 : PR.cellsOf 23 = 1 := by kernel_rfl
theorem c9 : PR.cellsOf 9 = 1 := by kernel_rfl
theorem c24 : PR.cellsOf 24 = 1 := by kernel_rfl
theorem c4 : PR.cellsOf 4 = 1 := by kernel_rfl
theorem c54 : PR.cellsOf 54 = 2 := by kernel_rfl
theorem c26 : PR.cellsOf 26 = 9 := by kernel_rfl
theorem sl_of_cells {w : World} {a : Addr} {xs : List Value} (h : ∀ i, i < xs.length → w.cell? (a.add i) = xs[i]?) : Sl w (some a) xs := by
  cases xs with
  | nil => exact .inl rfl
  | cons x xs =>
    right
    have h0 := h 0 (by simp)
    have h0' : w.cell? a = some x := by simpa [Addr.add] using h0
    have hs := World.cell?_spot h0'
    obtain ⟨b, o, sp⟩ := a
    simp only at hs
    subst hs
    refine ⟨b, o, rfl, ?_⟩
    unfold World.cell? at h0'
    cases hb : w.heap[b]? with
    | none => simp [hb] at h0'
    | some ob =>
      cases ob with
      | cells cs T fz =>
        refine ⟨cs, T, fz, hb, fun i hi => ?_⟩
        have hh := h i hi
        have e : w.cell? ((⟨b, o, none⟩ : Addr).add i) = cs[o + i]? := by
          by_cases hi0 : i = 0
          · subst hi0; simp [Addr.add, World.cell?, hb]
          · simp [Addr.add, hi0, World.cell?, hb]
        rw [← e, hh]
      | _ => simp [hb] at h0'
theorem slice_event {H : Type} {enc : TypeId × Value → H} {w : World} {base fuel : Nat} {held : Bool} {v : Value} {x : DataW H × List MemPlace}
    (h : DataW.trod enc PR w base (fun _ => true) held fuel 23 [v] = some x) : ∃ (q : Option Addr) (es : List (Int × Int)) (c : Nat), v = .slice q es.length c ∧ Sl w q (ecs es) := by
  obtain ⟨fs, hu, hl⟩ := flds_of flds_ed
  obtain ⟨l⟩ := fs
  match l, hl with
  | [f0, f1], hl =>
    simp only [List.map_cons, List.map_nil, List.cons.injEq, Prod.mk.injEq, and_true] at hl
    obtain ⟨⟨t0, o0⟩, t1, o1⟩ := hl
    rcases open_slice_pairs u23 hu c54 o0 o1 (by rw [t0]; exact c3) (by rw [t1]; exact c3) h with ⟨e, _⟩ | ⟨a, len, cap, m, n, V0, V1, D0, D1, P0, P1, e, _, hlc, _, hm, _, hc⟩
    · cases e
      exact ⟨none, [], 0, rfl, .inl rfl⟩
    · cases e
      simp only [if_true] at hm
      subst hm
      have each : ∀ i, i < len → ∃ q : Int × Int, w.cell? (a.add (i * 2)) = some (iv q.1) ∧ w.cell? (a.add (i * 2 + 1)) = some (iv q.2) := by
        intro i hi
        obtain ⟨h1, h2, h3, h4⟩ := hc i (by omega)
        rw [t0] at h3; rw [t1] at h4
        obtain ⟨n0, e0, _, _⟩ := DataW.trod_int u3 h3
        obtain ⟨n1, e1, _, _⟩ := DataW.trod_int u3 h4
        have e0 : V0 i = .int .i64 n0 := by simpa using e0
        have e1 : V1 i = .int .i64 n1 := by simpa using e1
        exact ⟨(n0, n1), by rw [h1, e0]; rfl, by rw [h2, e1]; rfl⟩
      obtain ⟨q, hq⟩ := choose_lt each
      refine ⟨some a, (List.range len).map q, m, by simp, sl_of_cells fun i hi => ?_⟩
      rw [ecs_len] at hi
      simp only [List.length_map, List.length_range] at hi
      have hdiv : i = 2 * (i / 2) ∨ i = 2 * (i / 2) + 1 := by omega
      have hk : i / 2 < len := by omega
      obtain ⟨g0, g1⟩ := hq (i / 2) hk
      obtain ⟨k0, k1⟩ := ecs_get ((List.range len).map q) (i / 2)
      have hr : ((List.range len).map q)[i / 2]? = some (q (i / 2)) := by simp [hk]
      rw [hr] at k0 k1
      rcases hdiv with e | e
      · rw [Nat.mul_comm, ← e] at g0
        rw [← e] at k0
        rw [g0, k0]; rfl
      · rw [Nat.mul_comm, ← e] at g1
        rw [← e] at k1
        rw [g1, k1]; rfl
theorem slice_keep {H : Type} {enc : TypeId × Value → H} {w : World} {base fuel : Nat} {held : Bool} {v : Value} {x : DataW H × List MemPlace}
    (h : DataW.trod enc PR w base (fun _ => true) held fuel 24 [v] = some x) : ∃ (q : Option Addr) (bs : List Bool) (c : Nat), v = .slice q bs.length c ∧ Sl w q (bs.map .bool) := by
  rcases open_bools u24 u4 c4 h with ⟨e, _⟩ | ⟨a, len, cap, B, e, _, hlc, _, _, hc⟩
  · cases e
    exact ⟨none, [], 0, rfl, .inl rfl⟩
  · cases e
    refine ⟨some a, (List.range len).map B, cap, by simp, sl_of_cells fun i hi => ?_⟩
    simp only [List.length_map, List.length_range] at hi
    rw [hc i (by omega)]
    simp [hi]
theorem open_event {H : Type} {enc : TypeId × Value → H} {r : Reach} {b0 : Nat} {w : World} {base : Nat} {held : Bool} {v : Value} {d : DataW H} {ps : List MemPlace}
    (hval : Value.okWide PR w r b0 26 v) (h : DataW.Trod enc PR w base (fun _ => true) held 26 v d ps) :
    ∃ (a : Ev) (qe qk : Option Addr) (ce ck : Nat), v = .agg #[.int .i64 a.k, .int .i64 a.a1, .int .i64 a.a2, .int .i64 a.a3, .int .i64 a.a4, .int .i64 a.a5, .slice qe a.es.length ce, .string a.s, .slice qk a.bs.length ck] ∧
      Sl w qe (ecs a.es) ∧ Sl w qk (a.bs.map .bool) := by
  obtain ⟨fs, hu, hl⟩ := flds_of flds_ev
  obtain ⟨cs, rfl, hsz⟩ := okWide_struct hu hval
  rw [c26] at hsz
  obtain ⟨l⟩ := cs
  match l, hsz with
  | [v0, v1, v2, v3, v4, v5, v6, v7, v8], _ =>
    obtain ⟨fuel, hf⟩ := h
    obtain ⟨xs, n, _, _, _, hxl, hg⟩ := DataW.trod_struct hu hf
    have hfl : fs.size = 5 := by have := congrArg List.length hl; simpa using this
    obtain ⟨f0, g0, t0, o0⟩ := flds_at hl (i := 0) rfl
    obtain ⟨f1, g1, t1, o1⟩ := flds_at hl (i := 1) rfl
    obtain ⟨f2, g2, t2, o2⟩ := flds_at hl (i := 2) rfl
    obtain ⟨f3, g3, t3, o3⟩ := flds_at hl (i := 3) rfl
    obtain ⟨f4, g4, t4, o4⟩ := flds_at hl (i := 4) rfl
    have h0 := hg 0 f0 g0
    have h1 := hg 1 f1 g1
    have h2 := hg 2 f2 g2
    have h3 := hg 3 f3 g3
    have h4 := hg 4 f4 g4
    rw [t0, o0, show PR.cellsOf (3, 0).1 = 1 from c3] at h0
    rw [t1, o1, show PR.cellsOf (22, 1).1 = 5 from c22] at h1
    rw [t2, o2, show PR.cellsOf (23, 6).1 = 1 from c23] at h2
    rw [t3, o3, show PR.cellsOf (9, 7).1 = 1 from c9] at h3
    rw [t4, o4, show PR.cellsOf (24, 8).1 = 1 from c24] at h4
    have sm : ∀ {t : TypeId} {l : List Value} {i m : Nat}, DataW.trod enc PR w base (fun _ => true) held m t l = xs[i]? → i < 5 → ∃ x, DataW.trod enc PR w base (fun _ => true) held m t l = some x := fun {t l i m} h hi => ⟨_, h.trans (List.getElem?_eq_getElem (by omega))⟩
    obtain ⟨y0, h0⟩ := sm h0 (by omega)
    obtain ⟨y1, h1⟩ := sm h1 (by omega)
    obtain ⟨y2, h2⟩ := sm h2 (by omega)
    obtain ⟨y3, h3⟩ := sm h3 (by omega)
    obtain ⟨y4, h4⟩ := sm h4 (by omega)
    obtain ⟨k, e0, _, _⟩ := DataW.trod_int u3 h0
    obtain ⟨zs, m, _, _, hzl, hz5, hz⟩ := DataW.trod_array u22 h1
    have hz : ∀ i, i < 5 → ∃ n, (((((Value.agg ⟨[v0, v1, v2, v3, v4, v5, v6, v7, v8]⟩).cells.toList.drop (22, 1).2).take 5).drop i).take 1) = [Value.int .i64 n] := by
      intro i hi
      have hh := hz i hi
      rw [c3, Nat.mul_one] at hh
      obtain ⟨n, e, _, _⟩ := DataW.trod_int u3 (hh.trans (List.getElem?_eq_getElem (by omega)))
      exact ⟨n, e⟩
    obtain ⟨a1, e1⟩ := hz 0 (by omega)
    obtain ⟨a2, e2⟩ := hz 1 (by omega)
    obtain ⟨a3, e3⟩ := hz 2 (by omega)
    obtain ⟨a4, e4⟩ := hz 3 (by omega)
    obtain ⟨a5, e5⟩ := hz 4 (by omega)
    obtain ⟨qe, es, ce, e6, s6⟩ := slice_event (v := v6) h2
    obtain ⟨s, e7, _, _⟩ := DataW.trod_string u9 h3
    obtain ⟨qk, bs, ck, e8, s8⟩ := slice_keep (v := v8) h4
    obtain rfl : v0 = .int .i64 k := (List.cons.inj e0).1
    obtain rfl : v1 = .int .i64 a1 := (List.cons.inj e1).1
    obtain rfl : v2 = .int .i64 a2 := (List.cons.inj e2).1
    obtain rfl : v3 = .int .i64 a3 := (List.cons.inj e3).1
    obtain rfl : v4 = .int .i64 a4 := (List.cons.inj e4).1
    obtain rfl : v5 = .int .i64 a5 := (List.cons.inj e5).1
    obtain rfl : v7 = .string s := (List.cons.inj e7).1
    subst e6 e8
    exact ⟨⟨k, a1, a2, a3, a4, a5, es, s, bs⟩, qe, qk, ce, ck, rfl, s6, s8⟩
end Go.Vc
