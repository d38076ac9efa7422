/-
  A part of the proof of the statement PubRefusesSaid, in Lean: Pb3, La1, La2, Rw1, Rw2. By an AI agent.
-/
import Derived.Test.YtjfpofjppjaofaaGreatP10
import Derived.OpenShut
import Derived.KernelRfl
import Derived.Deep.SlicePairs
import Derived.Deep.Grids
import Derived.ChangeArms
import Derived.WideShapes
import Derived.Test.YtjfpofjppjaofaaGreatRows
import Derived.WalkKit
import Derived.ProofKit
import Derived.Below
import Derived.ChangeSame
import Derived.Carry
import Derived.MakeChecks
import Derived.Stop.LaidErr
import Derived.Deep.DeepHandedRow
import Derived.Deep.DeepWitnessRowRef
import Derived.Lib.LaidTab
import Derived.Lib.LaidIn
set_option linter.unusedSimpArgs false
set_option linter.unusedVariables false
set_option maxRecDepth 1000000
/-! A part of the proof that two events of one line are one event: the calculus that follows known memory by computing, and its soundness. By an AI agent. -/

namespace Go.Vc
open Go Go.MapKept
/-! ## a graph is published, a version committed -/
/-- the record of a version -/
def recV (mn : Man) (list : List (List UInt8)) : List UInt8 := [86] ++ putTextL [putMan mn] ++ list.flatten
def recC (n : Nat) : List UInt8 := [67] ++ putShort n
theorem sum_le_len (l : List (List UInt8)) (k : Nat) (h : ∀ x ∈ l, x.length ≤ k) : l.flatten.length ≤ k * l.length := by
  induction l with
  | nil => simp
  | cons a l ih =>
    have h1 := ih fun x hx => h x (List.mem_cons_of_mem _ hx)
    have h2 := h a List.mem_cons_self
    rw [List.flatten_cons, List.length_append, List.length_cons, Nat.mul_add]; omega
theorem putText1 (s : List UInt8) : putTextL [s] = putShort s.length ++ s := by simp [putTextL]
theorem str86 : (⟨#[86]⟩ : ByteArray) = str [86] := rfl
theorem str67 : (⟨#[67]⟩ : ByteArray) = str [67] := rfl
theorem putShort_le (n : Nat) (h : n ≤ 72057594037927935) : (putShort n).length ≤ 8 := by
  have := shorts_len (l := [(n : Int)]) (by simp; omega)
  simpa [shorts] using this
/-- there is surely room for it -/
def snug (x : PubS) (nodes : Int) (l : List (Int × Int)) : Prop := roomy nodes x.each l ∧ 2700 + 9 * nodes + 8 * l.length ≤ 60000 ∧ 2700 + 9 * nodes + 8 * l.length ≤ x.room
theorem jrn_next {w w' : World} {x : PubS} {q' : Option Addr} (hq : ∀ a, q' = some a → x.q = some a ∨ w.heap.size ≤ a.block) : ∀ k, (k = x.p ∨ k = x.m ∨ jrnS x.bj x.bd q' k) → x.reg k ∨ w.heap.size ≤ k := by
  rintro k (rfl | rfl | rfl | rfl | ⟨a, ha, rfl⟩)
  · exact .inl (.inl rfl)
  · exact .inl (.inr (.inl rfl))
  · exact .inl (.inr (.inr (.inl rfl)))
  · exact .inl (.inr (.inr (.inr (.inl rfl))))
  · rcases hq a ha with h | h
    · exact .inl (.inr (.inr (.inr (.inr ⟨a, h, rfl⟩))))
    · exact .inr h
theorem Publish_spec {N : Nat} {w : World} {x : PubS} (h : PubAt N w x) (hN : N ≤ w.heap.size) {nodes : Int} {l : List (Int × Int)} {y : Option Addr} {n cy : Nat} (hs : Sl w y (encE l)) (hl : n = l.length) (hn : n ≤ 100000) {K : Value → World → Prop}
    (h1 : ∀ w' x', PubAt N w' x' → Chg x.reg w w' → x'.p = x.p → x'.bd = x.bd → x'.each = x.each → x'.last = x.last + 1 → x'.com = x.com → x'.room < x.room → (x.room : Int) ≤ x'.room + 2700 + 9 * nodes + 8 * l.length → (∀ k, x'.reg k → x.reg k ∨ w.heap.size ≤ k) → goodG nodes l → K (.tuple #[.int .i64 x'.last, .nilIface]) w')
    (h2 : ∀ w' v, Grow w w' → PubAt N w' x → isErr v → ¬ snug x nodes l → K (.tuple #[.int .i64 0, v]) w') :
    CallV PR F.p_pub_Pub_Publish ⟨[.pointer (some ⟨x.p, 0, none⟩), .int .i64 nodes, .slice y n cy]⟩ w K := by
  obtain ⟨hsl, hsc, hsr⟩ := h.small
  have hlt := h.lt
  have h0 : Fs x.reg w [⟨x.p, pubC x.bj x.each x.last x.com x.m, T.pub_Pub, true⟩] w := (Fr.init _ w).entry h.blk (fun x h => by cases h) fun _ => .inl rfl
  refine pub_Pub_Publish x.p (some ⟨x.bj, 0, none⟩) x.each x.last x.com (some x.m) nodes y n cy x.reg K w h0 ⟨.inl rfl, trivial⟩ fun w0 hF0 => ?_
  have g0 : Grow w w0 := hF0.grow
  refine ⟨fun _ => True, trivial, ?_⟩
  have e1 : IntKind.wrap .i64 ((x.last : Int) + 1) = ((x.last + 1 : Nat) : Int) := by rw [w64 (by omega) (by omega)]; omega
  rw [e1]
  refine Make_spec (version := ((x.last + 1 : Nat) : Int)) h.each1 h.each2 (hs.grow g0) hl hn (fun w1 b mn list g1 hbl hv hL hmv hfl hgg => ?_) fun w1 v g1 hv hbad => ?_
  · have g01 := g0.trans g1
    have hF1 := hF0.reset.after g1
    refine ⟨_, _, rfl, hF1, trivial, fun _ => ?_, (fun t x h => by cases h), .inl rfl⟩
    have hv1 : VerO x.reg w1 b mn list := hv.keep (.refl (fun _ => False) _) (fun _ _ e => e.elim) fun k _ e => by have := hlt k e; have := g0.size; omega
    obtain ⟨qm, cm, ql, cl, hb1, hb0, hq1, hq2, hlc⟩ := id hv1
    have hcell : ∀ {w' : World}, Grow w1 w' → ∀ k v, (verC mn qm cm list ql cl)[k]? = some v → w'.cell? ⟨b, k, none⟩ = some v := fun g k v hv => by
      rw [cell_blk (Grow.get g hb1)]; exact hv
    have hmn := putMan_len hL.ok
    have hbl2 := hL.ok.blocks.2
    have hbe := hL.blocks
    have hps : (putShort (putMan mn).length).length ≤ 8 := putShort_le _ (by omega)
    have hfl2 : list.flatten.length ≤ 200000 := by
      have := sum_le_len list 64 hL.small
      omega
    refine Dr_some.2 (Dr_some.2 (Dr_some.2 ⟨mn.version, by rw [add_mk, add_mk]; exact hcell (.refl _ _) 0 _ rfl, mn.nodes, by rw [add_mk, add_mk]; exact hcell (.refl _ _) 1 _ rfl, mn.edges, by rw [add_mk, add_mk]; exact hcell (.refl _ _) 2 _ rfl, qm, mn.shards.length, cm, by rw [add_mk, add_mk]; exact hcell (.refl _ _) 3 _ rfl, mn.blocks, by rw [add_mk, add_mk]; exact hcell (.refl _ _) 4 _ rfl, str mn.root, by rw [add_mk, add_mk]; exact hcell (.refl _ _) 5 _ rfl, ?_⟩))
    refine MPut_ok hL.ok hq1.sl fun w2 g2 => ⟨_, _, rfl, hF1.after g2, fun w3 hF3 => ?_⟩
    have g3 : Grow w2 w3 := hF3.grow
    refine ⟨fun w' => w'.cell? ⟨b, 6, none⟩ = some (.slice ql list.length cl), hcell (g2.trans g3) 6 _ rfl, Dr_some.2 (Dr_some.2 (Dr_some.2 ⟨_, _, _, fun w4 h => by rw [add_mk]; exact h, fun l4 hl4 w5 hF5 => ?_⟩))⟩
    have g5 : Grow w3 w5 := hF5.grow
    have g15 : Grow w1 w5 := (g2.trans g3).trans g5
    refine ⟨hcell g15 6 _ rfl, ?_⟩
    have hsl5 : Sl w5 (some ⟨l4, 0, none⟩) ([putMan mn].map sv8') := .inr ⟨l4, 0, rfl, _, _, _, hF5.blk 1 rfl, fun i hi => by
      have : i = 0 := by simpa using hi
      subst this; rfl⟩
    have hptl : (putTextL [putMan mn]).length ≤ 1208 := by rw [putText1, List.length_append]; omega
    refine PutText_spec hsl5 rfl (by simp) (by omega) fun w6 g6 => ⟨_, rfl, hF5.after g6, hcell (g15.trans g6) 6 _ rfl, by rw [str_size]; omega, ?_⟩
    refine Join0_spec (hq2.sl.grow (g15.trans g6)) rfl hlc (by omega) (by omega) fun w7 g7 => ⟨_, rfl, (hF5.after g6).after g7, hcell ((g15.trans g6).trans g7) 6 _ rfl, by rw [str86, str_append, str_size, str_size, List.length_append, List.length_singleton]; omega, ?_⟩
    rw [str86, str_append, str_append]
    have g17 := (g15.trans g6).trans g7
    have g07 := g01.trans g17
    have hF7 := (hF5.after g6).after g7
    have hp7 := h.grow g07
    have hrl : (recV mn list).length = 1 + (putTextL [putMan mn]).length + list.flatten.length := by simp [recV]; omega
    have hF7' : Fs x.reg w [⟨x.p, pubC x.bj x.each x.last x.com x.m, T.pub_Pub, true⟩] w7 := hF7.sub (List.Sublist.cons_cons _ (List.nil_sublist _))
    have hl4 : w.heap.size ≤ l4 := by have := g01.size; have := g2.size; have := g3.size; omega
    refine write_spec (s := recV mn list) hp7.blk hp7.jrn h.room hsr (by omega) (fun hs1 hs2 w8 q' c' hj8 g8 hq' => ?_) fun hno => ?_
    · have hpub := hp7.jrn.pub hp7.blk
      obtain ⟨nm, hm⟩ := hp7.map
      have hmj := hp7.jrn.mapb hm
      have hF8 := hF7.step g8 (fun z hz => by
        rcases List.mem_cons.1 hz with rfl | hz
        · exact hpub
        · simp at hz; subst hz
          exact fun e => by have := hlt _ (.inr (.inr e)); simp only [] at this; omega) (fun k _ e => .inr (.inr e))
      have hb8 : ¬ jrnS x.bj x.bd x.q b := fun e => hb0 (.inr (.inr e))
      have hv7 : VerO x.reg w7 b mn list := hv1.keep g17 (fun _ _ e => e.elim) (fun _ _ e => e)
      have hv8 : VerO x.reg w8 b mn list := hv7.keep g8 (fun _ _ e => .inr (.inr e)) (fun _ _ e => e)
      have hc8 : w8.cell? ⟨b, 6, none⟩ = some (.slice ql list.length cl) := by
        rw [cell_blk (g8.get (Grow.get g17 hb1) hb8)]; rfl
      refine ⟨_, rfl, _, _, _, _, _, hF8, hc8, fun _ => ?_, (fun t x h => by cases h), .inl rfl⟩
      have hb8' := g8.get hp7.blk hpub
      have hm8 := hm.keep g8 hmj
      refine show_spec (ver := x.last + 1) (mn := mn) (list := list) hb8' hm8 h.shown (hv8.keep (.refl (fun _ => False) _) (fun _ _ e => e.elim) (fun k _ e => e.elim .inl fun e => .inr (.inl e))) hL hmv (by omega) fun w9 cc n9 g9 hb9 hm9 => ?_
      have hF8' : Fs x.reg w [⟨x.p, pubC x.bj x.each x.last x.com x.m, T.pub_Pub, true⟩] w8 := hF8.sub (List.Sublist.cons_cons _ (List.nil_sublist _))
      have hF9 : Fs x.reg w [⟨x.p, pubC x.bj x.each ((x.last + 1 : Nat) : Int) x.com x.m, T.pub_Pub, true⟩] w9 := hF8'.mod g9 hb9 (fun z hz => by cases hz) fun k _ e => e.elim .inl fun e => .inr (.inl e)
      refine ⟨rfl, _, _, _, _, _, hF9, ?_⟩
      have hv9 : VerO x.reg w9 b mn list := hv8.keep g9 (fun k _ e => e.elim .inl fun e => .inr (.inl e)) (fun _ _ e => e)
      have hc9 : w9.cell? ⟨b, 0, none⟩ = some (.int .i64 ((x.last + 1 : Nat) : Int)) := by
        obtain ⟨q9, c9, ql9, cl9, h9, _⟩ := hv9
        rw [cell_blk h9, ← hmv]; rfl
      refine Dr_some.2 (Dr_some.2 (Dr_some.2 (Dr_some.2 ⟨_, hc9, ?_⟩)))
      have hqn : ∀ a, q' = some a → x.q = some a ∨ w.heap.size ≤ a.block := fun a ha => (hq' a ha).imp id fun h => Nat.le_trans g07.size h
      have hreg := jrn_next (w' := w9) hqn
      have hmj8 : ¬ (fun k => k = x.p ∨ k = x.m) x.bj := by
        rintro (e | e)
        · exact hpub (.inl e.symm)
        · exact hmj (.inl e.symm)
      have hj9 : JrnAt w9 x.bj x.bd q' c' (x.recs ++ [recV mn list]) := hj8.keep g9 fun k e hk => by
        rcases e with rfl | rfl
        · exact hj8.pub hb8' hk
        · exact hj8.mapb hm8 hk
      let x' : PubS := ⟨x.p, x.bj, x.bd, x.m, x.each, q', c', x.last + 1, x.com, x.recs ++ [recV mn list], fun k v => updR x.R (.int .i64 ((x.last + 1 : Nat) : Int)) (.agg #[.pointer (some ⟨b, 0, none⟩), .pointer (some ⟨cc, 0, none⟩)]) k v ∧ ¬ delP ((x.last + 1 : Nat) : Int) x.com k⟩
      have hlog : (logL (x.recs ++ [recV mn list])).length = (logL x.recs).length + (recV mn list).length + 6 := by
        rw [logL_snoc, List.length_append, sealL_len]; omega
      have hreg8 : ∀ k, k < w8.heap.size → x'.reg k → x.reg k ∨ w7.heap.size ≤ k := fun k _ e => by
        rcases jrn_next (w := w7) (w' := w9) hq' k e with h | h
        · exact .inl h
        · exact .inr h
      -- versions that were known lie in blocks of before
      have kept7 : ∀ k v, x.R k v → KeptAt x.reg w7 x.last k v := hp7.kept
      have keep9 : ∀ {b mn list}, VerO x.reg w7 b mn list → VerO x'.reg w9 b mn list := fun hv => by
        have a8 : VerO (fun k => k = x.p ∨ k = x.m ∨ jrnS x.bj x.bd q' k) w8 _ _ _ := hv.keep g8 (fun _ _ e => .inr (.inr e)) (fun k hk e => (jrn_next (w := w7) (w' := w8) hq' k e).elim id fun h => by omega)
        exact a8.keep g9 (fun k _ e => e.elim .inl fun e => .inr (.inl e)) (fun _ _ e => e)
      refine h1 w9 x' ⟨hb9, hj9, ⟨n9, hm9⟩, ?_, ?_, by show x.com ≤ x.last + 1; have := h.com_le; omega, by show x.last + 1 ≤ _; rw [List.length_append, List.length_singleton]; have := h.last_le; omega, by show (logL _).length ≤ _; rw [hlog]; omega, h.each1, h.each2, fun k hk => ?_⟩ hF9.chg rfl rfl rfl rfl rfl ?_ ?_ hreg hgg
      · rintro k v ⟨hr, _⟩
        rcases hr with ⟨rfl, rfl⟩ | ⟨hne, hr⟩
        · exact ⟨x.last + 1, b, cc, mn, list, by omega, Nat.le_refl _, rfl, rfl, keep9 hv7, hL, hmv⟩
        · obtain ⟨i, b', c', mn', list', k1, k2, k3, k4, k5, k6⟩ := kept7 k v hr
          exact ⟨i, b', c', mn', list', k1, by show i ≤ x.last + 1; omega, k3, k4, keep9 k5, k6⟩
      · intro i hi1 hi2 hi3
        have hi2' : i ≤ x.last + 1 := hi2
        have hi3' : x.last + 1 < i + 3 ∨ i = x.com := hi3
        have hnd : ¬ delP ((x.last + 1 : Nat) : Int) x.com (.int .i64 (i : Int)) := by
          rintro ⟨j, hj, k1, k2⟩
          have e2 : (i : Int) = j := by injection hj
          subst e2
          rcases hi3' with h' | h'
          · omega
          · exact k2 (by rw [h'])
        by_cases hi : i = x.last + 1
        · subst hi; exact ⟨_, .inl ⟨rfl, rfl⟩, hnd⟩
        · obtain ⟨v, hv⟩ := h.has i hi1 (by omega) (hi3'.imp (fun h => by omega) id)
          refine ⟨v, .inr ⟨fun e => hi ?_, hv⟩, hnd⟩
          have e2 : (i : Int) = ((x.last + 1 : Nat) : Int) := by injection e
          omega
      · rcases hreg k hk with e | e
        · exact h.lo k e
        · omega
      · show 200000 - (logL (x.recs ++ [recV mn list])).length < 200000 - (logL x.recs).length
        rw [hlog]; omega
      · show ((200000 - (logL x.recs).length : Nat) : Int) ≤ ((200000 - (logL (x.recs ++ [recV mn list])).length : Nat) : Int) + 2700 + 9 * nodes + 8 * l.length
        rw [hlog]; omega
    · refine ⟨_, rfl, _, _, _, _, _, hF7, hcell g17 6 _ rfl, (fun h => by cases h), fun t v he => ?_, .inr ⟨_, _, rfl⟩⟩
      refine h2 w7 _ g07 hp7 ⟨_, _, rfl⟩ fun hh => hno ?_
      have hr := h.room
      have h3 := hh.2.1
      have h4 := hh.2.2
      unfold PubS.room at h4
      omega
  · have g01 := g0.trans g1
    refine ⟨_, _, rfl, hF0.reset.after g1, trivial, (fun h => by obtain ⟨t, x, rfl⟩ := hv; cases h), fun t v he => ?_, .inr (by obtain ⟨t, x, h⟩ := hv; exact ⟨t, x, h⟩)⟩
    exact h2 w1 _ g01 (h.grow g01) hv fun hh => hbad ⟨by omega, by omega, hh.1⟩

theorem tyI_shown : ∃ i, PR.info? T.pub_shown = some i ∧ i.zero = some (.agg #[.pointer none, .pointer none]) := by
  have h : (match PR.info? T.pub_shown with | some i => (match i.zero with | some (.agg ⟨[.pointer none, .pointer none]⟩) => true | _ => false) | none => false) = true := by kernel_rfl
  split at h
  · rename_i i hi
    refine ⟨i, hi, ?_⟩
    split at h
    · assumption
    · cases h
  · cases h
theorem map_zero : ∀ w : World, (zeroValue T.pub_shown).run PR w = .ok (.agg #[.pointer none, .pointer none]) w := fun w => by
  obtain ⟨i, hi, hz⟩ := tyI_shown
  simp [zeroValue, typeInfo, hi, hz]
theorem commit_spec {N : Nat} {w : World} {x : PubS} (h : PubAt N w x) {ver : Nat} {v : Value} (hR : x.R (.int .i64 (ver : Int)) v) (hlt : x.com < ver) {K : Value → World → Prop}
    (hK : ∀ w' n', Chg (fun k => k = x.p ∨ k = x.m) w w' → w'.heap[x.p]? = some (.cells (pubC x.bj x.each x.last ver x.m) T.pub_Pub (0, 0)) → MapP w' T.int x.m n' (fun k v => x.R k v ∧ ¬ delP x.last ver k) → K (.tuple #[]) w') :
    CallV PR F.p_pub_Pub_commit ⟨[.pointer (some ⟨x.p, 0, none⟩), .int .i64 (ver : Int)]⟩ w K := by
  obtain ⟨hsl, hsc, hsr⟩ := h.small
  obtain ⟨n, hm⟩ := h.map
  have hpm := mapNe h.blk hm
  obtain ⟨i, b, c, mn, list, k1, k2, k3, k4, _⟩ := h.kept _ _ hR
  have hvi : ver = i := by
    have e2 : (ver : Int) = (i : Int) := by injection k3
    omega
  subst hvi
  refine pub_Pub_commit x.p (some ⟨x.bj, 0, none⟩) x.each x.last x.com (some x.m) ver (fun k => k = x.p ∨ k = x.m) K w ((Fr.init _ w).entry h.blk (fun x h => by cases h) fun _ => .inl rfl) ⟨.inl rfl, trivial⟩ ?_
  refine lookup_rn keyedI map_shown hm (key_int (i := (ver : Int)) (by omega) (by omega)) true map_zero (fun v' hv' => ?_) fun hno => absurd hR (hno v)
  have : v' = v := hm.inj hv' hR
  subst this
  subst k4
  refine ⟨_, _, true, rfl, (fun _ => ⟨(Fr.init _ w).entry h.blk (fun x h => by cases h) fun _ => .inl rfl, fun l0 hl0 => ⟨fun _ w1 hF1 => ?_, fun hh => absurd hlt (by omega)⟩⟩), fun h => by cases h⟩
  have g1 : Chg (· = x.p) w w1 := hF1.stp.mono fun i hi he => by simp at he; rcases he with e | e; exact e; omega
  have hm1 := hm.keep g1 hpm.symm
  refine trim_spec (hF1.blk 0 rfl) hm1 h.shown (by omega) fun w2 g2 hm2 => ?_
  have hF2 := hF1.reset.step g2 (fun z hz => by simp at hz; subst hz; exact hpm) fun k _ e => .inr e
  exact ⟨rfl, _, _, _, _, _, hF2, hK w2 _ hF2.chg (hF2.blk 0 rfl) hm2⟩
theorem Commit_spec {N : Nat} {w : World} {x : PubS} (h : PubAt N w x) (hN : N ≤ w.heap.size) {ver : Int} (hi : -9223372036854775808 ≤ ver ∧ ver ≤ 9223372036854775807) {K : Value → World → Prop}
    (h1 : ∀ w' x', PubAt N w' x' → Chg x.reg w w' → x'.p = x.p → x'.bd = x.bd → x'.each = x.each → x'.last = x.last → ver = x'.com → x.com < x'.com → x'.room < x.room → x.room ≤ x'.room + 20 → (∀ k, x'.reg k → x.reg k ∨ w.heap.size ≤ k) → K .nilIface w')
    (h2 : ∀ w' v, Grow w w' → PubAt N w' x → isErr v → ¬ (x.com < ver ∧ ver ≤ x.last ∧ x.last < ver + 3 ∧ 20 ≤ x.room) → K v w') :
    CallV PR F.p_pub_Pub_Commit ⟨[.pointer (some ⟨x.p, 0, none⟩), .int .i64 ver]⟩ w K := by
  obtain ⟨hsl, hsc, hsr⟩ := h.small
  obtain ⟨n, hm⟩ := h.map
  have hpm := mapNe h.blk hm
  have hlt := h.lt
  have h0 : Fs x.reg w [⟨x.p, pubC x.bj x.each x.last x.com x.m, T.pub_Pub, true⟩] w := (Fr.init _ w).entry h.blk (fun x h => by cases h) fun _ => .inl rfl
  refine pub_Pub_Commit x.p (some ⟨x.bj, 0, none⟩) x.each x.last x.com (some x.m) ver x.reg K w h0 ⟨.inl rfl, trivial⟩ ?_
  refine lookup_rn keyedI map_shown hm (key_int hi.1 hi.2) true map_zero (fun v hv => ?_) fun hno => ?_
  · obtain ⟨i, b, c, mn, list, k1, k2, k3, k4, k5⟩ := h.kept _ _ hv
    have hvi : ver = i := by injection k3
    subst hvi
    subst k4
    refine ⟨_, _, true, rfl, (fun _ => ⟨h0, fun l0 hl0 => ⟨fun hle w1 hF1 => ?_, fun hgt w1 hF1 => ?_⟩⟩), fun h => by cases h⟩
    · have g1 : Grow w w1 := (hF1.unM hl0).grow
      exact h2 w1 _ g1 (h.grow g1) ⟨_, _, rfl⟩ fun hh => by omega
    · have g1 : Grow w w1 := (hF1.unM hl0).grow
      have hF1' := (hF1.unM hl0).reset
      refine PutShort_spec (n := (i : Int)) (by omega) fun w2 g2 => ⟨_, _, rfl, hF1'.after g2, ?_⟩
      have hF2 := hF1'.after g2
      have g02 := g1.trans g2
      have hpl := putShort_le i (by omega)
      rw [Int.toNat_natCast] at *
      refine ⟨by rw [str_size]; omega, ?_⟩
      rw [str67, str_append]
      have hp2 := h.grow g02
      obtain ⟨n2, hm2⟩ := hp2.map
      have hrl : (recC i).length = 1 + (putShort i).length := by simp [recC]; omega
      refine write_spec (s := recC i) hp2.blk hp2.jrn h.room hsr (by omega) (fun hs1 hs2 w3 q' c' hj3 g3 hq' => ?_) fun hno => ?_
      · have hpub := hp2.jrn.pub hp2.blk
        have hmj := hp2.jrn.mapb hm2
        have hF3 := hF2.step g3 (fun z hz => by simp at hz; subst hz; exact hpub) (fun k _ e => .inr (.inr e))
        refine ⟨_, rfl, _, _, _, _, _, hF3, fun _ => ?_, (fun t x h => by cases h), .inl rfl⟩
        have hb3 := g3.get hp2.blk hpub
        have hm3 := hm2.keep g3 hmj
        have hlog : (logL (x.recs ++ [recC i])).length = (logL x.recs).length + (recC i).length + 6 := by
          rw [logL_snoc, List.length_append, sealL_len]; omega
        let x1 : PubS := ⟨x.p, x.bj, x.bd, x.m, x.each, q', c', x.last, x.com, x.recs ++ [recC i], x.R⟩
        have hqn : ∀ a, q' = some a → x.q = some a ∨ w.heap.size ≤ a.block := fun a ha => (hq' a ha).imp id fun h => Nat.le_trans g02.size h
        have hreg := jrn_next (w' := w3) hqn
        have hp3 : PubAt N w3 x1 := ⟨hb3, hj3, ⟨n2, hm3⟩, fun k v hr => (hp2.kept k v hr).keep g3 (fun _ _ e => .inr (.inr e)) (fun k hk e => (jrn_next (w := w2) (w' := w3) hq' k e).elim id fun h => by omega) (Nat.le_refl _), h.has, h.com_le, by show x.last ≤ _; rw [List.length_append]; have := h.last_le; omega, by show (logL _).length ≤ _; rw [hlog]; omega, h.each1, h.each2, fun k hk => (hreg k hk).elim (h.lo k) fun e => by omega⟩
        refine commit_spec (x := x1) hp3 (ver := i) hv (by show x.com < i; omega) fun w4 n4 g4 hb4 hm4 => ?_
        have hF4 := hF3.mod g4 hb4 (fun z hz => by cases hz) fun k _ e => e.elim .inl fun e => .inr (.inl e)
        refine ⟨rfl, _, _, _, _, _, hF4, ?_⟩
        have g4' : ∀ k, (k = x1.p ∨ k = x1.m) → x1.reg k := fun k e => e.elim .inl fun e => .inr (.inl e)
        let x2 : PubS := ⟨x.p, x.bj, x.bd, x.m, x.each, q', c', x.last, i, x.recs ++ [recC i], fun k v => x.R k v ∧ ¬ delP x.last i k⟩
        refine h1 w4 x2 ⟨hb4, hj3.keep g4 fun k e hk => ?_, ⟨n4, hm4⟩, fun k v hr => (hp3.kept k v hr.1).keep g4 (fun k _ e => g4' k e) (fun _ _ e => e) (Nat.le_refl _), fun j hj1 hj2 hj3 => ?_, k2, hp3.last_le, hp3.room, h.each1, h.each2, hp3.lo⟩ hF4.chg rfl rfl rfl rfl rfl (by show x.com < i; omega) ?_ ?_ hreg
        · rcases e with rfl | rfl
          · exact hj3.pub hb3 hk
          · exact hj3.mapb hm3 hk
        · have hj3' : x.last < j + 3 ∨ j = i := hj3
          have hnd : ¬ delP x.last i (.int .i64 (j : Int)) := by
            rintro ⟨j', hj', a1, a2⟩
            have e2 : (j : Int) = j' := by injection hj'
            subst e2
            rcases hj3' with h' | h'
            · omega
            · exact a2 (by rw [h'])
          rcases hj3' with h' | rfl
          · obtain ⟨v, hv⟩ := h.has j hj1 hj2 (.inl h')
            exact ⟨v, hv, hnd⟩
          · exact ⟨_, hv, hnd⟩
        · show 200000 - (logL (x.recs ++ [recC i])).length < 200000 - (logL x.recs).length
          rw [hlog]; omega
        · show 200000 - (logL x.recs).length ≤ 200000 - (logL (x.recs ++ [recC i])).length + 20
          rw [hlog]; omega
      · refine ⟨_, rfl, _, _, _, _, _, hF2, (fun h => by cases h), fun t v he => ?_, .inr ⟨_, _, rfl⟩⟩
        refine h2 w2 _ g02 hp2 ⟨_, _, rfl⟩ fun hh => hno ?_
        have h4 := hh.2.2.2
        have hr := h.room
        unfold PubS.room at h4
        omega
  · refine ⟨_, _, false, rfl, (fun h => by cases h), fun _ => ⟨h0, fun l2 hl2 w1 hF1 => ?_⟩⟩
    have g1 : Grow w w1 := (hF1.unM hl2).grow
    refine h2 w1 _ g1 (h.grow g1) ⟨_, _, rfl⟩ fun hh => ?_
    obtain ⟨i, rfl⟩ := Int.eq_ofNat_of_zero_le (a := ver) (by omega)
    obtain ⟨v, hv⟩ := h.has i (by omega) (by omega) (.inl (by omega))
    exact hno v hv
end Go.Vc

/-! A part of the proof that two events of one line are one event: the calculus that follows known memory by computing, and its soundness. By an AI agent. -/

namespace Go.Vc
open Go
/-! ## the law of refusals -/
theorem awake22_spec {w : World} {K : Value → World → Prop} (hK : ∀ w', Grow w w' → K (.bool true) w') : CallV PR F.ladinglaw22_awake ⟨[]⟩ w K := by
  have h0 : Fs S0 w [] w := Fr.init _ w
  refine ladinglaw22_awake S0 K w ?_
  refine DNew_spec fun w1 bd g1 hbd hd => ⟨_, rfl, h0.after g1, ?_⟩
  refine Open0_spec (N := w.heap.size) (each := 8) hd hbd g1.size (by decide) (by decide) fun w2 x g2 hx e1 e2 e3 e4 e5 hp => ⟨_, _, rfl, h0.after (g1.trans g2), fun _ => fun b3 hb3 w3 hF3 => ?_, (fun t x h => by cases h), .inl rfl⟩
  have g3 : Grow w2 w3 := hF3.grow
  have g12 := g1.trans g2
  have hx3 := hx.grow g3
  have s1 := g12.size
  have s3 := g3.size
  have hroom : x.room = 200000 := by rw [PubS.room, e5]; rfl
  have step : ∀ {L : List Blk} {wa wb : World} {x : PubS}, Fs S0 w L wa → PubAt w.heap.size wa x → Chg x.reg wa wb → (∀ y, y ∈ L → ¬ x.reg y.b) → Fs S0 w L wb := fun hF hx g hL => hF.step g hL fun k hk e => by have := hx.lo k e; omega
  have hl3 : ∀ y, y ∈ [(⟨b3, #[.int .i64 0, .int .i64 1], T.api_Edge, true⟩ : Blk)] → ¬ x.reg y.b := fun y hy e => by simp at hy; subst hy; have := hx.lt _ e; simp only [] at this; omega
  have hs3 : Sl w3 (some ⟨b3, 0, none⟩) (encE [(0, 1)]) := hF3.sl 0 rfl
  refine Publish_spec hx3 (by omega) hs3 rfl (by decide) (fun w4 x4 hx4 g4 f1 f2 f3 f4 f5 f6 fr f7 f8 => ?_) fun w4 v g4 hx4 hv hno => ?_
  · rw [f4, e3]
    refine ⟨_, _, rfl, _, _, step hF3.reset hx3 g4 hl3, ?_⟩
    have hF4 := (step hF3.reset hx3 g4 hl3).sub (L' := []) (List.nil_sublist _)
    have s4 := hF4.gr.size
    rw [← f1]
    refine Publish_spec (l := []) hx4 (by omega) (.nil _ _) rfl (by decide) (fun w5 x5 hx5 g5 i1 i2 i3 i4 i5 i6 ir i7 i8 => ?_) fun w5 v g5 hx5 hv hno => ?_
    · have hF5 := step hF4 hx4 g5 (fun y hy => by cases hy)
      rw [i4, f4, e3]
      refine ⟨_, _, rfl, hF5, fun _ => ⟨fun _ => ⟨fun _ => ⟨fun _ => ?_, (fun t x h => by cases h), .inl rfl⟩, (fun t x h => by cases h), .inl rfl⟩, fun h => absurd rfl h⟩, fun h => absurd rfl h⟩
      rw [← i1]
      refine Commit_spec hx5 hF5.gr.size (by decide) (fun w6 x6 hx6 g6 j1 j2 j3 j4 j5 j6 jr j7 j8 => ?_) fun w6 v g6 hx6 hv hno => ?_
      · have hF6 := step hF5 hx5 g6 (fun y hy => by cases hy)
        refine ⟨_, rfl, hF6, fun _ => ?_, (fun t x h => by cases h), .inl rfl⟩
        rw [← j1]
        refine Committed_spec hx6 ⟨_, rfl, hF6, fun _ => hK w6 hF6.gr, fun h => absurd j5.symm h⟩
      · have hr4 : (x4.room : Int) ≤ x5.room + 2700 + 9 * 3 + 8 * (0 : Nat) := ir
        have hr3 : (x.room : Int) ≤ x4.room + 2700 + 9 * 2 + 8 * (1 : Nat) := fr
        exact absurd ⟨by rw [i5, f5, e4]; omega, by rw [i4, f4, e3]; omega, by rw [i4, f4, e3]; omega, by omega⟩ hno
    · have hr3 : (x.room : Int) ≤ x4.room + 2700 + 9 * 2 + 8 * (1 : Nat) := fr
      refine absurd ⟨⟨⟨by decide, by decide, by decide, fun e he => by cases he⟩, by rw [f3, e2]; decide, by decide⟩, by decide, ?_⟩ hno
      have : (2700 : Int) + 9 * 3 + 8 * (([] : List (Int × Int)).length : Nat) = 2727 := rfl
      rw [this]; omega
  · refine absurd ⟨⟨⟨by decide, by decide, by decide, fun e he => by simp at he; subst he; decide⟩, by rw [e2]; decide, by decide⟩, by decide, ?_⟩ hno
    rw [hroom]; decide
/-- an element of a row of elements of s cells -/
theorem flatK_at {α : Type} {s : Nat} {f : α → List Value} (hf : ∀ x, (f x).length = s) : ∀ {l : List α} {k j : Nat}, (h : k < l.length) → j < s → (l.flatMap f)[k * s + j]? = (f l[k])[j]?
  | a :: l, 0, j, h, hj => by
    rw [List.flatMap_cons, List.getElem?_append_left (by rw [hf]; omega)]; simp
  | a :: l, k + 1, j, h, hj => by
    have e : (k + 1) * s + j = s + (k * s + j) := by rw [Nat.add_mul]; omega
    rw [List.flatMap_cons, List.getElem?_append_right (by rw [hf]; omega), hf, e, Nat.add_sub_cancel_left, flatK_at hf (l := l) (k := k) (by simpa using h) hj]; rfl
theorem flatK_size {α : Type} {s : Nat} {f : α → List Value} (hf : ∀ x, (f x).length = s) : ∀ l : List α, (l.flatMap f).length = l.length * s
  | [] => by simp
  | a :: l => by rw [List.flatMap_cons, List.length_append, hf, flatK_size hf l, List.length_cons, Nat.add_mul]; omega
theorem Sl.rdN {α : Type} {s : Nat} {f : α → List Value} (hf : ∀ x, (f x).length = s) (h0 : 0 < s) {w : World} {q : Option Addr} {l : List α} (h : Sl w q (l.flatMap f)) {n : Int} {k m : Nat} {K : Addr → Prop} (hn : n = k) (hk : k < l.length) (hm : k < m)
    (hK : ∀ a, (∀ j v, (f l[k])[j]? = some v → w.cell? (a.add j) = some v) → K a) : Dr q (fun a => 0 ≤ n ∧ n < ((m : Nat) : Int) ∧ Dr (some (Addr.add a (n.toNat * s))) K) := by
  subst hn
  have hel := flatK_size hf l
  have hpos : k * s < l.length * s := Nat.mul_lt_mul_of_pos_right hk h0
  obtain ⟨b, o, rfl, hc⟩ := h.ex (by intro e; rw [e] at hel; simp at hel; omega)
  refine Dr_some.2 ⟨by omega, by omega, Dr_some.2 ?_⟩
  rw [add_mk, Int.toNat_natCast]
  refine hK _ fun j v hv => ?_
  have hj : j < s := by
    rcases Nat.lt_or_ge j s with h | h
    · exact h
    · rw [List.getElem?_eq_none (by rw [hf]; exact h)] at hv; cases hv
  have hb : k * s + j < (l.flatMap f).length := by
    rw [hel]
    have : (k + 1) * s ≤ l.length * s := Nat.mul_le_mul_right s hk
    rw [Nat.add_mul] at this; omega
  have := hc (k * s + j) hb
  rw [flatK_at hf hk hj, hv] at this
  rw [add_mk, Nat.add_assoc]; exact this
structure OpV where
  k : Int
  n : Int
  nodes : Int
  q : Option Addr
  l : List (Int × Int)
  c : Nat
  q2 : Option Addr
  l2 : Nat
  c2 : Nat
  n2 : Int
def opC (o : OpV) : List Value := [.int .i64 o.k, .int .i64 o.n, .int .i64 o.nodes, .slice o.q o.l.length o.c, .slice o.q2 o.l2 o.c2, .int .i64 o.n2]
theorem opC_len (o : OpV) : (opC o).length = 6 := rfl
/-- what lies in the argument -/
structure OpsAt (w : World) (y : Option Addr) (ops : List OpV) : Prop where
  row : Sl w y (ops.flatMap opC)
  l : ∀ o ∈ ops, Sl w o.q (encE o.l)
  n : ∀ o ∈ ops, -9223372036854775808 ≤ o.n ∧ o.n ≤ 9223372036854775807
theorem OpsAt.grow {w w' : World} {y : Option Addr} {ops : List OpV} (h : OpsAt w y ops) (g : Grow w w') : OpsAt w' y ops := ⟨h.row.grow g, fun o ho => (h.l o ho).grow g, h.n⟩
theorem Great22_spec {w : World} {y : Option Addr} {n c : Nat} {ops : List OpV} (h : OpsAt w y ops) (hl : n = ops.length) {most : Int} (hm : most ≤ 1000) {K : Value → World → Prop}
    (h1 : ∀ w', Grow w w' → K (.bool true) w') (h2 : ∀ w', Grow w w' → ops.length ≤ most → (∀ o ∈ ops, o.l.length ≤ 60 ∧ o.nodes ≤ 100) → K (.bool false) w') : CallV PR F.ladinglaw22_Great ⟨[.slice y n c, .int .i64 most]⟩ w K := by
  subst hl
  refine ladinglaw22_Great y ops.length c most S0 K w ⟨fun _ => h1 w (.refl _ _), fun hle => ?_⟩
  refine ⟨fun i m w' => ∃ k : Nat, i = k ∧ k ≤ ops.length ∧ m = ops.length - k ∧ ∀ o ∈ ops.take k, o.l.length ≤ 60 ∧ o.nodes ≤ 100, ⟨_, 0, rfl, by omega, rfl, fun o ho => by simp at ho⟩, ?_⟩
  rintro i D m w1 ⟨k, rfl, hk, rfl, hall⟩ hF1
  refine ⟨fun hlt => ?_, fun hge => h2 w1 hF1.gr (by omega) ?_⟩
  · have hk' : k < ops.length := by omega
    refine (h.grow hF1.gr).row.rdN opC_len (by decide) rfl hk' hk' fun a hc => ?_
    have h6 : ∀ {L : List Blk} {M : List Nat} {l6 : Nat} {w2 : World}, w1.heap.size ≤ l6 → Fr S0 w w1 [l6] L w2 → Grow w w2 := fun _ hF => hF.gr
    refine ⟨_, hc 0 _ rfl, _, hc 1 _ rfl, _, hc 2 _ rfl, _, _, _, hc 3 _ rfl, _, _, _, hc 4 _ rfl, _, hc 5 _ rfl, fun l6 hl6 => ⟨fun _ w2 hF2 => h1 w2 hF2.gr, fun h60 => ⟨fun _ w2 hF2 => h1 w2 hF2.gr, fun h100 => ⟨fun _ w2 hF2 => h1 w2 hF2.gr, fun _ w4 hF4 => ⟨ops.length - (k + 1), by omega, k + 1, by rw [w64 (by omega) (by omega)]; rfl, by omega, rfl, fun o ho => ?_⟩⟩⟩⟩⟩
    rw [List.take_succ_eq_append_getElem hk', List.mem_append, List.mem_singleton] at ho
    rcases ho with ho | rfl
    · exact hall o ho
    · exact ⟨by omega, by omega⟩
  · have : k = ops.length := by omega
    subst this
    rw [List.take_length] at hall
    exact hall
end Go.Vc

/-! A part of the proof that two events of one line are one event: the calculus that follows known memory by computing, and its soundness. By an AI agent. -/

namespace Go.Vc
open Go
theorem logSize {x : PubS} (h : (logL x.recs).length ≤ 200000) : ((ByteArray.size (str (logL x.recs)) : Nat) : Int) = IntKind.wrap .i64 ((200000 : Int) - (x.room : Int)) := by
  rw [str_size, w64 (by unfold PubS.room; omega) (by unfold PubS.room; omega)]
  unfold PubS.room; omega
theorem PubRefuses_spec {w : World} {y : Option Addr} {n c : Nat} {ops : List OpV} (h : OpsAt w y ops) (hl : n = ops.length) {K : Value → World → Prop} (hK : ∀ w', Grow w w' → K (.bool true) w') : CallV PR F.ladinglaw22_PubRefuses ⟨[.slice y n c]⟩ w K := by
  subst hl
  have h0 : Fs S0 w [] w := Fr.init _ w
  refine ladinglaw22_PubRefuses y ops.length c S0 K w (awake22_spec fun w1 g1 => ⟨true, rfl, (fun _ => ⟨h0.after g1, ?_⟩), fun h => by cases h⟩)
  refine Great22_spec (h.grow g1) rfl (by decide) (fun w2 g2 => ⟨true, rfl, (fun _ => ⟨h0.after (g1.trans g2), hK w2 (g1.trans g2)⟩), fun h => by cases h⟩) fun w2 g2 hlen hsmall => ⟨false, rfl, (fun h => by cases h), fun _ => ⟨h0.after (g1.trans g2), ?_⟩⟩
  have g12 := g1.trans g2
  refine DNew_spec fun w3 bd g3 hbd hd => ⟨_, rfl, h0.after (g12.trans g3), ?_⟩
  have g13 := g12.trans g3
  have s13 := g13.size
  have s12 := g12.size
  refine Open0_spec (N := w.heap.size) (each := 8) hd (by omega) s13 (by decide) (by decide) fun w4 x0 g4 hx0 e1 e2 e3 e4 e5 hp => ⟨_, _, rfl, h0.after (g13.trans g4), fun _ => ?_, (fun t x h => by cases h), .inl rfl⟩
  have step : ∀ {L : List Blk} {wa wb : World} {x : PubS}, Fs S0 w L wa → PubAt w.heap.size wa x → Chg x.reg wa wb → (∀ y, y ∈ L → ¬ x.reg y.b) → Fs S0 w L wb := fun hF hx g hL => hF.step g hL fun k hk e => by have := hx.lo k e; omega
  refine ⟨fun i m w' => ∃ (k : Nat) (x : PubS), i = k ∧ k ≤ ops.length ∧ m = ops.length - k ∧ PubAt w.heap.size w' x ∧ x.p = x0.p ∧ x.bd = bd, ⟨_, 0, x0, rfl, by omega, rfl, hx0, rfl, e1⟩, ?_⟩
  rintro i D m w5 ⟨k, x, rfl, hk, rfl, hx, ep, eb⟩ hF5
  refine ⟨fun hlt => ?_, fun hge => hK w5 hF5.gr⟩
  have hk' : k < ops.length := by omega
  rw [← ep, ← eb]
  refine (h.grow hF5.gr).row.rdN opC_len (by decide) rfl hk' hk' fun a hc => ?_
  have hsl := h.l _ (List.getElem_mem hk')
  have hnn := h.n _ (List.getElem_mem hk')
  have hsm := hsmall _ (List.getElem_mem hk')
  generalize ops[k] = o at hc hsl hnn hsm
  refine ⟨_, hc 0 _ rfl, _, hc 1 _ rfl, _, hc 2 _ rfl, _, _, _, hc 3 _ rfl, _, _, _, hc 4 _ rfl, _, hc 5 _ rfl, fun l6 hl6 w6 hF6 => ?_⟩
  have hF6' := (hF6.unM hl6).reset
  have g6 : Grow w5 w6 := (hF6.unM hl6).grow
  have hx6 := hx.grow g6
  have hoff : ∀ y, y ∈ [(⟨l6, #[.int .i64 o.k, .int .i64 o.n, .int .i64 o.nodes, .slice o.q o.l.length o.c, .slice o.q2 o.l2 o.c2, .int .i64 o.n2], 37, true⟩ : Blk)] → ¬ x.reg y.b := fun y hy e => by simp at hy; subst hy; have := hx.lt _ e; simp only [] at this; omega
  have next : ((k : Int) + 1) = ((k + 1 : Nat) : Int) := by omega
  refine Last_spec hx6 ⟨_, rfl, hF6', Committed_spec hx6 ⟨_, rfl, hF6', Room_spec hx6 ⟨_, rfl, hF6', PLog_spec hx6 ⟨_, _, rfl, hF6', fun hk0 => ?_, fun hk0 => ⟨fun hk1 => ?_, fun hk1 => ?_⟩⟩⟩⟩⟩
  · refine Publish_spec hx6 hF6'.gr.size (hsl.grow hF6'.gr) rfl (by omega) (fun w7 x7 hx7 g7 f1 f2 f3 f4 f5 f6 fr f7 f8 => ?_) fun w7 v g7 hx7 hv hno => ?_
    · have hF7 := step hF6' hx6 g7 hoff
      have hF7' := hF7.sub (L' := []) (List.nil_sublist _)
      refine ⟨_, _, rfl, hF7, ?_⟩
      rw [← f1, ← f2]
      refine PLog_spec hx7 ⟨_, _, rfl, hF7', fun _ => ?_, (fun t x h => by cases h), .inl rfl⟩
      refine Room_spec hx7 ⟨_, rfl, hF7', fun _ => ⟨fun _ => ⟨fun _ => Room_spec hx7 ⟨_, rfl, hF7', fun hge => absurd f6 (by omega), fun _ => ⟨ops.length - (k + 1), by omega, k + 1, x7, by rw [w64 (by omega) (by omega)]; exact next, by omega, rfl, hx7, rfl, rfl⟩⟩, (fun t x h => by cases h), .inl rfl⟩, (fun t x h => by cases h), .inl rfl⟩, fun hne => absurd (logSize hx7.room) hne⟩
    · obtain ⟨t, v, rfl⟩ := hv
      have hF7 := hF6'.after g7
      have hF7' := hF7.sub (L' := []) (List.nil_sublist _)
      refine ⟨_, _, rfl, hF7, ?_⟩
      refine PLog_spec hx7 ⟨_, _, rfl, hF7', fun _ => ?_, (fun t x h => by cases h), .inl rfl⟩
      refine Room_spec hx7 ⟨_, rfl, hF7', fun _ => ⟨(fun h => by cases h), fun t' v' he => ?_, .inr ⟨_, _, rfl⟩⟩, fun hne => absurd (logSize hx7.room) hne⟩
      refine Last_spec hx7 ⟨_, rfl, hF7', fun _ => Committed_spec hx7 ⟨_, rfl, hF7', fun _ => ⟨fun _ => ⟨(fun h => by cases h), fun t x' he => ⟨ops.length - (k + 1), by omega, k + 1, x, by rw [w64 (by omega) (by omega)]; exact next, by omega, rfl, hx7, rfl, rfl⟩, .inr ⟨_, _, rfl⟩⟩, fun hne => absurd rfl hne⟩, fun hne => absurd rfl hne⟩, fun hne => absurd rfl hne⟩
  · refine Commit_spec hx6 hF6'.gr.size hnn (fun w7 x7 hx7 g7 f1 f2 f3 f4 f5 f6 f7 fr f8 => ?_) fun w7 v g7 hx7 hv hno => ?_
    · have hF7 := step hF6' hx6 g7 hoff
      have hF7' := hF7.sub (L' := []) (List.nil_sublist _)
      refine ⟨_, rfl, hF7, ?_⟩
      rw [← f1, ← f2]
      refine PLog_spec hx7 ⟨_, _, rfl, hF7', fun _ => ?_, (fun t x h => by cases h), .inl rfl⟩
      refine Room_spec hx7 ⟨_, rfl, hF7', fun _ => ⟨fun _ => ⟨fun _ => Room_spec hx7 ⟨_, rfl, hF7', fun hge => absurd f7 (by omega), fun _ => ⟨ops.length - (k + 1), by omega, k + 1, x7, by rw [w64 (by omega) (by omega)]; exact next, by omega, rfl, hx7, rfl, rfl⟩⟩, (fun t x h => by cases h), .inl rfl⟩, (fun t x h => by cases h), .inl rfl⟩, fun hne => absurd (logSize hx7.room) hne⟩
    · obtain ⟨t, v, rfl⟩ := hv
      have hF7 := hF6'.after g7
      have hF7' := hF7.sub (L' := []) (List.nil_sublist _)
      refine ⟨_, rfl, hF7, ?_⟩
      refine PLog_spec hx7 ⟨_, _, rfl, hF7', fun _ => ?_, (fun t x h => by cases h), .inl rfl⟩
      refine Room_spec hx7 ⟨_, rfl, hF7', fun _ => ⟨(fun h => by cases h), fun t' v' he => ?_, .inr ⟨_, _, rfl⟩⟩, fun hne => absurd (logSize hx7.room) hne⟩
      refine Last_spec hx7 ⟨_, rfl, hF7', fun _ => Committed_spec hx7 ⟨_, rfl, hF7', fun _ => ⟨fun _ => ⟨(fun h => by cases h), fun t x' he => ⟨ops.length - (k + 1), by omega, k + 1, x, by rw [w64 (by omega) (by omega)]; exact next, by omega, rfl, hx7, rfl, rfl⟩, .inr ⟨_, _, rfl⟩⟩, fun hne => absurd rfl hne⟩, fun hne => absurd rfl hne⟩, fun hne => absurd rfl hne⟩
  · exact ⟨ops.length - (k + 1), by omega, k + 1, x, by rw [w64 (by omega) (by omega)]; exact next, by omega, rfl, hx6, rfl, rfl⟩
end Go.Vc

/-! A part of the proof that two events of one line are one event: the calculus that follows known memory by computing, and its soundness. By an AI agent. -/







namespace Go.Vc
open Go Go.ChangeShapes Go.WideShapes Go.Deep
/-! ## what an argument reads, opened -/
noncomputable def flds (t : TypeId) : Option (List (Nat × Nat)) := match PR.underlying t with
  | some (.struct fs) => some (fs.toList.map fun f => (f.type, f.offset))
  | _ => none
theorem flds_of {t : TypeId} {l : List (Nat × Nat)} (h : flds t = some l) : ∃ fs : Array Field, PR.underlying t = some (.struct fs) ∧ fs.toList.map (fun f => (f.type, f.offset)) = l := by
  unfold flds at h
  split at h
  · rename_i fs hfs
    exact ⟨fs, hfs, Option.some.inj h⟩
  · cases h
theorem flds_at {fs : Array Field} {l : List (Nat × Nat)} (h : fs.toList.map (fun f => (f.type, f.offset)) = l) {i : Nat} {x : Nat × Nat} (hi : l[i]? = some x) : ∃ f, fs[i]? = some f ∧ f.type = x.1 ∧ f.offset = x.2 := by
  rw [← h, List.getElem?_map] at hi
  rw [← Array.getElem?_toList]
  cases hf : fs.toList[i]? with
  | none => rw [hf] at hi; cases hi
  | some f => rw [hf] at hi; cases hi; exact ⟨f, rfl, rfl, rfl⟩
theorem sl_of_cells {w : World} {a : Addr} {xs : List Value} (h : ∀ i, i < xs.length → w.cell? (a.add i) = xs[i]?) : Sl w (some a) xs := by
  cases xs with
  | nil => exact .inl rfl
  | cons x xs =>
    right
    have h0 := h 0 (by simp)
    have h0' : w.cell? a = some x := by simpa [Addr.add] using h0
    have hs := World.cell?_spot h0'
    obtain ⟨b, o, sp⟩ := a
    simp only at hs
    subst hs
    refine ⟨b, o, rfl, ?_⟩
    unfold World.cell? at h0'
    cases hb : w.heap[b]? with
    | none => simp [hb] at h0'
    | some ob =>
      cases ob with
      | cells cs T fz =>
        refine ⟨cs, T, fz, hb, fun i hi => ?_⟩
        have hh := h i hi
        have e : w.cell? ((⟨b, o, none⟩ : Addr).add i) = cs[o + i]? := by
          by_cases hi0 : i = 0
          · subst hi0; simp [Addr.add, World.cell?, hb]
          · simp [Addr.add, hi0, World.cell?, hb]
        rw [← e, hh]
      | _ => simp [hb] at h0'
/-- a slice of elements of s cells, each of which opens -/
theorem slice_of {α : Type} {s : Nat} {f : α → List Value} (hf : ∀ x, (f x).length = s) (hs0 : 0 < s) {t e : TypeId} (ht : PR.underlying t = some (.slice e)) (hc : PR.cellsOf e = s) {G : α → Prop} {H : Type} {enc : TypeId × Value → H} {w : World} {base : Nat} {spare : Nat → Bool} {held : Bool}
    (each : ∀ (n : Nat) (cs : List Value) x, DataW.trod enc PR w base spare held n e cs = some x → cs.length = s → ∃ a : α, cs = f a ∧ G a) {fuel : Nat} {v : Value} {x : DataW H × List MemPlace} (h : DataW.trod enc PR w base spare held fuel t [v] = some x) :
    ∃ (q : Option Addr) (l : List α) (c : Nat), v = .slice q l.length c ∧ Sl w q (l.flatMap f) ∧ (∀ a ∈ l, G a) ∧ l.length ≤ c := by
  rcases open_slice ht h with ⟨e1, _⟩ | ⟨a, len, cap, m, n, D, Pl, e1, _, hlc, _, hm, _, hx⟩
  · cases e1
    exact ⟨none, [], 0, rfl, .inl rfl, (fun a ha => by cases ha), Nat.le_refl _⟩
  · cases e1
    rw [hc] at hx
    have hlm : len ≤ m := by rw [hm]; split <;> omega
    have ea : ∀ i, i < len → ∃ z : α, (∀ j v, (f z)[j]? = some v → w.cell? (a.add (i * s + j)) = some v) ∧ G z := by
      intro i hi
      obtain ⟨cs', h1, h2⟩ := hx i (by omega)
      obtain ⟨_, hlen, hcell⟩ := World.cells?_some h1
      obtain ⟨z, rfl, hz⟩ := each n cs' _ h2 hlen
      refine ⟨z, fun j v hj => ?_, hz⟩
      have hjl : j < s := by
        rcases Nat.lt_or_ge j s with h | h
        · exact h
        · rw [List.getElem?_eq_none (by rw [hf]; exact h)] at hj; cases hj
      have := hcell j hjl
      rw [add_add] at this
      rw [this, hj]
    have hne : len = 0 ∨ Nonempty α := by
      rcases Nat.eq_zero_or_pos len with h | h
      · exact .inl h
      · obtain ⟨z, _⟩ := ea 0 h; exact .inr ⟨z⟩
    rcases hne with h0 | ⟨⟨z0⟩⟩
    · subst h0
      exact ⟨some a, [], cap, rfl, .inl rfl, (fun a ha => by cases ha), Nat.zero_le _⟩
    · have : Inhabited α := ⟨z0⟩
      obtain ⟨g, hg⟩ := choose_lt ea
      refine ⟨some a, (List.range len).map g, cap, by simp, sl_of_cells fun i hi => ?_, fun z hz => ?_, by simpa using hlc⟩
      · rw [flatK_size hf] at hi
        simp only [List.length_map, List.length_range] at hi
        have hk : i / s < len := Nat.div_lt_of_lt_mul (by rw [Nat.mul_comm]; exact hi)
        have hj : i % s < s := Nat.mod_lt _ hs0
        have e2 : i / s * s + i % s = i := by rw [Nat.mul_comm]; exact Nat.div_add_mod i s
        have h3 := flatK_at hf (l := (List.range len).map g) (k := i / s) (j := i % s) (by simpa using hk) hj
        rw [e2] at h3
        rw [h3]
        simp only [List.getElem_map, List.getElem_range]
        have hlt : i % s < (f (g (i / s))).length := by rw [hf]; exact hj
        have := (hg (i / s) hk).1 (i % s) _ (List.getElem?_eq_getElem hlt)
        rw [e2] at this
        rw [this, List.getElem?_eq_getElem hlt]
      · obtain ⟨i, hi, rfl⟩ := List.mem_map.1 hz
        exact (hg i (List.mem_range.1 hi)).2
theorem int_range {n : Int} (h : (Lit.int .i64 n).wf = true) : -9223372036854775808 ≤ n ∧ n ≤ 9223372036854775807 := by
  simp [Lit.wf, IntKind.min, IntKind.max, IntKind.bits, IntKind.signed] at h; omega
theorem fe : flds T.api_Edge = some [(3, 0), (3, 1)] := by kernel_rfl
theorem fo : flds T.ladinglaw22_Op = some [(3, 0), (3, 1), (3, 2), (32, 3), (35, 4)] := by kernel_rfl
theorem fp : flds T.disk_Plan = some [(33, 0), (3, 1)] := by kernel_rfl
theorem u3 : PR.underlying 3 = some (.int .i64) := by kernel_rfl
theorem u32 : PR.underlying 32 = some (.slice 65) := by kernel_rfl
theorem u33 : PR.underlying 33 = some (.slice 4) := by kernel_rfl
theorem u22 : PR.underlying 22 = some (.slice 37) := by kernel_rfl
theorem u4 : PR.underlying 4 = some .bool := by kernel_rfl
theorem c3 : PR.cellsOf 3 = 1 := by kernel_rfl
theorem c32 : PR.cellsOf 32 = 1 := by kernel_rfl
theorem c33 : PR.cellsOf 33 = 1 := by kernel_rfl
theorem c35 : PR.cellsOf 35 = 2 := by kernel_rfl
theorem c37 : PR.cellsOf 37 = 6 := by kernel_rfl
theorem c65 : PR.cellsOf 65 = 2 := by kernel_rfl
section
variable {H : Type} {enc : TypeId × Value → H} {w : World} {base : Nat} {spare : Nat → Bool} {held : Bool}
/-- the fields of a struct -/
theorem struct_of {t : TypeId} {l : List (Nat × Nat)} (hl : flds t = some l) {n : Nat} {cs : List Value} {x : DataW H × List MemPlace} (h : DataW.trod enc PR w base spare held n t cs = some x) :
    ∃ m, ∀ (i : Nat) (p : Nat × Nat), l[i]? = some p → ∃ y, DataW.trod enc PR w base spare held m p.1 ((cs.drop p.2).take (PR.cellsOf p.1)) = some y := by
  obtain ⟨fs, hu, hm⟩ := flds_of hl
  obtain ⟨xs, m, _, _, _, hxl, hg⟩ := DataW.trod_struct hu h
  refine ⟨m, fun i p hi => ?_⟩
  obtain ⟨f, h1, h2, h3⟩ := flds_at hm hi
  have := hg i f h1
  rw [h2, h3] at this
  have hil : i < xs.length := by
    rw [hxl]
    rcases Nat.lt_or_ge i fs.size with h | h
    · exact h
    · rw [Array.getElem?_eq_none h] at h1; cases h1
  exact ⟨_, this.trans (List.getElem?_eq_getElem hil)⟩
theorem edges_of {fuel : Nat} {v : Value} {x : DataW H × List MemPlace} (h : DataW.trod enc PR w base spare held fuel 32 [v] = some x) : ∃ (q : Option Addr) (l : List (Int × Int)) (c : Nat), v = .slice q l.length c ∧ Sl w q (encE l) := by
  obtain ⟨q, l, c, h1, h2, _⟩ := slice_of (α := Int × Int) (s := 2) (f := fun e => [iv e.1, iv e.2]) (fun _ => rfl) (by decide) u32 c65 (G := fun _ => True) (fun n cs x hx hlen => by
    obtain ⟨m, hm⟩ := struct_of fe hx
    obtain ⟨y0, h0⟩ := hm 0 _ rfl
    obtain ⟨y1, h1⟩ := hm 1 _ rfl
    match cs, hlen with
    | [v0, v1], _ =>
      rw [show PR.cellsOf (3, 0).1 = 1 from c3] at h0
      rw [show PR.cellsOf (3, 1).1 = 1 from c3] at h1
      obtain ⟨n0, e0, _, _⟩ := DataW.trod_int u3 h0
      obtain ⟨n1, e1, _, _⟩ := DataW.trod_int u3 h1
      obtain rfl : v0 = .int .i64 n0 := (List.cons.inj e0).1
      obtain rfl : v1 = .int .i64 n1 := (List.cons.inj e1).1
      exact ⟨(n0, n1), rfl, trivial⟩) h
  exact ⟨q, l, c, h1, h2⟩
theorem op_of {n : Nat} {cs : List Value} {x : DataW H × List MemPlace} (hx : DataW.trod enc PR w base spare held n 37 cs = some x) (hlen : cs.length = 6) :
    ∃ o : OpV, cs = opC o ∧ Sl w o.q (encE o.l) ∧ -9223372036854775808 ≤ o.n ∧ o.n ≤ 9223372036854775807 := by
  obtain ⟨m, hm⟩ := struct_of fo hx
  obtain ⟨y0, h0⟩ := hm 0 _ rfl
  obtain ⟨y1, h1⟩ := hm 1 _ rfl
  obtain ⟨y2, h2⟩ := hm 2 _ rfl
  obtain ⟨y3, h3⟩ := hm 3 _ rfl
  obtain ⟨y4, h4⟩ := hm 4 _ rfl
  match cs, hlen with
  | [v0, v1, v2, v3, v4, v5], _ =>
    rw [show PR.cellsOf (3, 0).1 = 1 from c3] at h0
    rw [show PR.cellsOf (3, 1).1 = 1 from c3] at h1
    rw [show PR.cellsOf (3, 2).1 = 1 from c3] at h2
    rw [show PR.cellsOf (32, 3).1 = 1 from c32] at h3
    rw [show PR.cellsOf (35, 4).1 = 2 from c35] at h4
    obtain ⟨n0, e0, _, _⟩ := DataW.trod_int u3 h0
    obtain ⟨n1, e1, _, r1⟩ := DataW.trod_int u3 h1
    obtain ⟨n2, e2, _, _⟩ := DataW.trod_int u3 h2
    obtain ⟨q, l, c, e3, s3⟩ := edges_of (v := v3) h3
    obtain ⟨m', hm'⟩ := struct_of fp h4
    obtain ⟨z0, g0⟩ := hm' 0 _ rfl
    obtain ⟨z1, g1⟩ := hm' 1 _ rfl
    rw [show PR.cellsOf (33, 0).1 = 1 from c33] at g0
    rw [show PR.cellsOf (3, 1).1 = 1 from c3] at g1
    obtain ⟨n5, e5, _, _⟩ := DataW.trod_int u3 g1
    obtain rfl : v0 = .int .i64 n0 := (List.cons.inj e0).1
    obtain rfl : v1 = .int .i64 n1 := (List.cons.inj e1).1
    obtain rfl : v2 = .int .i64 n2 := (List.cons.inj e2).1
    obtain rfl : v5 = .int .i64 n5 := (List.cons.inj e5).1
    subst e3
    have hv4 : ∃ q2 l2 c2, v4 = .slice q2 l2 c2 := by
      rcases open_slice u33 g0 with ⟨e1, _⟩ | ⟨a, len, cap, m, n, D, Pl, e1, _⟩
      · exact ⟨none, 0, 0, (List.cons.inj e1).1⟩
      · exact ⟨some a, len, cap, (List.cons.inj e1).1⟩
    obtain ⟨q2, l2, c2, rfl⟩ := hv4
    exact ⟨⟨n0, n1, n2, q, l, c, q2, l2, c2, n5⟩, rfl, s3, int_range r1⟩
theorem ops_of {fuel : Nat} {v : Value} {x : DataW H × List MemPlace} (h : DataW.trod enc PR w base spare held fuel 22 [v] = some x) : ∃ (q : Option Addr) (ops : List OpV) (c : Nat), v = .slice q ops.length c ∧ OpsAt w q ops := by
  obtain ⟨q, l, c, h1, h2, h3, _⟩ := slice_of opC_len (by decide) u22 c37 (G := fun o : OpV => Sl w o.q (encE o.l) ∧ -9223372036854775808 ≤ o.n ∧ o.n ≤ 9223372036854775807) (fun n cs x hx hlen => op_of hx hlen) h
  exact ⟨q, l, c, h1, h2, fun o ho => (h3 o ho).1, fun o ho => (h3 o ho).2⟩
end
end Go.Vc

/-! A part of the proof that two events of one line are one event: the calculus that follows known memory by computing, and its soundness. By an AI agent. -/














namespace Go.Vc
open Go Go.ChangeShapes Go.WideShapes Go.ChangeAt Go.RowKit Go.Proofs Go.Proofs.YtjfpofjppjaofaaGreat
section
variable {H : Type} {enc : TypeId × Value → H} {P : Program}
theorem post_of_below {f : Func} {s : ChangeSpec} {apart fresh handsOn again : Bool} {W W' : World} {args : Array Value} {v : Value} {ds gs : List (DataW H)} {before pa pv : List MemPlace}
    (hW : DataW.Whole enc P f.params.toList s.vars apart W args.toList ds gs before)
    (hres : ∀ (b : Nat) (sp : Nat → Bool) (hd : Bool), DataW.TrodAll enc P W' b sp hd f.resultTypes.toList (v.resultList f.resultTypes.size) (s.fn H (ds ++ gs)).results [])
    (hargs : ∀ sp : Nat → Bool, (∀ p ∈ before, sp p.block = true) → DataW.TrodAll enc P W' 0 sp true f.params.toList args.toList (s.fn H (ds ++ gs)).args pa)
    (hvars : ∀ sp : Nat → Bool, (∀ p ∈ before, sp p.block = true) → DataW.TrodVars enc P W' sp s.vars (s.fn H (ds ++ gs)).vars pv)
    (hps : before = pa ++ pv) (hb : Below W.heap.size W W')
    (hok : ∀ (j : Nat) (t : TypeId) (r : Value), f.resultTypes[j]? = some t → (v.resultList f.resultTypes.size)[j]? = some r → Value.okWide P W' .any 0 t r) :
    s.post enc P f apart fresh handsOn again W args v W' := by
  have hlt : ∀ p ∈ before, p.block < W.heap.size := fun p hp => hW.lt p hp
  have hold : ∀ p ∈ before, (fun b => decide (b < W.heap.size)) p.block = true := fun p hp => by simpa using hlt p hp
  refine ⟨ds, gs, before, [], pa, pv, hW, hres _ _ _, hargs _ hold, hvars _ hold, World.keptBut_mono (fun p hp => ⟨hp, ?_⟩) (hb.frame (· ∈ before)), fun _ => ?_⟩
  · rw [hps, List.mem_append] at hp
    exact Or.inr hp
  · obtain ⟨_, _, _, _, _, hz, hn⟩ := hW
    refine ⟨hok, _, _, ([] ++ pa) ++ pv, ⟨[] ++ pa, pv, trodAll_append (hargs _ (fun _ _ => rfl)) (hres _ _ _), hvars _ (fun _ _ => rfl), rfl, ?_, ?_⟩, ?_⟩
    · intro b off hp
      have hin : MemPlace.cell b off ∈ before := by rw [hps]; simpa using hp
      rw [hb.frozen (hlt _ hin)]
      exact hz b off hin
    · intro ha
      have := hn ha
      rw [hps] at this
      simpa using this
    · intro p hp _
      rw [hps]
      simpa using hp
end
theorem below_of_grow {w w' : World} (h : Grow w w') : Below w.heap.size w w' := ⟨h.os, h.tape, h.output, h.size, fun k hk => h.block k hk (fun e => e)⟩
theorem own : ownKnob PR.godebug = none := by kernel_rfl
theorem lay : laidOutB PR = true := by kernel_rfl
theorem rec22 : PR.readableRec 22 = true := by kernel_rfl
theorem params4 : Tryz.f4.params = #[22] := by kernel_rfl
theorem contract (H : Type) (enc : TypeId × Value → H) (W : World) (base : Nat) (args : Array Value) (ds gs : List (DataW H)) (before : List MemPlace)
    (hval : ∀ (j : Nat) t v, Tryz.f4.params[j]? = some t → args[j]? = some v → Value.okWide Tryz.prog W .any base t v)
    (hW : DataW.Whole enc Tryz.prog Tryz.f4.params.toList Rows.pubRefusesSpec.vars false W args.toList ds gs before) :
    Calls Tryz.prog 4 args W fun e W' => ∃ v, e = .returned v ∧ Rows.pubRefusesSpec.post enc Tryz.prog Tryz.f4 false true false false W args v W' := by
  have hW' := hW
  obtain ⟨p, q, hA0, hV, rfl, hfz, hnd⟩ := hW
  have hA : DataW.TrodAll enc Tryz.prog W 0 (fun _ => true) true Tryz.f4.params.toList args.toList ds p := hA0
  rw [params4] at hA hval
  obtain ⟨v0, d0, rfl, rfl, h0⟩ := trodAll_one hA
  obtain ⟨rfl, rfl⟩ := trodVars_none hV
  have h0k := h0
  obtain ⟨q0, l0, c0, rfl⟩ := okWide_slice u22 (hval 0 _ _ rfl rfl)
  obtain ⟨fuel, hf⟩ := h0
  obtain ⟨y, ops, c, e, hops⟩ := ops_of (v := .slice q0 l0 c0) hf
  cases e
  have hl0 : ∀ x ∈ p, x.block < W.heap.size := fun x hx => hW'.lt x (by simp [hx])
  refine PubRefuses_spec hops rfl fun W' g => ?_
  have hb := below_of_grow g
  refine post_of_below (pa := p) (pv := []) hW' (fun _ _ _ => trodAll_cons_mk (shut_bool u4 _) trodAll_mk0)
    (fun sp hsp => ?_) (fun _ _ => rfl) (by simp) hb (ok_one (by kernel_rfl) rfl (okWide_bool_mk u4 _))
  rw [params4]
  exact trodAll_mk1 (WideElems.Trod_stays lay rec22 (of_decide_eq_true (by kernel_rfl)) h0k (fun x hx => hb.same (hl0 x hx)) (fun x hx => hsp x (by simp [hx])))

theorem reads (os : Os) {H : Type} (enc : TypeId × Value → H) : ∃ places, DataW.whole enc Tryz.prog ((World.settled Tryz.prog os).forCall (fun _ _ => 0) ⟨#[], #[.slice none 0 0], []⟩).memory Tryz.f4.params.toList Rows.pubRefusesSpec.vars false #[Value.slice none 0 0].toList 8 =
    some ([.nil], [], places) := ⟨[], by kernel_rfl⟩
theorem lifted (os : Os) (started : os.Started) (H : Type) (enc : TypeId × Value → H) (F : Stop.Interp) :
    ReturnsInHanded {} Tryz.checked os 4 .any ((OpenSpec.ofChange Rows.pubRefusesSpec).preRow enc Tryz.prog Tryz.f4 Rows.pubRefusesRow.domain false Rows.pubRefusesRow.laid) (((OpenSpec.ofChange Rows.pubRefusesSpec).at F).post enc Tryz.prog Tryz.f4 false true false false) := by
  obtain ⟨places, hx⟩ := reads os enc
  refine returnsInHanded_of_row (C := Tryz.checked) (s := OpenSpec.ofChange Rows.pubRefusesSpec) own started (by kernel_rfl) Tryz.func4
    (witness_row_atRef (enc := enc) (C := Tryz.checked) false (World.settled Tryz.prog os) #[.slice none 0 0] rfl (by kernel_rfl) (by kernel_rfl) (by kernel_rfl)
      (OpenSpec.preRow_of_cond 8 hx (by kernel_rfl) (fun k hk => by cases hk) (by kernel_rfl) (show laidMetH _ [] _ from ⟨[], rfl, List.nodup_nil, fun b off h => by cases h⟩))) ?_
  intro W base args ds gs before hval hW _ _ _ hL hsh _
  exact contract H enc W base args ds gs before hval hW
theorem said : Rows.PubRefusesSaid :=
  OpenClaim.holds_of_cond 4 Tryz.f4 rfl rfl rfl rfl rfl rfl rfl ⟨rfl, rfl, rfl, rfl, rfl⟩ rfl rfl rfl rfl rfl (by kernel_rfl) Tryz.func4 (by kernel_rfl)
    (of_decide_eq_true (by kernel_rfl)) (by unfold Func.isWrapper; first | (rw [if_pos (by decide +kernel)]; kernel_rfl) | (rw [if_neg (by decide +kernel)]; exact ⟨rfl, rfl⟩))
    (fun os started H enc _ F => by rw [OpenClaim.pre_eq_preRow]; exact lifted os started H enc F)
end Go.Vc
