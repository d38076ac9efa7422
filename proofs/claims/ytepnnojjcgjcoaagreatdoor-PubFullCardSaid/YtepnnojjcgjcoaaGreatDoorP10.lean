/-
  A part of the proof of the statement PubFullCardSaid, in Lean: Pb3, Rdn, RoG, Ns, As1, As2, As3, As4, As5, As6, RoE, Aw2, Cn, Kp1, MirR1, Fu1. By an AI agent.
-/
import Derived.Test.YtepnnojjcgjcoaaGreatDoorP09
import Derived.OpenShut
import Derived.KernelRfl
import Derived.WalkKit
import Derived.ProofKit
import Derived.Below
import Derived.ChangeSame
import Derived.Carry
import Derived.Deep.SlicePairs
import Derived.Deep.Grids
import Derived.ChangeArms
import Derived.WideShapes
import Derived.Test.YtepnnojjcgjcoaaGreatDoorP04
import Derived.MapKept
import Derived.WideKeyMaps
import Derived.WideKeyRuns
import Derived.Test.YtepnnojjcgjcoaaGreatDoorP07
import Derived.LaidEql
import Derived.Stop.Asserts
import Derived.RowKitTokens
import Derived.Test.YtepnnojjcgjcoaaGreatDoorCards
import Derived.Test.YtepnnojjcgjcoaaGreatDoorTie
import Derived.LaidSub
import Derived.LaidLaws
import Derived.LaidHandle
import Derived.Stop.LaidErr
import Derived.Deep.DeepHandedRow
import Derived.Deep.DeepWitnessRowRef
import Derived.Lib.LaidTab
import Derived.Lib.LaidIn
import Derived.Test.YtepnnojjcgjcoaaGreatDoorShelfC
import Derived.Maps.OwnSet
import Derived.Test.YtepnnojjcgjcoaaGreatDoorP02
set_option linter.unusedSimpArgs false
set_option linter.unusedVariables false
set_option maxRecDepth 1000000
/-! A part of the proof that two events of one line are one event: the calculus that follows known memory by computing, and its soundness. By an AI agent. -/

namespace Go.Vc
open Go Go.MapKept
/-! ## a graph is published, a version committed -/
theorem sum_le_len (l : List (List UInt8)) (k : Nat) (h : ∀ x ∈ l, x.length ≤ k) : l.flatten.length ≤ k * l.length := by
  induction l with
  | nil => simp
  | cons a l ih =>
    have h1 := ih fun x hx => h x (List.mem_cons_of_mem _ hx)
    have h2 := h a List.mem_cons_self
    rw [List.flatten_cons, List.length_append, List.length_cons, Nat.mul_add]; omega
theorem putText1 (s : List UInt8) : putTextL [s] = putShort s.length ++ s := by simp [putTextL]
theorem str86 : (⟨#[86]⟩ : ByteArray) = str [86] := rfl
theorem str67 : (⟨#[67]⟩ : ByteArray) = str [67] := rfl
theorem putShort_le (n : Nat) (h : n ≤ 72057594037927935) : (putShort n).length ≤ 8 := by
  have := shorts_len (l := [(n : Int)]) (by simp; omega)
  simpa [shorts] using this
theorem only_of {last com i : Nat} (h : ¬ delP last com (.int .i64 (i : Int))) : last < i + 3 ∨ i = com := by
  by_cases h1 : last < i + 3
  · exact .inl h1
  · by_cases h2 : i = com
    · exact .inr h2
    · exact absurd ⟨i, rfl, by omega, by omega⟩ h
/-- there is surely room for it -/
def snug (x : PubS) (nodes : Int) (l : List (Int × Int)) : Prop := roomy nodes x.each l ∧ 2700 + 9 * nodes + 8 * l.length ≤ 60000 ∧ 2700 + 9 * nodes + 8 * l.length ≤ x.room
/-- a graph is published: its version, its blocks -/
def PubOk (x : PubS) (nodes : Int) (l : List (Int × Int)) (mn : Man) (list : List (List UInt8)) : Prop :=
  goodG nodes l ∧ nodes ≤ 64 * (x.each : Int) ∧ MakeR ((x.last + 1 : Nat) : Int) nodes x.each l mn list ∧ list.length ≤ 2048 ∧ (recV mn list).length ≤ 60000 ∧ (recV mn list).length + 6 ≤ x.room
/-- why it isn't -/
def PubErr (x : PubS) (nodes : Int) (l : List (Int × Int)) (c : Int) : Prop :=
  MakeE nodes x.each l c ∨ (c = 7 ∧ ∃ mn list, goodG nodes l ∧ nodes ≤ 64 * (x.each : Int) ∧ MakeR ((x.last + 1 : Nat) : Int) nodes x.each l mn list ∧ ¬ ((recV mn list).length ≤ 60000 ∧ (recV mn list).length + 6 ≤ x.room))
theorem jrn_next {w w' : World} {x : PubS} {q' : Option Addr} (hq : ∀ a, q' = some a → x.q = some a ∨ w.heap.size ≤ a.block) : ∀ k, (k = x.p ∨ k = x.m ∨ jrnS x.bj x.bd q' k) → x.reg k ∨ w.heap.size ≤ k := by
  rintro k (rfl | rfl | rfl | rfl | ⟨a, ha, rfl⟩)
  · exact .inl (.inl rfl)
  · exact .inl (.inr (.inl rfl))
  · exact .inl (.inr (.inr (.inl rfl)))
  · exact .inl (.inr (.inr (.inr (.inl rfl))))
  · rcases hq a ha with h | h
    · exact .inl (.inr (.inr (.inr (.inr ⟨a, h, rfl⟩))))
    · exact .inr h
theorem Publish_full {N : Nat} {w : World} {x : PubS} (h : PubAt N w x) (hN : N ≤ w.heap.size) {nodes : Int} {l : List (Int × Int)} {y : Option Addr} {n cy : Nat} (hs : Sl w y (encE l)) (hl : n = l.length) (hn : n ≤ 100000) {K : Value → World → Prop}
    (h1 : ∀ w' x' mn list, PubOk x nodes l mn list → x'.recs = x.recs ++ [recV mn list] → (x'.man = fun i => if i = x.last + 1 then mn else x.man i) → PubAt N w' x' → Chg x.reg w w' → x'.p = x.p → x'.bd = x.bd → x'.each = x.each → x'.last = x.last + 1 → x'.com = x.com → x'.room < x.room → (x.room : Int) ≤ x'.room + 2700 + 9 * nodes + 8 * l.length → x'.ex = x.ex → (∀ k, x'.reg k → x.reg k ∨ w.heap.size ≤ k) → goodG nodes l → K (.tuple #[.int .i64 x'.last, .nilIface]) w')
    (h2 : ∀ w' v c, Grow w w' → PubAt N w' x → isEC c v → PubErr x nodes l c → ¬ snug x nodes l → K (.tuple #[.int .i64 0, v]) w') :
    CallV PR F.p_pub_Pub_Publish ⟨[.pointer (some ⟨x.p, 0, none⟩), .int .i64 nodes, .slice y n cy]⟩ w K := by
  obtain ⟨hsl, hsc, hsr⟩ := h.small
  have hlt := h.lt
  have h0 : Fs x.reg w [⟨x.p, pubC x.bj x.each x.last x.com x.m, T.pub_Pub, true⟩] w := (Fr.init _ w).entry h.blk (fun x h => by cases h) fun _ => .inl rfl
  refine pub_Pub_Publish x.p (some ⟨x.bj, 0, none⟩) x.each x.last x.com (some x.m) nodes y n cy x.reg K w h0 ⟨.inl rfl, trivial⟩ fun w0 hF0 => ?_
  have g0 : Grow w w0 := hF0.grow
  refine ⟨fun _ => True, trivial, ?_⟩
  have e1 : IntKind.wrap .i64 ((x.last : Int) + 1) = ((x.last + 1 : Nat) : Int) := by rw [w64 (by omega) (by omega)]; omega
  rw [e1]
  refine Make_full (version := ((x.last + 1 : Nat) : Int)) h.each1 h.each2 (hs.grow g0) hl hn (fun w1 b mn list g1 hbl hv hL hmv hfl hgg h64 hmk hl2 => ?_) (by omega) fun w1 v cc g1 hv hme hbad => ?_
  · have g01 := g0.trans g1
    have hF1 := hF0.reset.after g1
    refine ⟨_, _, rfl, hF1, trivial, fun _ => ?_, (fun t x h => by cases h), .inl rfl⟩
    have hv1 : VerO x.dom w1 b mn list := hv.keep (.refl (fun _ => False) _) (fun _ _ e => e.elim) fun k _ e => by
      have := g0.size
      rcases e with e | e
      · have := hlt k e; omega
      · have := h.exlt k e; omega
    obtain ⟨qm, cm, ql, cl, hb1, hb0, hq1, hq2, hlc⟩ := id hv1
    have hcell : ∀ {w' : World}, Grow w1 w' → ∀ k v, (verC mn qm cm list ql cl)[k]? = some v → w'.cell? ⟨b, k, none⟩ = some v := fun g k v hv => by
      rw [cell_blk (Grow.get g hb1)]; exact hv
    have hmn := putMan_len hL.ok
    have hbl2 := hL.ok.blocks.2
    have hbe := hL.blocks
    have hps : (putShort (putMan mn).length).length ≤ 8 := putShort_le _ (by omega)
    have hfl2 : list.flatten.length ≤ 200000 := by
      have := sum_le_len list 64 hL.small
      omega
    refine Dr_some.2 (Dr_some.2 (Dr_some.2 ⟨mn.version, by rw [add_mk, add_mk]; exact hcell (.refl _ _) 0 _ rfl, mn.nodes, by rw [add_mk, add_mk]; exact hcell (.refl _ _) 1 _ rfl, mn.edges, by rw [add_mk, add_mk]; exact hcell (.refl _ _) 2 _ rfl, qm, mn.shards.length, cm, by rw [add_mk, add_mk]; exact hcell (.refl _ _) 3 _ rfl, mn.blocks, by rw [add_mk, add_mk]; exact hcell (.refl _ _) 4 _ rfl, str mn.root, by rw [add_mk, add_mk]; exact hcell (.refl _ _) 5 _ rfl, ?_⟩))
    refine MPut_ok hL.ok hq1.sl fun w2 g2 => ⟨_, _, rfl, hF1.after g2, fun w3 hF3 => ?_⟩
    have g3 : Grow w2 w3 := hF3.grow
    refine ⟨fun w' => w'.cell? ⟨b, 6, none⟩ = some (.slice ql list.length cl), hcell (g2.trans g3) 6 _ rfl, Dr_some.2 (Dr_some.2 (Dr_some.2 ⟨_, _, _, fun w4 h => by rw [add_mk]; exact h, fun l4 hl4 w5 hF5 => ?_⟩))⟩
    have g5 : Grow w3 w5 := hF5.grow
    have g15 : Grow w1 w5 := (g2.trans g3).trans g5
    refine ⟨hcell g15 6 _ rfl, ?_⟩
    have hsl5 : Sl w5 (some ⟨l4, 0, none⟩) ([putMan mn].map sv8') := .inr ⟨l4, 0, rfl, _, _, _, hF5.blk 1 rfl, fun i hi => by
      have : i = 0 := by simpa using hi
      subst this; rfl⟩
    have hptl : (putTextL [putMan mn]).length ≤ 1208 := by rw [putText1, List.length_append]; omega
    refine PutText_spec hsl5 rfl (by simp) (by omega) fun w6 g6 => ⟨_, rfl, hF5.after g6, hcell (g15.trans g6) 6 _ rfl, by rw [str_size]; omega, ?_⟩
    refine Join0_spec (hq2.sl.grow (g15.trans g6)) rfl hlc (by omega) (by omega) fun w7 g7 => ⟨_, rfl, (hF5.after g6).after g7, hcell ((g15.trans g6).trans g7) 6 _ rfl, by rw [str86, str_append, str_size, str_size, List.length_append, List.length_singleton]; omega, ?_⟩
    rw [str86, str_append, str_append]
    have g17 := (g15.trans g6).trans g7
    have g07 := g01.trans g17
    have hF7 := (hF5.after g6).after g7
    have hp7 := h.grow g07
    have hrl : (recV mn list).length = 1 + (putTextL [putMan mn]).length + list.flatten.length := by simp [recV]; omega
    have hF7' : Fs x.reg w [⟨x.p, pubC x.bj x.each x.last x.com x.m, T.pub_Pub, true⟩] w7 := hF7.sub (List.Sublist.cons_cons _ (List.nil_sublist _))
    have hl4 : w.heap.size ≤ l4 := by have := g01.size; have := g2.size; have := g3.size; omega
    refine write_spec (s := recV mn list) hp7.blk hp7.jrn h.room hsr (by omega) (fun hs1 hs2 w8 q' c' hj8 g8 hq' => ?_) fun hno => ?_
    · have hpub := hp7.jrn.pub hp7.blk
      obtain ⟨nm, hm⟩ := hp7.map
      have hmj := hp7.jrn.mapb hm
      have hF8 := hF7.step g8 (fun z hz => by
        rcases List.mem_cons.1 hz with rfl | hz
        · exact hpub
        · simp at hz; subst hz
          exact fun e => by have := hlt _ (.inr (.inr e)); simp only [] at this; omega) (fun k _ e => .inr (.inr e))
      have hb8 : ¬ jrnS x.bj x.bd x.q b := fun e => hb0 (.inl (.inr (.inr e)))
      have hv7 : VerO x.dom w7 b mn list := hv1.keep g17 (fun _ _ e => e.elim) (fun _ _ e => e)
      have hv8 : VerO x.dom w8 b mn list := hv7.keep g8 (fun _ _ e => .inl (.inr (.inr e))) (fun _ _ e => e)
      have hc8 : w8.cell? ⟨b, 6, none⟩ = some (.slice ql list.length cl) := by
        rw [cell_blk (g8.get (Grow.get g17 hb1) hb8)]; rfl
      refine ⟨_, rfl, _, _, _, _, _, hF8, hc8, fun _ => ?_, (fun t x h => by cases h), .inl rfl⟩
      have hb8' := g8.get hp7.blk hpub
      have hm8 := hm.keep g8 hmj
      refine show_spec (ver := x.last + 1) (mn := mn) (list := list) hb8' hm8 h.shown (hv8.keep (.refl (fun _ => False) _) (fun _ _ e => e.elim) (fun k _ e => .inl (e.elim .inl fun e => .inr (.inl e)))) hL hmv (by omega) fun w9 cc n9 g9 hb9 hm9 => ?_
      have hF8' : Fs x.reg w [⟨x.p, pubC x.bj x.each x.last x.com x.m, T.pub_Pub, true⟩] w8 := hF8.sub (List.Sublist.cons_cons _ (List.nil_sublist _))
      have hF9 : Fs x.reg w [⟨x.p, pubC x.bj x.each ((x.last + 1 : Nat) : Int) x.com x.m, T.pub_Pub, true⟩] w9 := hF8'.mod g9 hb9 (fun z hz => by cases hz) fun k _ e => e.elim .inl fun e => .inr (.inl e)
      refine ⟨rfl, _, _, _, _, _, hF9, ?_⟩
      have hv9 : VerO x.dom w9 b mn list := hv8.keep g9 (fun k _ e => .inl (e.elim .inl fun e => .inr (.inl e))) (fun _ _ e => e)
      have hc9 : w9.cell? ⟨b, 0, none⟩ = some (.int .i64 ((x.last + 1 : Nat) : Int)) := by
        obtain ⟨q9, c9, ql9, cl9, h9, _⟩ := hv9
        rw [cell_blk h9, ← hmv]; rfl
      refine Dr_some.2 (Dr_some.2 (Dr_some.2 (Dr_some.2 ⟨_, hc9, ?_⟩)))
      have hqn : ∀ a, q' = some a → x.q = some a ∨ w.heap.size ≤ a.block := fun a ha => (hq' a ha).imp id fun h => Nat.le_trans g07.size h
      have hreg := jrn_next (w' := w9) hqn
      have hmj8 : ¬ (fun k => k = x.p ∨ k = x.m) x.bj := by
        rintro (e | e)
        · exact hpub (.inl e.symm)
        · exact hmj (.inl e.symm)
      have hj9 : JrnAt w9 x.bj x.bd q' c' (x.recs ++ [recV mn list]) := hj8.keep g9 fun k e hk => by
        rcases e with rfl | rfl
        · exact hj8.pub hb8' hk
        · exact hj8.mapb hm8 hk
      let x' : PubS := ⟨x.p, x.bj, x.bd, x.m, x.each, q', c', x.last + 1, x.com, x.recs ++ [recV mn list], fun k v => updR x.R (.int .i64 ((x.last + 1 : Nat) : Int)) (.agg #[.pointer (some ⟨b, 0, none⟩), .pointer (some ⟨cc, 0, none⟩)]) k v ∧ ¬ delP ((x.last + 1 : Nat) : Int) x.com k, (fun i => if i = x.last + 1 then mn else x.man i), x.ex⟩
      have hlog : (logL (x.recs ++ [recV mn list])).length = (logL x.recs).length + (recV mn list).length + 6 := by
        rw [logL_snoc, List.length_append, sealL_len]; omega
      have hreg8 : ∀ k, k < w8.heap.size → x'.reg k → x.reg k ∨ w7.heap.size ≤ k := fun k _ e => by
        rcases jrn_next (w := w7) (w' := w9) hq' k e with h | h
        · exact .inl h
        · exact .inr h
      -- versions that were known lie in blocks of before
      have kept7 : ∀ k v, x.R k v → KeptAt x.dom w7 x.last x.man k v := hp7.kept
      have keep9 : ∀ {b mn list}, VerO x.dom w7 b mn list → VerO x'.dom w9 b mn list := fun hv => by
        have a8 : VerO (fun k => (k = x.p ∨ k = x.m ∨ jrnS x.bj x.bd q' k) ∨ x.ex k) w8 _ _ _ := hv.keep g8 (fun _ _ e => .inl (.inr (.inr e))) (fun k hk e => e.elim (fun e => .inl ((jrn_next (w := w7) (w' := w8) hq' k e).elim id fun h => by omega)) .inr)
        exact a8.keep g9 (fun k _ e => .inl (e.elim .inl fun e => .inr (.inl e))) (fun _ _ e => e)
      refine h1 w9 x' mn list ⟨hgg, h64, hmk, hl2, hs1, by unfold PubS.room; omega⟩ rfl rfl ⟨hb9, hj9, ⟨n9, hm9⟩, ?_, ?_, by show x.com ≤ x.last + 1; have := h.com_le; omega, by show x.last + 1 ≤ _; rw [List.length_append, List.length_singleton]; have := h.last_le; omega, by show (logL _).length ≤ _; rw [hlog]; omega, h.each1, h.each2, fun k hk => ?_, fun k hk => Nat.lt_of_lt_of_le (h.exlt k hk) hF9.chg.size, fun j v hr => only_of hr.2, h.rep.snoc (.ver mn list) ⟨hL, hmv⟩ hs1 rfl⟩ hF9.chg rfl rfl rfl rfl rfl ?_ ?_ rfl hreg hgg
      · rintro k v ⟨hr, _⟩
        rcases hr with ⟨rfl, rfl⟩ | ⟨hne, hr⟩
        · exact ⟨x.last + 1, b, cc, mn, list, by omega, Nat.le_refl _, rfl, rfl, keep9 hv7, hL, hmv, by show mn = if x.last + 1 = x.last + 1 then mn else x.man (x.last + 1); rw [if_pos rfl]⟩
        · obtain ⟨i, b', c', mn', list', k1, k2, k3, k4, k5, k6⟩ := kept7 k v hr
          exact ⟨i, b', c', mn', list', k1, by show i ≤ x.last + 1; omega, k3, k4, keep9 k5, k6.1, k6.2.1, by show mn' = if i = x.last + 1 then mn else x.man i; rw [if_neg (by omega)]; exact k6.2.2⟩
      · intro i hi1 hi2 hi3
        have hi2' : i ≤ x.last + 1 := hi2
        have hi3' : x.last + 1 < i + 3 ∨ i = x.com := hi3
        have hnd : ¬ delP ((x.last + 1 : Nat) : Int) x.com (.int .i64 (i : Int)) := by
          rintro ⟨j, hj, k1, k2⟩
          have e2 : (i : Int) = j := by injection hj
          subst e2
          rcases hi3' with h' | h'
          · omega
          · exact k2 (by rw [h'])
        by_cases hi : i = x.last + 1
        · subst hi; exact ⟨_, .inl ⟨rfl, rfl⟩, hnd⟩
        · obtain ⟨v, hv⟩ := h.has i hi1 (by omega) (hi3'.imp (fun h => by omega) id)
          refine ⟨v, .inr ⟨fun e => hi ?_, hv⟩, hnd⟩
          have e2 : (i : Int) = ((x.last + 1 : Nat) : Int) := by injection e
          omega
      · rcases hreg k hk with e | e
        · exact h.lo k e
        · omega
      · show 200000 - (logL (x.recs ++ [recV mn list])).length < 200000 - (logL x.recs).length
        rw [hlog]; omega
      · show ((200000 - (logL x.recs).length : Nat) : Int) ≤ ((200000 - (logL (x.recs ++ [recV mn list])).length : Nat) : Int) + 2700 + 9 * nodes + 8 * l.length
        rw [hlog]; omega
    · refine ⟨_, rfl, _, _, _, _, _, hF7, hcell g17 6 _ rfl, (fun h => by cases h), fun t v he => ?_, .inr ⟨_, _, rfl⟩⟩
      refine h2 w7 _ 7 g07 hp7 (.inl rfl) (.inr ⟨rfl, mn, list, hgg, h64, hmk, fun hh => hno ⟨hh.1, by have := hh.2; have := h.room; unfold PubS.room at *; omega⟩⟩) fun hh => hno ?_
      have hr := h.room
      have h3 := hh.2.1
      have h4 := hh.2.2
      unfold PubS.room at h4
      omega
  · have g01 := g0.trans g1
    refine ⟨_, _, rfl, hF0.reset.after g1, trivial, (fun h => by obtain ⟨t, x, rfl⟩ := hv.err; cases h), fun t v he => ?_, .inr (by obtain ⟨t, x, h⟩ := hv.err; exact ⟨t, x, h⟩)⟩
    exact h2 w1 _ cc g01 (h.grow g01) hv (.inl hme) fun hh => hbad hh.1
theorem Publish_spec {N : Nat} {w : World} {x : PubS} (h : PubAt N w x) (hN : N ≤ w.heap.size) {nodes : Int} {l : List (Int × Int)} {y : Option Addr} {n cy : Nat} (hs : Sl w y (encE l)) (hl : n = l.length) (hn : n ≤ 100000) {K : Value → World → Prop}
    (h1 : ∀ w' x', PubAt N w' x' → Chg x.reg w w' → x'.p = x.p → x'.bd = x.bd → x'.each = x.each → x'.last = x.last + 1 → x'.com = x.com → x'.room < x.room → (x.room : Int) ≤ x'.room + 2700 + 9 * nodes + 8 * l.length → x'.ex = x.ex → (∀ k, x'.reg k → x.reg k ∨ w.heap.size ≤ k) → goodG nodes l → K (.tuple #[.int .i64 x'.last, .nilIface]) w')
    (h2 : ∀ w' v, Grow w w' → PubAt N w' x → isErr v → ¬ snug x nodes l → K (.tuple #[.int .i64 0, v]) w') :
    CallV PR F.p_pub_Pub_Publish ⟨[.pointer (some ⟨x.p, 0, none⟩), .int .i64 nodes, .slice y n cy]⟩ w K :=
  Publish_full h hN hs hl hn (fun w' x' _ _ _ _ _ => h1 w' x') fun w' v c g hx hv _ hno => h2 w' v g hx hv.err hno

theorem tyI_shown : ∃ i, PR.info? T.pub_shown = some i ∧ i.zero = some (.agg #[.pointer none, .pointer none]) := by
  have h : (match PR.info? T.pub_shown with | some i => (match i.zero with | some (.agg ⟨[.pointer none, .pointer none]⟩) => true | _ => false) | none => false) = true := by kernel_rfl
  split at h
  · rename_i i hi
    refine ⟨i, hi, ?_⟩
    split at h
    · assumption
    · cases h
  · cases h
theorem map_zero : ∀ w : World, (zeroValue T.pub_shown).run PR w = .ok (.agg #[.pointer none, .pointer none]) w := fun w => by
  obtain ⟨i, hi, hz⟩ := tyI_shown
  simp [zeroValue, typeInfo, hi, hz]
theorem commit_spec {w : World} {p bj m n each last com ver : Nat} {R : Value → Value → Prop} {v : Value} (hb : w.heap[p]? = some (.cells (pubC bj each last com m) T.pub_Pub (0, 0))) (hm : MapP w T.int m n R) (hsh : shownR R) (hlast : last ≤ 1000000) (hR : R (.int .i64 (ver : Int)) v) (hlt : com < ver) {K : Value → World → Prop}
    (hK : ∀ w' n', Chg (fun k => k = p ∨ k = m) w w' → w'.heap[p]? = some (.cells (pubC bj each last ver m) T.pub_Pub (0, 0)) → MapP w' T.int m n' (fun k v => R k v ∧ ¬ delP last ver k) → K (.tuple #[]) w') :
    CallV PR F.p_pub_Pub_commit ⟨[.pointer (some ⟨p, 0, none⟩), .int .i64 (ver : Int)]⟩ w K := by
  have hpm := mapNe hb hm
  obtain ⟨i, b, c, k2, k3, k4⟩ := hsh _ _ hR
  have hvi : ver = i := by
    have e2 : (ver : Int) = (i : Int) := by injection k3
    omega
  subst hvi
  refine pub_Pub_commit p (some ⟨bj, 0, none⟩) each last com (some m) ver (fun k => k = p ∨ k = m) K w ((Fr.init _ w).entry hb (fun x h => by cases h) fun _ => .inl rfl) ⟨.inl rfl, trivial⟩ ?_
  refine lookup_rn keyedI map_shown hm (key_int (i := (ver : Int)) (by omega) (by omega)) true map_zero (fun v' hv' => ?_) fun hno => absurd hR (hno v)
  have : v' = v := hm.inj hv' hR
  subst this
  subst k4
  refine ⟨_, _, true, rfl, (fun _ => ⟨(Fr.init _ w).entry hb (fun x h => by cases h) fun _ => .inl rfl, fun l0 hl0 => ⟨fun _ w1 hF1 => ?_, fun hh => absurd hlt (by omega)⟩⟩), fun h => by cases h⟩
  have g1 : Chg (· = p) w w1 := hF1.stp.mono fun i hi he => by simp at he; rcases he with e | e; exact e; omega
  have hm1 := hm.keep g1 hpm.symm
  refine trim_spec (hF1.blk 0 rfl) hm1 hsh (by omega) fun w2 g2 hm2 => ?_
  have hF2 := hF1.reset.step g2 (fun z hz => by simp at hz; subst hz; exact hpm) fun k _ e => .inr e
  exact ⟨rfl, _, _, _, _, _, hF2, hK w2 _ hF2.chg (hF2.blk 0 rfl) hm2⟩
theorem Commit_full {N : Nat} {w : World} {x : PubS} (h : PubAt N w x) (hN : N ≤ w.heap.size) {ver : Int} (hi : -9223372036854775808 ≤ ver ∧ ver ≤ 9223372036854775807) {K : Value → World → Prop}
    (h1 : ∀ w' x', x'.recs = x.recs ++ [recC x'.com] → (recC x'.com).length + 6 ≤ x.room → PubAt N w' x' → Chg x.reg w w' → x'.p = x.p → x'.bd = x.bd → x'.each = x.each → x'.last = x.last → ver = x'.com → x.com < x'.com → x'.room < x.room → x.room ≤ x'.room + 20 → x'.man = x.man → x'.com ≤ x'.last → x'.ex = x.ex → (∀ k, x'.reg k → x.reg k ∨ w.heap.size ≤ k) → K .nilIface w')
    (h2 : ∀ w' v c, Grow w w' → PubAt N w' x → v = .iface T.api_Errno (.int .i64 c) → (c = 13 ∧ ¬ (x.com < ver ∧ ver ≤ x.last ∧ x.last < ver + 3) ∨ c = 7 ∧ (x.com < ver ∧ ver ≤ x.last ∧ x.last < ver + 3) ∧ x.room < (recC ver.toNat).length + 6) → ¬ (x.com < ver ∧ ver ≤ x.last ∧ x.last < ver + 3 ∧ 20 ≤ x.room) → K v w') :
    CallV PR F.p_pub_Pub_Commit ⟨[.pointer (some ⟨x.p, 0, none⟩), .int .i64 ver]⟩ w K := by
  obtain ⟨hsl, hsc, hsr⟩ := h.small
  obtain ⟨n, hm⟩ := h.map
  have hpm := mapNe h.blk hm
  have hlt := h.lt
  have h0 : Fs x.reg w [⟨x.p, pubC x.bj x.each x.last x.com x.m, T.pub_Pub, true⟩] w := (Fr.init _ w).entry h.blk (fun x h => by cases h) fun _ => .inl rfl
  refine pub_Pub_Commit x.p (some ⟨x.bj, 0, none⟩) x.each x.last x.com (some x.m) ver x.reg K w h0 ⟨.inl rfl, trivial⟩ ?_
  refine lookup_rn keyedI map_shown hm (key_int hi.1 hi.2) true map_zero (fun v hv => ?_) fun hno => ?_
  · obtain ⟨i, b, c, mn, list, k1, k2, k3, k4, k5⟩ := h.kept _ _ hv
    have hvi : ver = i := by injection k3
    subst hvi
    subst k4
    refine ⟨_, _, true, rfl, (fun _ => ⟨h0, fun l0 hl0 => ⟨fun hle w1 hF1 => ?_, fun hgt w1 hF1 => ?_⟩⟩), fun h => by cases h⟩
    · have g1 : Grow w w1 := (hF1.unM hl0).grow
      exact h2 w1 _ 13 g1 (h.grow g1) rfl (.inl ⟨rfl, fun hh => by omega⟩) fun hh => by omega
    · have g1 : Grow w w1 := (hF1.unM hl0).grow
      have hF1' := (hF1.unM hl0).reset
      refine PutShort_spec (n := (i : Int)) (by omega) fun w2 g2 => ⟨_, _, rfl, hF1'.after g2, ?_⟩
      have hF2 := hF1'.after g2
      have g02 := g1.trans g2
      have hpl := putShort_le i (by omega)
      rw [Int.toNat_natCast] at *
      refine ⟨by rw [str_size]; omega, ?_⟩
      rw [str67, str_append]
      have hp2 := h.grow g02
      obtain ⟨n2, hm2⟩ := hp2.map
      have hrl : (recC i).length = 1 + (putShort i).length := by simp [recC]; omega
      refine write_spec (s := recC i) hp2.blk hp2.jrn h.room hsr (by omega) (fun hs1 hs2 w3 q' c' hj3 g3 hq' => ?_) fun hno => ?_
      · have hpub := hp2.jrn.pub hp2.blk
        have hmj := hp2.jrn.mapb hm2
        have hF3 := hF2.step g3 (fun z hz => by simp at hz; subst hz; exact hpub) (fun k _ e => .inr (.inr e))
        refine ⟨_, rfl, _, _, _, _, _, hF3, fun _ => ?_, (fun t x h => by cases h), .inl rfl⟩
        have hb3 := g3.get hp2.blk hpub
        have hm3 := hm2.keep g3 hmj
        have hlog : (logL (x.recs ++ [recC i])).length = (logL x.recs).length + (recC i).length + 6 := by
          rw [logL_snoc, List.length_append, sealL_len]; omega
        let x1 : PubS := ⟨x.p, x.bj, x.bd, x.m, x.each, q', c', x.last, x.com, x.recs ++ [recC i], x.R, x.man, x.ex⟩
        have hqn : ∀ a, q' = some a → x.q = some a ∨ w.heap.size ≤ a.block := fun a ha => (hq' a ha).imp id fun h => Nat.le_trans g02.size h
        have hreg := jrn_next (w' := w3) hqn
        have k3' : ∀ k v, x.R k v → KeptAt x1.dom w3 x.last x.man k v := fun k v hr => (hp2.kept k v hr).keep g3 (fun _ _ e => .inl (.inr (.inr e))) (fun k hk e => e.elim (fun e => .inl ((jrn_next (w := w2) (w' := w3) hq' k e).elim id fun h => by omega)) .inr) (Nat.le_refl _)
        have room3 : (logL x1.recs).length ≤ 200000 := by show (logL _).length ≤ _; rw [hlog]; omega
        refine commit_spec hb3 hm3 h.shown (by omega) (ver := i) hv (by omega) fun w4 n4 g4 hb4 hm4 => ?_
        have hF4 := hF3.mod g4 hb4 (fun z hz => by cases hz) fun k _ e => e.elim .inl fun e => .inr (.inl e)
        refine ⟨rfl, _, _, _, _, _, hF4, ?_⟩
        have g4' : ∀ k, (k = x1.p ∨ k = x1.m) → x1.reg k := fun k e => e.elim .inl fun e => .inr (.inl e)
        let x2 : PubS := ⟨x.p, x.bj, x.bd, x.m, x.each, q', c', x.last, i, x.recs ++ [recC i], fun k v => x.R k v ∧ ¬ delP x.last i k, x.man, x.ex⟩
        have hro : (RecO.com i).ok ⟨x.last, x.com, x.man⟩ := ⟨by show x.com < i; omega, k2, by
          show x.last < i + 3
          rcases h.only i _ hv with h' | h'
          · exact h'
          · omega⟩
        refine h1 w4 x2 rfl (by show (recC i).length + 6 ≤ x.room; unfold PubS.room; omega) ⟨hb4, hj3.keep g4 fun k e hk => ?_, ⟨n4, hm4⟩, fun k v hr => (k3' k v hr.1).keep g4 (fun k _ e => .inl (g4' k e)) (fun _ _ e => e) (Nat.le_refl _), fun j hj1 hj2 hj3 => ?_, k2, (by show x.last ≤ _; rw [List.length_append]; have := h.last_le; omega), room3, h.each1, h.each2, fun k hk => (hreg k hk).elim (h.lo k) fun e => by omega, fun k hk => Nat.lt_of_lt_of_le (Nat.lt_of_lt_of_le (hp2.exlt k hk) g3.size) g4.size, fun j v hr => ?_, h.rep.snoc (.com i) hro hs1 rfl⟩ hF4.chg rfl rfl rfl rfl rfl (by show x.com < i; omega) ?_ ?_ rfl k2 rfl hreg
        · rcases e with rfl | rfl
          · exact hj3.pub hb3 hk
          · exact hj3.mapb hm3 hk
        · have hj3' : x.last < j + 3 ∨ j = i := hj3
          have hnd : ¬ delP x.last i (.int .i64 (j : Int)) := by
            rintro ⟨j', hj', a1, a2⟩
            have e2 : (j : Int) = j' := by injection hj'
            subst e2
            rcases hj3' with h' | h'
            · omega
            · exact a2 (by rw [h'])
          rcases hj3' with h' | rfl
          · obtain ⟨v, hv⟩ := h.has j hj1 hj2 (.inl h')
            exact ⟨v, hv, hnd⟩
          · exact ⟨_, hv, hnd⟩
        · exact only_of hr.2
        · show 200000 - (logL (x.recs ++ [recC i])).length < 200000 - (logL x.recs).length
          rw [hlog]; omega
        · show 200000 - (logL x.recs).length ≤ 200000 - (logL (x.recs ++ [recC i])).length + 20
          rw [hlog]; omega
      · refine ⟨_, rfl, _, _, _, _, _, hF2, (fun h => by cases h), fun t v he => ?_, .inr ⟨_, _, rfl⟩⟩
        refine h2 w2 _ 7 g02 hp2 rfl (.inr ⟨rfl, ⟨by omega, by omega, by rcases h.only i _ hv with h' | h' <;> omega⟩, ?_⟩) fun hh => hno ?_
        · have hr := h.room
          unfold PubS.room
          omega
        have h4 := hh.2.2.2
        have hr := h.room
        unfold PubS.room at h4
        omega
  · refine ⟨_, _, false, rfl, (fun h => by cases h), fun _ => ⟨h0, fun l2 hl2 w1 hF1 => ?_⟩⟩
    have g1 : Grow w w1 := (hF1.unM hl2).grow
    have key : ¬ (x.com < ver ∧ ver ≤ x.last ∧ x.last < ver + 3) := fun hh => by
      obtain ⟨i, rfl⟩ := Int.eq_ofNat_of_zero_le (a := ver) (by omega)
      obtain ⟨v, hv⟩ := h.has i (by omega) (by omega) (.inl (by omega))
      exact hno v hv
    exact h2 w1 _ 13 g1 (h.grow g1) rfl (.inl ⟨rfl, key⟩) fun hh => key ⟨hh.1, hh.2.1, hh.2.2.1⟩
theorem Commit_spec {N : Nat} {w : World} {x : PubS} (h : PubAt N w x) (hN : N ≤ w.heap.size) {ver : Int} (hi : -9223372036854775808 ≤ ver ∧ ver ≤ 9223372036854775807) {K : Value → World → Prop}
    (h1 : ∀ w' x', PubAt N w' x' → Chg x.reg w w' → x'.p = x.p → x'.bd = x.bd → x'.each = x.each → x'.last = x.last → ver = x'.com → x.com < x'.com → x'.room < x.room → x.room ≤ x'.room + 20 → x'.man = x.man → x'.com ≤ x'.last → x'.ex = x.ex → (∀ k, x'.reg k → x.reg k ∨ w.heap.size ≤ k) → K .nilIface w')
    (h2 : ∀ w' v, Grow w w' → PubAt N w' x → isErr v → ¬ (x.com < ver ∧ ver ≤ x.last ∧ x.last < ver + 3 ∧ 20 ≤ x.room) → K v w') :
    CallV PR F.p_pub_Pub_Commit ⟨[.pointer (some ⟨x.p, 0, none⟩), .int .i64 ver]⟩ w K :=
  Commit_full h hN hi (fun w' x' _ _ => h1 w' x') fun w' v c g hx hv _ hno => h2 w' v g hx ⟨_, _, hv⟩ hno
end Go.Vc

/-! A part of the proof that two events of one line are one event: the calculus that follows known memory by computing, and its soundness. By an AI agent. -/

namespace Go.Vc
open Go
/-! ## elements of several cells -/
theorem flatK_at {α : Type} {s : Nat} {f : α → List Value} (hf : ∀ x, (f x).length = s) : ∀ {l : List α} {k j : Nat}, (h : k < l.length) → j < s → (l.flatMap f)[k * s + j]? = (f l[k])[j]?
  | a :: l, 0, j, h, hj => by
    rw [List.flatMap_cons, List.getElem?_append_left (by rw [hf]; omega)]; simp
  | a :: l, k + 1, j, h, hj => by
    have e : (k + 1) * s + j = s + (k * s + j) := by rw [Nat.add_mul]; omega
    rw [List.flatMap_cons, List.getElem?_append_right (by rw [hf]; omega), hf, e, Nat.add_sub_cancel_left, flatK_at hf (l := l) (k := k) (by simpa using h) hj]; rfl
theorem flatK_size {α : Type} {s : Nat} {f : α → List Value} (hf : ∀ x, (f x).length = s) : ∀ l : List α, (l.flatMap f).length = l.length * s
  | [] => by simp
  | a :: l => by rw [List.flatMap_cons, List.length_append, hf, flatK_size hf l, List.length_cons, Nat.add_mul]; omega
end Go.Vc

/-! A part of the proof that two events of one line are one event: the calculus that follows known memory by computing, and its soundness. By an AI agent. -/












namespace Go.Vc
open Go Go.ChangeShapes Go.WideShapes Go.Deep Go.ChangeAt Go.RowKit
/-! ## what an argument reads, opened; what is left behind a call -/
theorem sl_of_cells {w : World} {a : Addr} {xs : List Value} (h : ∀ i, i < xs.length → w.cell? (a.add i) = xs[i]?) : Sl w (some a) xs := by
  cases xs with
  | nil => exact .inl rfl
  | cons x xs =>
    right
    have h0 := h 0 (by simp)
    have h0' : w.cell? a = some x := by simpa [Addr.add] using h0
    have hs := World.cell?_spot h0'
    obtain ⟨b, o, sp⟩ := a
    simp only at hs
    subst hs
    refine ⟨b, o, rfl, ?_⟩
    unfold World.cell? at h0'
    cases hb : w.heap[b]? with
    | none => simp [hb] at h0'
    | some ob =>
      cases ob with
      | cells cs T fz =>
        refine ⟨cs, T, fz, hb, fun i hi => ?_⟩
        have hh := h i hi
        have e : w.cell? ((⟨b, o, none⟩ : Addr).add i) = cs[o + i]? := by
          by_cases hi0 : i = 0
          · subst hi0; simp [Addr.add, World.cell?, hb]
          · simp [Addr.add, hi0, World.cell?, hb]
        rw [← e, hh]
      | _ => simp [hb] at h0'
/-- a slice of elements of s cells, each of which opens -/
theorem slice_of {α : Type} {s : Nat} {f : α → List Value} (hf : ∀ x, (f x).length = s) (hs0 : 0 < s) {t e : TypeId} (ht : PR.underlying t = some (.slice e)) (hc : PR.cellsOf e = s) {G : α → Prop} {H : Type} {enc : TypeId × Value → H} {w : World} {base : Nat} {spare : Nat → Bool} {held : Bool}
    (each : ∀ (n : Nat) (cs : List Value) x, DataW.trod enc PR w base spare held n e cs = some x → cs.length = s → ∃ a : α, cs = f a ∧ G a) {fuel : Nat} {v : Value} {x : DataW H × List MemPlace} (h : DataW.trod enc PR w base spare held fuel t [v] = some x) :
    ∃ (q : Option Addr) (l : List α) (c : Nat), v = .slice q l.length c ∧ Sl w q (l.flatMap f) ∧ (∀ a ∈ l, G a) ∧ l.length ≤ c := by
  rcases open_slice ht h with ⟨e1, _⟩ | ⟨a, len, cap, m, n, D, Pl, e1, _, hlc, _, hm, _, hx⟩
  · cases e1
    exact ⟨none, [], 0, rfl, .inl rfl, (fun a ha => by cases ha), Nat.le_refl _⟩
  · cases e1
    rw [hc] at hx
    have hlm : len ≤ m := by rw [hm]; split <;> omega
    have ea : ∀ i, i < len → ∃ z : α, (∀ j v, (f z)[j]? = some v → w.cell? (a.add (i * s + j)) = some v) ∧ G z := by
      intro i hi
      obtain ⟨cs', h1, h2⟩ := hx i (by omega)
      obtain ⟨_, hlen, hcell⟩ := World.cells?_some h1
      obtain ⟨z, rfl, hz⟩ := each n cs' _ h2 hlen
      refine ⟨z, fun j v hj => ?_, hz⟩
      have hjl : j < s := by
        rcases Nat.lt_or_ge j s with h | h
        · exact h
        · rw [List.getElem?_eq_none (by rw [hf]; exact h)] at hj; cases hj
      have := hcell j hjl
      rw [add_add] at this
      rw [this, hj]
    have hne : len = 0 ∨ Nonempty α := by
      rcases Nat.eq_zero_or_pos len with h | h
      · exact .inl h
      · obtain ⟨z, _⟩ := ea 0 h; exact .inr ⟨z⟩
    rcases hne with h0 | ⟨⟨z0⟩⟩
    · subst h0
      exact ⟨some a, [], cap, rfl, .inl rfl, (fun a ha => by cases ha), Nat.zero_le _⟩
    · have : Inhabited α := ⟨z0⟩
      obtain ⟨g, hg⟩ := choose_lt ea
      refine ⟨some a, (List.range len).map g, cap, by simp, sl_of_cells fun i hi => ?_, fun z hz => ?_, by simpa using hlc⟩
      · rw [flatK_size hf] at hi
        simp only [List.length_map, List.length_range] at hi
        have hk : i / s < len := Nat.div_lt_of_lt_mul (by rw [Nat.mul_comm]; exact hi)
        have hj : i % s < s := Nat.mod_lt _ hs0
        have e2 : i / s * s + i % s = i := by rw [Nat.mul_comm]; exact Nat.div_add_mod i s
        have h3 := flatK_at hf (l := (List.range len).map g) (k := i / s) (j := i % s) (by simpa using hk) hj
        rw [e2] at h3
        rw [h3]
        simp only [List.getElem_map, List.getElem_range]
        have hlt : i % s < (f (g (i / s))).length := by rw [hf]; exact hj
        have := (hg (i / s) hk).1 (i % s) _ (List.getElem?_eq_getElem hlt)
        rw [e2] at this
        rw [this, List.getElem?_eq_getElem hlt]
      · obtain ⟨i, hi, rfl⟩ := List.mem_map.1 hz
        exact (hg i (List.mem_range.1 hi)).2
theorem uInt : PR.underlying T.int = some (.int .i64) := by kernel_rfl
theorem uBool : PR.underlying T.bool = some .bool := by kernel_rfl
theorem flat_one {α : Type} (f : α → Value) (l : List α) : l.flatMap (fun n => [f n]) = l.map f := by
  induction l with
  | nil => rfl
  | cons b l ih => rw [List.flatMap_cons, ih]; rfl
section
variable {H : Type} {enc : TypeId × Value → H} {w : World} {base : Nat} {spare : Nat → Bool} {held : Bool}
end
section
variable {H : Type} {enc : TypeId × Value → H} {P : Program}
theorem post_of_below {f : Func} {s : ChangeSpec} {apart fresh handsOn again : Bool} {W W' : World} {args : Array Value} {v : Value} {ds gs : List (DataW H)} {before pa pv : List MemPlace}
    (hW : DataW.Whole enc P f.params.toList s.vars apart W args.toList ds gs before)
    (hres : ∀ (b : Nat) (sp : Nat → Bool) (hd : Bool), DataW.TrodAll enc P W' b sp hd f.resultTypes.toList (v.resultList f.resultTypes.size) (s.fn H (ds ++ gs)).results [])
    (hargs : ∀ sp : Nat → Bool, (∀ p ∈ before, sp p.block = true) → DataW.TrodAll enc P W' 0 sp true f.params.toList args.toList (s.fn H (ds ++ gs)).args pa)
    (hvars : ∀ sp : Nat → Bool, (∀ p ∈ before, sp p.block = true) → DataW.TrodVars enc P W' sp s.vars (s.fn H (ds ++ gs)).vars pv)
    (hps : before = pa ++ pv) (hb : Below W.heap.size W W')
    (hok : ∀ (j : Nat) (t : TypeId) (r : Value), f.resultTypes[j]? = some t → (v.resultList f.resultTypes.size)[j]? = some r → Value.okWide P W' .any 0 t r) :
    s.post enc P f apart fresh handsOn again W args v W' := by
  have hlt : ∀ p ∈ before, p.block < W.heap.size := fun p hp => hW.lt p hp
  have hold : ∀ p ∈ before, (fun b => decide (b < W.heap.size)) p.block = true := fun p hp => by simpa using hlt p hp
  refine ⟨ds, gs, before, [], pa, pv, hW, hres _ _ _, hargs _ hold, hvars _ hold, World.keptBut_mono (fun p hp => ⟨hp, ?_⟩) (hb.frame (· ∈ before)), fun _ => ?_⟩
  · rw [hps, List.mem_append] at hp
    exact Or.inr hp
  · obtain ⟨_, _, _, _, _, hz, hn⟩ := hW
    refine ⟨hok, _, _, ([] ++ pa) ++ pv, ⟨[] ++ pa, pv, trodAll_append (hargs _ (fun _ _ => rfl)) (hres _ _ _), hvars _ (fun _ _ => rfl), rfl, ?_, ?_⟩, ?_⟩
    · intro b off hp
      have hin : MemPlace.cell b off ∈ before := by rw [hps]; simpa using hp
      rw [hb.frozen (hlt _ hin)]
      exact hz b off hin
    · intro ha
      have := hn ha
      rw [hps] at this
      simpa using this
    · intro p hp _
      rw [hps]
      simpa using hp
end
theorem below_of_grow {w w' : World} (h : Grow w w') : Below w.heap.size w w' := ⟨h.os, h.tape, h.output, h.size, fun k hk => h.block k hk (fun e => e)⟩
theorem ownG : ownKnob PR.godebug = none := by kernel_rfl
theorem layG : laidOutB PR = true := by kernel_rfl
end Go.Vc

/-! A part of the proof that two events of one line are one event: the calculus that follows known memory by computing, and its soundness. By an AI agent. -/




namespace Go.Vc
open Go
/-! ## what neither reads nor writes cells, and asks nothing of the outside: its run tells its condition -/
end Go.Vc

/-! Closed facts on the model's entries for internal/reflectlite, at an api.Errno target. By an AI agent. -/






namespace Go.Vc
open Go Go.RowKit Go.Extern.Stop Go.Stop Go.Extern Go.Proofs
/-! ## errors.As at an api.Errno target: closed facts on the model's entries for internal/reflectlite -/
abbrev hd (t : Nat) : Value := .pointer (some ⟨G.count, t, none⟩)
theorem valueOfP (t : Addr) (w : World) : (ReflectliteValue.unpack (.iface 120 (.pointer (some t)))).run Tryz.prog w
    = .ok (.agg #[.pointer (some ⟨2, 120, none⟩), .pointer (some ⟨w.heap.size, 0, none⟩), .int .u64 150]) (w.alloc (.cells #[.pointer (some t)] 120)) := by kernel_rfl
theorem typeP (a : Addr) (w : World) : (ReflectliteValue.methodAny (ReflectliteValue.valueError "reflectlite.Value.Type" 0) (fun t _ _ _ => ReflectliteType.toType t) #[.agg #[.pointer (some ⟨2, 120, none⟩), .pointer (some a), .int .u64 150]]).run Tryz.prog w
    = .ok (.iface 258 (.agg #[.pointer (some ⟨2, 120, none⟩)])) w := by kernel_rfl
theorem methodKind (h : Value) (w : World) : (Go.method 494 258 (.agg #[h]) "Kind").run Tryz.prog w = .ok (271, h) w := by kernel_rfl
theorem kindP (w : World) : ((ReflectliteType.abiMethod fun t => (fun a : Nat => Value.int IntKind.u8 (a : Int)) <$> Rtype.kind t) #[.pointer (some ⟨2, 120, none⟩)]).run Tryz.prog w = .ok (.int .u8 22) w := by kernel_rfl
theorem kindE (w : World) : ((ReflectliteType.abiMethod fun t => (fun a : Nat => Value.int IntKind.u8 (a : Int)) <$> Rtype.kind t) #[.pointer (some ⟨2, 93, none⟩)]).run Tryz.prog w = .ok (.int .u8 2) w := by kernel_rfl
theorem rlm (z : Sem Value) (f : TypeId → Addr → Nat → Nat → Sem Value) (v : Value) :
    ReflectliteValue.method z f #[v] = (do match ← ReflectliteValue.parts v with | none => z | some (t, a, fl) => f t a fl (fl % 32)) := rfl
theorem partsP (a : Addr) (w : World) : (ReflectliteValue.parts (.agg #[.pointer (some ⟨2, 120, none⟩), .pointer (some a), .int .u64 150])).run Tryz.prog w = .ok (some (120, a, 150)) w := by kernel_rfl
theorem isNilP (a p : Addr) (W : World) (ha : W.cell? a = some (.pointer (some p))) :
    (ReflectliteValue.method (ReflectliteValue.valueError "reflectlite.Value.IsNil" 0) ReflectliteValue.isNil #[.agg #[.pointer (some ⟨2, 120, none⟩), .pointer (some a), .int .u64 150]]).run Tryz.prog W = .ok (.bool false) W := by
  rw [rlm]
  simp only [Sem.run_bind, partsP, Result.andThen]
  simp [ReflectliteValue.isNil, loadVar, isAgg, underlying, ha, Result.andThen]
theorem methodElem (h : Value) (w : World) : (Go.method 494 258 (.agg #[h]) "Elem").run Tryz.prog w = .ok (286, .agg #[h]) w := by kernel_rfl
theorem methodImplements (h : Value) (w : World) : (Go.method 494 258 (.agg #[h]) "Implements").run Tryz.prog w = .ok (287, .agg #[h]) w := by kernel_rfl
theorem methodAssignableTo (h : Value) (w : World) : (Go.method 494 258 (.agg #[h]) "AssignableTo").run Tryz.prog w = .ok (284, .agg #[h]) w := by kernel_rfl
theorem elemP (w : World) : (ReflectliteType.method ReflectliteType.elem #[.agg #[.pointer (some ⟨2, 120, none⟩)]]).run Tryz.prog w = .ok (.iface 258 (.agg #[.pointer (some ⟨2, 93, none⟩)])) w := by kernel_rfl
theorem implementsE (w : World) : (ReflectliteType.relation "Implements" ReflectliteType.implements_ #[.agg #[.pointer (some ⟨2, 93, none⟩)], .iface 258 (.agg #[.pointer (some ⟨2, 27, none⟩)])]).run Tryz.prog w = .ok (.bool true) w := by kernel_rfl
theorem typeOfE (v : Value) (w : World) : (ReflectliteType.typeOf #[.iface 93 v]).run Tryz.prog w = .ok (.iface 258 (.agg #[.pointer (some ⟨2, 93, none⟩)])) w := by kernel_rfl
theorem assignableE (w : World) : (ReflectliteType.relation "AssignableTo" ReflectliteType.assignableTo #[.agg #[.pointer (some ⟨2, 93, none⟩)], .iface 258 (.agg #[.pointer (some ⟨2, 93, none⟩)])]).run Tryz.prog w = .ok (.bool true) w := by kernel_rfl
theorem typeOfF (v : Value) (w : World) : (ReflectliteType.typeOf #[.iface 213 v]).run Tryz.prog w = .ok (.iface 258 (.agg #[.pointer (some ⟨2, 213, none⟩)])) w := by kernel_rfl
theorem assignableF (w : World) : (ReflectliteType.relation "AssignableTo" ReflectliteType.assignableTo #[.agg #[.pointer (some ⟨2, 213, none⟩)], .iface 258 (.agg #[.pointer (some ⟨2, 93, none⟩)])]).run Tryz.prog w = .ok (.bool false) w := by kernel_rfl
theorem valueOfE (n : Int) (w : World) : (ReflectliteValue.unpack (.iface 93 (.int .i64 n))).run Tryz.prog w
    = .ok (.agg #[.pointer (some ⟨2, 93, none⟩), .pointer (some ⟨w.heap.size, 0, none⟩), .int .u64 130]) (w.alloc (.cells #[.int .i64 n] 93)) := by kernel_rfl
theorem elemOfP (w : World) : (Rtype.elem? 120).run Tryz.prog w = .ok (some 93) w := by kernel_rfl
theorem mkE (p : Addr) (w : World) : (ReflectliteValue.mk 93 p ReflectliteValue.flagAddr).run Tryz.prog w = .ok (.agg #[.pointer (some ⟨2, 93, none⟩), .pointer (some p), .int .u64 386]) w := by kernel_rfl
theorem elemVP (a p : Addr) (W : World) (ha : W.cell? a = some (.pointer (some p))) :
    (ReflectliteValue.method (ReflectliteValue.valueError "reflectlite.Value.Elem" 0) ReflectliteValue.elem #[.agg #[.pointer (some ⟨2, 120, none⟩), .pointer (some a), .int .u64 150]]).run Tryz.prog W
      = .ok (.agg #[.pointer (some ⟨2, 93, none⟩), .pointer (some p), .int .u64 386]) W := by
  rw [rlm]
  simp only [Sem.run_bind, partsP, Result.andThen]
  simp [ReflectliteValue.elem, loadVar, isAgg, underlying, ha, Result.andThen, elemOfP, mkE]
theorem rls (v x : Value) : ReflectliteValue.set #[v, x] = (do
    let (some (dst, a, fl), some (src, b, _)) := (← ReflectliteValue.parts v, ← ReflectliteValue.parts x)
      | unsupported (.noEntry "extern/(internal/reflectlite.Value).Set.zeroValue")
    if fl / ReflectliteValue.flagAddr % 2 == 0 then unsupported (.noEntry "extern/(internal/reflectlite.Value).Set.unaddressable")
    let val ← loadVar src b
    if ← Rtype.directlyAssignable dst src then storeVar dst a val
    else if ← Rtype.implements dst src then
      if (← Rtype.kind src) == 20 then
        match val with
        | .nilIface => unsupported (.noEntry "extern/reflectlite: a nil value of one interface type handed on as a value of another")
        | _ => storeVar dst a val
      else storeVar dst a (.iface src val)
    else panicString ("reflectlite.Set: value of type " ++ (← Rtype.spelt src) ++ " is not assignable to type " ++ (← Rtype.spelt dst))
    pure (.tuple #[])) := rfl
theorem partsEa (a : Addr) (w : World) : (ReflectliteValue.parts (.agg #[.pointer (some ⟨2, 93, none⟩), .pointer (some a), .int .u64 386])).run Tryz.prog w = .ok (some (93, a, 386)) w := by kernel_rfl
theorem partsE (a : Addr) (w : World) : (ReflectliteValue.parts (.agg #[.pointer (some ⟨2, 93, none⟩), .pointer (some a), .int .u64 130])).run Tryz.prog w = .ok (some (93, a, 130)) w := by kernel_rfl
theorem directE (w : World) : (Rtype.directlyAssignable 93 93).run Tryz.prog w = .ok true w := by kernel_rfl
theorem setE (ta b : Addr) (n : Int) (old : Value) (W : World) (hb : W.cell? b = some (.int .i64 n)) (ht : W.cell? ta = some old) (hf : W.frozen? ta = false) :
    (ReflectliteValue.set #[.agg #[.pointer (some ⟨2, 93, none⟩), .pointer (some ta), .int .u64 386], .agg #[.pointer (some ⟨2, 93, none⟩), .pointer (some b), .int .u64 130]]).run Tryz.prog W
      = .ok (.tuple #[]) (W.setCell ta (.int .i64 n)) := by
  rw [rls]
  simp only [Sem.run_bind, partsEa, partsE, Result.andThen]
  simp [ReflectliteValue.flagAddr, loadVar, isAgg, underlying, hb, Result.andThen, directE, storeVar, Value.cells, storeCells, Addr.add]
  rw [run_store Tryz.prog W ta _ _ (by rfl)]
  simp [ht, hf]
end Go.Vc

/-! errors.As of an api.Errno: it is set. By an AI agent. -/

namespace Go.Vc
open Go Go.RowKit Go.Extern.Stop Go.Stop Go.Extern Go.Proofs
set_option maxHeartbeats 4000000 in
theorem as_hit (n : Int) (t : Addr) (old : Value) (w : World) (hg : w.cell? ⟨0, 0, none⟩ = some (.iface 258 (.agg #[.pointer (some ⟨2, 27, none⟩)]))) (ht0 : w.cell? t = some old) (hf0 : w.frozen? t = false) :
    Calls Tryz.prog 54 #[.iface 93 (.int .i64 n), .iface 120 (.pointer (some t))] w fun ev w' => ev = .returned (.bool true) ∧ w' = ((((w.alloc (.cells #[.pointer (some t)] 120)).alloc (.cells #[.pointer (some ⟨2, 120, none⟩), .pointer (some ⟨w.heap.size, 0, none⟩), .int .u64 150] 192)).alloc (.cells #[.pointer (some ⟨2, 120, none⟩), .pointer (some ⟨w.heap.size, 0, none⟩), .int .u64 150] 192)).alloc (.cells #[.int .i64 n] 93)).setCell t (.int .i64 n) := by
  have h6 := @run_callFunc_extern Tryz.prog 108 _ (fun args => ReflectliteValue.unpack (args.getD 0 (.tuple #[]))) Tryz.func108 (by kernel_rfl) (by kernel_rfl) (by kernel_rfl) (by kernel_rfl)
  have h7 := @run_callFunc_extern Tryz.prog 109 _ (ReflectliteValue.methodAny (ReflectliteValue.valueError "reflectlite.Value.Type" 0) (fun t _ _ _ => ReflectliteType.toType t)) Tryz.func109 (by kernel_rfl) (by kernel_rfl) (by kernel_rfl) (by kernel_rfl)
  have h8 := @run_callFunc_extern Tryz.prog 110 _ (ReflectliteValue.method (ReflectliteValue.valueError "reflectlite.Value.IsNil" 0) ReflectliteValue.isNil) Tryz.func110 (by kernel_rfl) (by kernel_rfl) (by kernel_rfl) (by kernel_rfl)
  have h27 := @run_callFunc_extern Tryz.prog 271 _ (ReflectliteType.abiMethod fun t => do pure (.int .u8 (← Rtype.kind t))) Tryz.func271 (by kernel_rfl) (by kernel_rfl) (by kernel_rfl) (by kernel_rfl)
  have h37 := @run_callFunc_extern Tryz.prog 286 _ (ReflectliteType.method ReflectliteType.elem) Tryz.func286 (by kernel_rfl) (by kernel_rfl) (by kernel_rfl) (by kernel_rfl)
  have h38 := @run_callFunc_extern Tryz.prog 287 _ (ReflectliteType.relation "Implements" ReflectliteType.implements_) Tryz.func287 (by kernel_rfl) (by kernel_rfl) (by kernel_rfl) (by kernel_rfl)
  have h10 := @run_callFunc_extern Tryz.prog 118 _ ReflectliteType.typeOf Tryz.func118 (by kernel_rfl) (by kernel_rfl) (by kernel_rfl) (by kernel_rfl)
  have h35 := @run_callFunc_extern Tryz.prog 284 _ (ReflectliteType.relation "AssignableTo" ReflectliteType.assignableTo) Tryz.func284 (by kernel_rfl) (by kernel_rfl) (by kernel_rfl) (by kernel_rfl)
  have h11 := @run_callFunc_extern Tryz.prog 161 _ (ReflectliteValue.method (ReflectliteValue.valueError "reflectlite.Value.Elem" 0) ReflectliteValue.elem) Tryz.func161 (by kernel_rfl) (by kernel_rfl) (by kernel_rfl) (by kernel_rfl)
  have h12 := @run_callFunc_extern Tryz.prog 162 _ ReflectliteValue.set Tryz.func162 (by kernel_rfl) (by kernel_rfl) (by kernel_rfl) (by kernel_rfl)
  have tO := typeOfE
  have mA := methodAssignableTo
  have a25 := assignableE
  have v25 := valueOfE
  have f6 := valueOfP
  have f7 := typeP
  have mK := methodKind
  have mE := methodElem
  have mI := methodImplements
  have k27 := kindP
  have k25 := kindE
  have e27 := elemP
  have i25 := implementsE
  have n8 := isNilP ⟨w.heap.size, 0, none⟩ t ((w.alloc (.cells #[.pointer (some t)] 120)).alloc (.cells #[.pointer (some ⟨2, 120, none⟩), .pointer (some ⟨w.heap.size, 0, none⟩), .int .u64 150] 192)) (by simp)
  have hlt : 0 < w.heap.size := by
    rcases Nat.eq_zero_or_pos w.heap.size with h0 | h
    · simp [World.cell?, h0] at hg
    · exact h
  have hg2 : ((w.alloc (.cells #[.pointer (some t)] 120)).alloc (.cells #[.pointer (some ⟨2, 120, none⟩), .pointer (some ⟨w.heap.size, 0, none⟩), .int .u64 150] 192)).cell? ⟨0, 0, none⟩ = some (.iface 258 (.agg #[.pointer (some ⟨2, 27, none⟩)])) := by
    rw [World.cell?_alloc_lt _ _ ⟨0, 0, none⟩ (by simp), World.cell?_alloc_lt _ _ ⟨0, 0, none⟩ hlt]; exact hg
  have htl : t.block < w.heap.size := by
    rcases Nat.lt_or_ge t.block w.heap.size with h | h
    · exact h
    · simp [World.cell?, Array.getElem?_eq_none h] at ht0
  have el := elemVP ⟨w.heap.size, 0, none⟩ t (((w.alloc (.cells #[.pointer (some t)] 120)).alloc (.cells #[.pointer (some ⟨2, 120, none⟩), .pointer (some ⟨w.heap.size, 0, none⟩), .int .u64 150] 192)).alloc (.cells #[.pointer (some ⟨2, 120, none⟩), .pointer (some ⟨w.heap.size, 0, none⟩), .int .u64 150] 192)) (by rw [World.cell?_alloc_lt _ _ ⟨w.heap.size, 0, none⟩ (by simp; omega)]; simp)
  have st := setE t ⟨w.heap.size + 1 + 1 + 1, 0, none⟩ n old ((((w.alloc (.cells #[.pointer (some t)] 120)).alloc (.cells #[.pointer (some ⟨2, 120, none⟩), .pointer (some ⟨w.heap.size, 0, none⟩), .int .u64 150] 192)).alloc (.cells #[.pointer (some ⟨2, 120, none⟩), .pointer (some ⟨w.heap.size, 0, none⟩), .int .u64 150] 192)).alloc (.cells #[.int .i64 n] 93))
    (by rw [World.cell?_alloc_at _ _ _ _ (by simp)]; rfl)
    (by rw [World.cell?_alloc_lt _ _ t (by simp; omega), World.cell?_alloc_lt _ _ t (by simp; omega), World.cell?_alloc_lt _ _ t (by simp; omega), World.cell?_alloc_lt _ _ t htl]; exact ht0)
    (by rw [World.frozen?_alloc_old _ _ t (by simp; omega), World.frozen?_alloc_old _ _ t (by simp; omega), World.frozen?_alloc_old _ _ t (by simp; omega), World.frozen?_alloc_old _ _ t (Nat.ne_of_lt htl)]; exact hf0)
  go_enter Tryz.func54, Tryz.ntmps54
  go_wp2
  refine wp_loop_rounds 1 ?_
  rw [rounds_succ]
  go_wp2
  go_ret
  exact ⟨rfl, rfl⟩
end Go.Vc

/-! The number of an api.Errno. By an AI agent. -/

namespace Go.Vc
open Go Go.RowKit Go.Extern.Stop Go.Stop Go.Extern Go.Proofs
theorem grow_alloc {w w1 : World} (g : Grow w w1) (o : Obj) : Grow w (w1.alloc o) := g.trans (Chg.alloc w1 o)
theorem grow5 (w : World) (o1 o2 o3 o4 o5 : Obj) : Grow w (((((w.alloc o1).alloc o2).alloc o3).alloc o4).alloc o5) :=
  grow_alloc (grow_alloc (grow_alloc (grow_alloc (grow_alloc (.refl _ w) o1) o2) o3) o4) o5
set_option maxHeartbeats 4000000 in
theorem Code_errno (n : Int) (h0 : -9223372036854775808 ≤ n) (h1 : n ≤ 9223372036854775807) (w : World) (hg : w.cell? ⟨0, 0, none⟩ = some (.iface 258 (.agg #[.pointer (some ⟨2, 27, none⟩)]))) :
    Calls Tryz.prog 14 #[.iface 93 (.int .i64 n)] w fun ev w' => ev = .returned (.int .i64 n) ∧ Grow w w' := by
  have hlt : 0 < w.heap.size := by
    rcases Nat.eq_zero_or_pos w.heap.size with h0 | h
    · simp [World.cell?, h0] at hg
    · exact h
  have hgA : (w.alloc (.cells #[.int .i64 0] 93)).cell? ⟨0, 0, none⟩ = some (.iface 258 (.agg #[.pointer (some ⟨2, 27, none⟩)])) := by
    rw [World.cell?_alloc_lt _ _ ⟨0, 0, none⟩ hlt]; exact hg
  have htA : (w.alloc (.cells #[.int .i64 0] 93)).cell? ⟨w.heap.size, 0, none⟩ = some (.int .i64 0) := by simp
  have hfA : (w.alloc (.cells #[.int .i64 0] 93)).frozen? ⟨w.heap.size, 0, none⟩ = false := by simp
  have hw : IntKind.wrap .i64 n = n := wrap_id h0 h1
  go_enter Tryz.func14, Tryz.ntmps14
  go_wp2_with (first | (go_at_call 54; refine (as_hit n _ (.int .i64 0) _ hgA htA hfA).mono ?_; rintro e w' ⟨rfl, rfl⟩))
  go_ret
  refine ⟨by simp, grow5 _ _ _ _ _ _⟩
end Go.Vc

/-! An api.Fault has Unwrap and no As. By an AI agent. -/

namespace Go.Vc
open Go Go.RowKit Go.Extern.Stop Go.Stop Go.Extern Go.Proofs
theorem under108 : (Tryz.prog.underlying 262).map (fun t => match t with | .interface ms => ms.toList.map (·.1) | _ => []) = some ["As"] := by kernel_rfl
theorem under111 : (Tryz.prog.underlying 265).map (fun t => match t with | .interface ms => ms.toList.map (·.1) | _ => []) = some ["Unwrap"] := by kernel_rfl
theorem iface_of {P : Program} {t : TypeId} {l : List String} (h : (P.underlying t).map (fun t => match t with | .interface ms => ms.toList.map (·.1) | _ => []) = some l) (hne : l ≠ []) : ∃ ms, P.underlying t = some (.interface ms) := by
  cases hu : P.underlying t with
  | none => rw [hu] at h; cases h
  | some u =>
    rw [hu] at h
    cases u with
    | interface ms => exact ⟨ms, rfl⟩
    | _ => exact absurd (Option.some.inj h).symm hne
theorem noAs (v : Value) (xT : TypeId) (w : World) : (Instr.typeAssert (.iface 213 v) xT 262 true).run Tryz.prog w = .ok (.tuple #[.nilIface, .bool false]) w := by
  obtain ⟨ms, hu⟩ := iface_of under108 (by simp)
  exact run_typeAssert_lacksB hu (by
    have : (Tryz.prog.info? 213).map (fun i => match Tryz.prog.underlying 262 with | some (.interface want) => (lacking want i.methods).isEmpty | _ => true) = some false := by kernel_rfl
    rw [hu] at this; exact this) (by kernel_rfl) v xT w
theorem hasUnwrap (v : Value) (xT : TypeId) (w : World) : (Instr.typeAssert (.iface 213 v) xT 265 true).run Tryz.prog w = .ok (.tuple #[.iface 213 v, .bool true]) w := by
  obtain ⟨ms, hu⟩ := iface_of under111 (by simp)
  exact run_typeAssert_hasB hu (by
    have : (Tryz.prog.info? 213).map (fun i => match Tryz.prog.underlying 265 with | some (.interface want) => (lacking want i.methods).isEmpty | _ => true) = some true := by kernel_rfl
    rw [hu] at this; exact this) v xT w
theorem methodUnwrap (x y : Value) (w : World) : (Go.method 494 213 (.agg #[x, y]) "Unwrap").run Tryz.prog w = .ok (282, .agg #[x, y]) w := by kernel_rfl
end Go.Vc

/-! errors.As of an api.Fault around an api.Errno: it is set. By an AI agent. -/

namespace Go.Vc
open Go Go.RowKit Go.Extern.Stop Go.Stop Go.Extern Go.Proofs
set_option maxHeartbeats 4000000 in
theorem as_fault (at_ n : Int) (t : Addr) (old : Value) (w : World) (hg : w.cell? ⟨0, 0, none⟩ = some (.iface 258 (.agg #[.pointer (some ⟨2, 27, none⟩)]))) (ht0 : w.cell? t = some old) (hf0 : w.frozen? t = false) :
    Calls Tryz.prog 54 #[.iface 213 (.agg #[.int .i64 at_, .iface 93 (.int .i64 n)]), .iface 120 (.pointer (some t))] w fun ev w' => ev = .returned (.bool true) ∧ w' = (((((w.alloc (.cells #[.pointer (some t)] 120)).alloc (.cells #[.pointer (some ⟨2, 120, none⟩), .pointer (some ⟨w.heap.size, 0, none⟩), .int .u64 150] 192)).alloc (.cells #[.pointer (some ⟨2, 120, none⟩), .pointer (some ⟨w.heap.size, 0, none⟩), .int .u64 150] 192)).alloc (.cells #[.int .i64 at_, .iface 93 (.int .i64 n)] 213)).alloc (.cells #[.int .i64 n] 93)).setCell t (.int .i64 n) := by
  have h6 := @run_callFunc_extern Tryz.prog 108 _ (fun args => ReflectliteValue.unpack (args.getD 0 (.tuple #[]))) Tryz.func108 (by kernel_rfl) (by kernel_rfl) (by kernel_rfl) (by kernel_rfl)
  have h7 := @run_callFunc_extern Tryz.prog 109 _ (ReflectliteValue.methodAny (ReflectliteValue.valueError "reflectlite.Value.Type" 0) (fun t _ _ _ => ReflectliteType.toType t)) Tryz.func109 (by kernel_rfl) (by kernel_rfl) (by kernel_rfl) (by kernel_rfl)
  have h8 := @run_callFunc_extern Tryz.prog 110 _ (ReflectliteValue.method (ReflectliteValue.valueError "reflectlite.Value.IsNil" 0) ReflectliteValue.isNil) Tryz.func110 (by kernel_rfl) (by kernel_rfl) (by kernel_rfl) (by kernel_rfl)
  have h27 := @run_callFunc_extern Tryz.prog 271 _ (ReflectliteType.abiMethod fun t => do pure (.int .u8 (← Rtype.kind t))) Tryz.func271 (by kernel_rfl) (by kernel_rfl) (by kernel_rfl) (by kernel_rfl)
  have h37 := @run_callFunc_extern Tryz.prog 286 _ (ReflectliteType.method ReflectliteType.elem) Tryz.func286 (by kernel_rfl) (by kernel_rfl) (by kernel_rfl) (by kernel_rfl)
  have h38 := @run_callFunc_extern Tryz.prog 287 _ (ReflectliteType.relation "Implements" ReflectliteType.implements_) Tryz.func287 (by kernel_rfl) (by kernel_rfl) (by kernel_rfl) (by kernel_rfl)
  have h10 := @run_callFunc_extern Tryz.prog 118 _ ReflectliteType.typeOf Tryz.func118 (by kernel_rfl) (by kernel_rfl) (by kernel_rfl) (by kernel_rfl)
  have h35 := @run_callFunc_extern Tryz.prog 284 _ (ReflectliteType.relation "AssignableTo" ReflectliteType.assignableTo) Tryz.func284 (by kernel_rfl) (by kernel_rfl) (by kernel_rfl) (by kernel_rfl)
  have h11 := @run_callFunc_extern Tryz.prog 161 _ (ReflectliteValue.method (ReflectliteValue.valueError "reflectlite.Value.Elem" 0) ReflectliteValue.elem) Tryz.func161 (by kernel_rfl) (by kernel_rfl) (by kernel_rfl) (by kernel_rfl)
  have h12 := @run_callFunc_extern Tryz.prog 162 _ ReflectliteValue.set Tryz.func162 (by kernel_rfl) (by kernel_rfl) (by kernel_rfl) (by kernel_rfl)
  have tO := typeOfE
  have mA := methodAssignableTo
  have a25 := assignableE
  have v25 := valueOfE
  have f6 := valueOfP
  have f7 := typeP
  have mK := methodKind
  have mE := methodElem
  have mI := methodImplements
  have k27 := kindP
  have k25 := kindE
  have e27 := elemP
  have i25 := implementsE
  have n8 := isNilP ⟨w.heap.size, 0, none⟩ t ((w.alloc (.cells #[.pointer (some t)] 120)).alloc (.cells #[.pointer (some ⟨2, 120, none⟩), .pointer (some ⟨w.heap.size, 0, none⟩), .int .u64 150] 192)) (by simp)
  have hlt : 0 < w.heap.size := by
    rcases Nat.eq_zero_or_pos w.heap.size with h0 | h
    · simp [World.cell?, h0] at hg
    · exact h
  have hg2 : ((w.alloc (.cells #[.pointer (some t)] 120)).alloc (.cells #[.pointer (some ⟨2, 120, none⟩), .pointer (some ⟨w.heap.size, 0, none⟩), .int .u64 150] 192)).cell? ⟨0, 0, none⟩ = some (.iface 258 (.agg #[.pointer (some ⟨2, 27, none⟩)])) := by
    rw [World.cell?_alloc_lt _ _ ⟨0, 0, none⟩ (by simp), World.cell?_alloc_lt _ _ ⟨0, 0, none⟩ hlt]; exact hg
  have htl : t.block < w.heap.size := by
    rcases Nat.lt_or_ge t.block w.heap.size with h | h
    · exact h
    · simp [World.cell?, Array.getElem?_eq_none h] at ht0
  have el := elemVP ⟨w.heap.size, 0, none⟩ t ((((w.alloc (.cells #[.pointer (some t)] 120)).alloc (.cells #[.pointer (some ⟨2, 120, none⟩), .pointer (some ⟨w.heap.size, 0, none⟩), .int .u64 150] 192)).alloc (.cells #[.pointer (some ⟨2, 120, none⟩), .pointer (some ⟨w.heap.size, 0, none⟩), .int .u64 150] 192)).alloc (.cells #[.int .i64 at_, .iface 93 (.int .i64 n)] 213)) (by
    rw [World.cell?_alloc_lt _ _ ⟨w.heap.size, 0, none⟩ (by simp; omega), World.cell?_alloc_lt _ _ ⟨w.heap.size, 0, none⟩ (by simp; omega)]; simp)
  have st := setE t ⟨w.heap.size + 1 + 1 + 1 + 1, 0, none⟩ n old (((((w.alloc (.cells #[.pointer (some t)] 120)).alloc (.cells #[.pointer (some ⟨2, 120, none⟩), .pointer (some ⟨w.heap.size, 0, none⟩), .int .u64 150] 192)).alloc (.cells #[.pointer (some ⟨2, 120, none⟩), .pointer (some ⟨w.heap.size, 0, none⟩), .int .u64 150] 192)).alloc (.cells #[.int .i64 at_, .iface 93 (.int .i64 n)] 213)).alloc (.cells #[.int .i64 n] 93))
    (by rw [World.cell?_alloc_at _ _ _ _ (by simp)]; rfl)
    (by rw [World.cell?_alloc_lt _ _ t (by simp; omega), World.cell?_alloc_lt _ _ t (by simp; omega), World.cell?_alloc_lt _ _ t (by simp; omega), World.cell?_alloc_lt _ _ t (by simp; omega), World.cell?_alloc_lt _ _ t htl]; exact ht0)
    (by rw [World.frozen?_alloc_old _ _ t (by simp; omega), World.frozen?_alloc_old _ _ t (by simp; omega), World.frozen?_alloc_old _ _ t (by simp; omega), World.frozen?_alloc_old _ _ t (by simp; omega), World.frozen?_alloc_old _ _ t (Nat.ne_of_lt htl)]; exact hf0)
  have tF := typeOfF
  have aF := assignableF
  have nA := noAs
  have hU := hasUnwrap
  have mU := methodUnwrap
  go_enter Tryz.func54, Tryz.ntmps54
  go_wp2
  refine wp_loop_rounds 2 ?_
  rw [rounds_succ]
  go_wp2
  rw [rounds_succ]
  go_wp2
  go_ret
  exact ⟨rfl, rfl⟩

end Go.Vc

/-! The number of an api.Fault. By an AI agent. -/

namespace Go.Vc
open Go Go.RowKit Go.Extern.Stop Go.Stop Go.Extern Go.Proofs
theorem grow6 (w : World) (o1 o2 o3 o4 o5 o6 : Obj) : Grow w ((((((w.alloc o1).alloc o2).alloc o3).alloc o4).alloc o5).alloc o6) := grow_alloc (grow5 w o1 o2 o3 o4 o5) o6
set_option maxHeartbeats 4000000 in
theorem Code_fault (at_ n : Int) (w : World) (hg : w.cell? ⟨0, 0, none⟩ = some (.iface 258 (.agg #[.pointer (some ⟨2, 27, none⟩)]))) :
    Calls Tryz.prog 14 #[.iface 213 (.agg #[.int .i64 at_, .iface 93 (.int .i64 n)])] w fun ev w' => ev = .returned (.int .i64 n) ∧ Grow w w' := by
  have hlt : 0 < w.heap.size := by
    rcases Nat.eq_zero_or_pos w.heap.size with h0 | h
    · simp [World.cell?, h0] at hg
    · exact h
  have hgA : (w.alloc (.cells #[.int .i64 0] 93)).cell? ⟨0, 0, none⟩ = some (.iface 258 (.agg #[.pointer (some ⟨2, 27, none⟩)])) := by
    rw [World.cell?_alloc_lt _ _ ⟨0, 0, none⟩ hlt]; exact hg
  have htA : (w.alloc (.cells #[.int .i64 0] 93)).cell? ⟨w.heap.size, 0, none⟩ = some (.int .i64 0) := by simp
  have hfA : (w.alloc (.cells #[.int .i64 0] 93)).frozen? ⟨w.heap.size, 0, none⟩ = false := by simp
  go_enter Tryz.func14, Tryz.ntmps14
  go_wp2_with (first | (go_at_call 54; refine (as_fault at_ n _ (.int .i64 0) _ hgA htA hfA).mono ?_; rintro e w' ⟨rfl, rfl⟩))
  go_ret
  refine ⟨by simp, grow6 _ _ _ _ _ _ _⟩
/-- errors.errorType, which the start lays -/
def ErrT (w : World) : Prop := w.cell? ⟨0, 0, none⟩ = some (.iface 258 (.agg #[.pointer (some ⟨2, 27, none⟩)]))
theorem Code_errno_spec {n : Int} {w : World} {K : Value → World → Prop} (h : ErrT w) (h0 : -9223372036854775808 ≤ n) (h1 : n ≤ 9223372036854775807) (hK : ∀ w', Grow w w' → K (.int .i64 n) w') : CallV PR F.api_Code #[.iface T.api_Errno (.int .i64 n)] w K :=
  callV_of (Code_errno n h0 h1 w h) fun e w' ⟨he, g⟩ => ⟨_, he, hK _ g⟩
theorem Code_fault_spec {a n : Int} {w : World} {K : Value → World → Prop} (h : ErrT w) (hK : ∀ w', Grow w w' → K (.int .i64 n) w') : CallV PR F.api_Code #[.iface T.api_Fault (.agg #[.int .i64 a, .iface T.api_Errno (.int .i64 n)])] w K :=
  callV_of (Code_fault a n w h) fun e w' ⟨he, g⟩ => ⟨_, he, hK _ g⟩
end Go.Vc

/-! A part of the proof that two events of one line are one event: the calculus that follows known memory by computing, and its soundness. By an AI agent. -/












namespace Go.Vc
open Go Go.ChangeShapes Go.WideShapes Go.ChangeAt Go.RowKit Go.Deep Go.Proofs Go.Proofs.YtepnnojjcgjcoaaGreatDoor
/-! ## the error type that the start lays; a world that has it -/
theorem gErr : PR.globalNamed "errors.errorType" = some 0 := by kernel_rfl
theorem rtN : (PR.cutTypes.find? (·.1 == "internal/reflectlite.rtype")).map (·.2) = some T.reflectlite_rtype := by kernel_rfl
theorem tsize : PR.types.size = 394 := by kernel_rfl
theorem oneRow : ((List.range 394).filter fun t => PR.rowNamed t [101, 114, 114, 111, 114]) = [T.error] := by kernel_rfl
theorem errT_of {W : World} (h : laidMetH PR [("errors.errorType", Rows.laid_errors_errorType)] W) : ErrT W := by
  obtain ⟨_, h2⟩ := laidMetH_iff.1 h
  obtain ⟨name, u, ty, e1, e2, e3, e4, e5⟩ := h2 ("errors.errorType", Rows.laid_errors_errorType) (by
    refine List.mem_filter.2 ⟨?_, rfl⟩
    exact .head _)
  have en : name = [101, 114, 114, 111, 114] := (Option.some.inj e1).symm
  subst en
  obtain rfl := Option.some.inj (rtN.symm.trans e2)
  have hm : ty ∈ (List.range 394).filter fun t => PR.rowNamed t [101, 114, 114, 111, 114] := List.mem_filter.2 ⟨List.mem_range.2 (by rw [← tsize]; exact e3), e4⟩
  rw [oneRow] at hm
  obtain rfl := List.mem_singleton.1 hm
  have hh : typeHandle PR T.error = .pointer (some ⟨2, T.error, none⟩) := by kernel_rfl
  rw [hh] at e5
  have := World.var?_cell gErr e5 0
  unfold ErrT
  simpa using this
/-- the settled world, the error type as the start lays it -/
noncomputable def laidWorld (os : Os) : World :=
  let w0 := World.holding Tryz.prog os ⟨#[], #[], []⟩
  let put (h : Array Obj) (g : Nat) (cs : Array Value) : Array Obj := h.modify g fun
    | .cells _ t frozen => .cells cs t frozen
    | o => o
  { w0 with heap := put w0.heap 0 #[.iface T.reflectlite_rtype (.agg #[.pointer (some ⟨2, T.error, none⟩)])] }
theorem laid_met (os : Os) (args : Array Value) : laidMetH Tryz.prog [("errors.errorType", Rows.laid_errors_errorType)] ((laidWorld os).forCall (fun _ _ => 0) ⟨#[], args, []⟩).memory :=
  laidMetH_of_parts (LaidIn.of_run (l := [("errors.errorType", Rows.laid_errors_errorType)].filter fun x => x.2.handleName?.isNone) [] 8 (by kernel_rfl) (by kernel_rfl) (by kernel_rfl) (by kernel_rfl)).met (by kernel_rfl)
end Go.Vc

/-! A part of the proof that two events of one line are one event: the calculus that follows known memory by computing, and its soundness. By an AI agent. -/

namespace Go.Vc
open Go
/-! ## the example of layer 22 -/
theorem awake22_spec {w : World} {K : Value → World → Prop} (hK : ∀ w', Grow w w' → K (.bool true) w') : CallV PR F.ladinglaw22_awake ⟨[]⟩ w K := by
  have h0 : Fs S0 w [] w := Fr.init _ w
  refine ladinglaw22_awake S0 K w ?_
  refine DNew_spec fun w1 bd g1 hbd hd => ⟨_, rfl, h0.after g1, ?_⟩
  refine Open0_spec (N := w.heap.size) (each := 8) hd hbd g1.size (by decide) (by decide) fun w2 x g2 hx e1 e2 e3 e4 e5 hp => ⟨_, _, rfl, h0.after (g1.trans g2), fun _ => fun b3 hb3 w3 hF3 => ?_, (fun t x h => by cases h), .inl rfl⟩
  have g3 : Grow w2 w3 := hF3.grow
  have g12 := g1.trans g2
  have hx3 := hx.grow g3
  have s1 := g12.size
  have s3 := g3.size
  have hroom : x.room = 200000 := by rw [PubS.room, e5]; rfl
  have step : ∀ {L : List Blk} {wa wb : World} {x : PubS}, Fs S0 w L wa → PubAt w.heap.size wa x → Chg x.reg wa wb → (∀ y, y ∈ L → ¬ x.reg y.b) → Fs S0 w L wb := fun hF hx g hL => hF.step g hL fun k hk e => by have := hx.lo k e; omega
  have hl3 : ∀ y, y ∈ [(⟨b3, #[.int .i64 0, .int .i64 1], T.api_Edge, true⟩ : Blk)] → ¬ x.reg y.b := fun y hy e => by simp at hy; subst hy; have := hx.lt _ e; simp only [] at this; omega
  have hs3 : Sl w3 (some ⟨b3, 0, none⟩) (encE [(0, 1)]) := hF3.sl 0 rfl
  refine Publish_spec hx3 (by omega) hs3 rfl (by decide) (fun w4 x4 hx4 g4 f1 f2 f3 f4 f5 f6 fr fx f7 f8 => ?_) fun w4 v g4 hx4 hv hno => ?_
  · rw [f4, e3]
    refine ⟨_, _, rfl, _, _, step hF3.reset hx3 g4 hl3, ?_⟩
    have hF4 := (step hF3.reset hx3 g4 hl3).sub (L' := []) (List.nil_sublist _)
    have s4 := hF4.gr.size
    rw [← f1]
    refine Publish_spec (l := []) hx4 (by omega) (.nil _ _) rfl (by decide) (fun w5 x5 hx5 g5 i1 i2 i3 i4 i5 i6 ir ix i7 i8 => ?_) fun w5 v g5 hx5 hv hno => ?_
    · have hF5 := step hF4 hx4 g5 (fun y hy => by cases hy)
      rw [i4, f4, e3]
      refine ⟨_, _, rfl, hF5, fun _ => ⟨fun _ => ⟨fun _ => ⟨fun _ => ?_, (fun t x h => by cases h), .inl rfl⟩, (fun t x h => by cases h), .inl rfl⟩, fun h => absurd rfl h⟩, fun h => absurd rfl h⟩
      rw [← i1]
      refine Commit_spec hx5 hF5.gr.size (by decide) (fun w6 x6 hx6 g6 j1 j2 j3 j4 j5 j6 jr jm jl jx j7 j8 => ?_) fun w6 v g6 hx6 hv hno => ?_
      · have hF6 := step hF5 hx5 g6 (fun y hy => by cases hy)
        refine ⟨_, rfl, hF6, fun _ => ?_, (fun t x h => by cases h), .inl rfl⟩
        rw [← j1]
        refine Committed_spec hx6 ⟨_, rfl, hF6, fun _ => hK w6 hF6.gr, fun h => absurd j5.symm h⟩
      · have hr4 : (x4.room : Int) ≤ x5.room + 2700 + 9 * 3 + 8 * (0 : Nat) := ir
        have hr3 : (x.room : Int) ≤ x4.room + 2700 + 9 * 2 + 8 * (1 : Nat) := fr
        exact absurd ⟨by rw [i5, f5, e4]; omega, by rw [i4, f4, e3]; omega, by rw [i4, f4, e3]; omega, by omega⟩ hno
    · have hr3 : (x.room : Int) ≤ x4.room + 2700 + 9 * 2 + 8 * (1 : Nat) := fr
      refine absurd ⟨⟨⟨by decide, by decide, by decide, fun e he => by cases he⟩, by rw [f3, e2]; decide, by decide⟩, by decide, ?_⟩ hno
      have : (2700 : Int) + 9 * 3 + 8 * (([] : List (Int × Int)).length : Nat) = 2727 := rfl
      rw [this]; omega
  · refine absurd ⟨⟨⟨by decide, by decide, by decide, fun e he => by simp at he; subst he; decide⟩, by rw [e2]; decide, by decide⟩, by decide, ?_⟩ hno
    rw [hroom]; decide
end Go.Vc

/-! A part of the proof that two events of one line are one event: the calculus that follows known memory by computing, and its soundness. By an AI agent. -/

namespace Go.Vc
open Go Go.RowKit Go.Extern.Stop Go.Stop Go.Extern Go.Proofs
theorem Code_nil (w : World) : Calls Tryz.prog 14 #[.nilIface] w fun ev w' => ev = .returned (.int .i64 0) ∧ w' = w := by
  go_enter Tryz.func14, Tryz.ntmps14
  go_wp2
  go_ret
  exact ⟨rfl, rfl⟩
theorem Code0 {w : World} {K : Value → World → Prop} (hK : ∀ w', Grow w w' → K (.int .i64 0) w') : CallV PR F.api_Code #[.nilIface] w K :=
  callV_of (Code_nil w) fun e w' ⟨he, hw⟩ => ⟨_, he, by subst hw; exact hK _ (.refl _ _)⟩
end Go.Vc

/-! A part of the proof that two events of one line are one event: the calculus that follows known memory by computing, and its soundness. By an AI agent. -/




namespace Go.Vc
open Go Go.RowKit Go.Maps Go.Sort Go.Shelf Go.Proofs Go.MapKept
open Go.WideElems (Fit rd rg rd_mk)
/-! ## the keys of a map, sorted: the shelf's contracts in our words -/
theorem grow_below {w w' : World} (h : Below w.heap.size w w') : Grow w w' := ⟨h.os, h.tape, h.output, h.size, fun k hk _ => h.block k hk⟩
theorem sortsK (m : Nat) : AnyZI.SortsIn Tryz.prog Tryz.sortedA_ren Fence.wide m :=
  ⟨fun blk off cap ss W hH hblk hsz => callsIn_wide.2 (AnyM.slices_Sort_int Tryz.sortA blk off cap ss W hH hblk hsz),
   fun p cap W => callsIn_wide.2 (AnyM.slices_Sort_int_none Tryz.sortA p cap W)⟩
theorem Keys_spec {w : World} {mb : Option Nat} {K : Value → World → Prop} (hK : ∀ w' b, Grow w w' → b < w'.heap.size → w'.cell? ⟨b, 0, none⟩ = some (.map mb) → K (.func (.func 134) #[] #[.pointer (some ⟨b, 0, none⟩)]) w') : CallV PR 78 #[.map mb] w K := by
  have cK : CallsIn Fence.wide 5 Tryz.prog 78 #[.map mb] w fun e w' => e = .returned (.func (.func 134) #[] #[.pointer (some ⟨w.heap.size, 0, none⟩)]) ∧ w' = w.alloc (.cells #[.map mb] T.map_int_pub_shown) := AnyZI.keys_in Tryz.keysA Fence.wide 5 trivial rfl mb w
  refine callV_of ((callsIn_wide (n := 5)).1 cK) fun e w' ⟨he, hw⟩ => ⟨_, he, ?_⟩
  subst hw
  exact hK _ _ (Chg.alloc w _) (by simp) (by simp)
theorem Sorted_spec {w : World} {b m : Nat} {es : Array MapEntry} {clock : Nat} (hB : w.cell? ⟨b, 0, none⟩ = some (.map (some m))) (hbl : b < w.heap.size) (hm : w.heap[m]? = some (.map es clock)) (hst : Stamped es clock) (hk : ∀ x ∈ es.toList, ∃ l, keyOf PR T.int x.key = some l) (hsz : es.size ≤ 1000000) {K : Value → World → Prop}
    (hK : ∀ w' q c, Grow w w' → K (.slice q es.size c) w') : CallV PR 77 #[.func (.func 134) #[] #[.pointer (some ⟨b, 0, none⟩)]] w K := by
  let R0 : Value → Option (DataW Unit × List MemPlace) := fun _ => some (.nil, [])
  have F0 : Fit PR T.int R0 es clock := ⟨Nat.le_trans hsz (by decide), hst, fun x hx => by
    obtain ⟨l, hl⟩ := hk x hx
    exact ⟨_, rd_mk (born := x.born) hl rfl⟩⟩
  have hown : w.ownsMap PR T.int R0 m es.size _ := World.ownsMap_of_fit hm F0 (fun _ _ _ h => h)
  have hlen := length_read (P := PR) (k := T.int) (R0 := R0) es
  have hsize : Maps.size (.map ((es.toList.map (rg PR T.int R0)).foldr DataW.insert [])) = es.size := hlen
  have hseq : SeqGives Fence.wide 2 Tryz.prog 134 #[.pointer (some ⟨b, 0, none⟩)] encZ (fun ss => ss.Perm (intKeys (.map ((es.toList.map (rg PR T.int R0)).foldr DataW.insert [])))) (Maps.size (.map ((es.toList.map (rg PR T.int R0)).foldr DataW.insert []))) w :=
    AnyZI.keys_gives (ρ := Tryz.keysA_ren) { Tryz.keysA with } Fence.wide _ trivial rfl (by omega) b m es.size _ w hbl hB hown
  have cS := AnyZI.sorted_in Tryz.sortedA Fence.wide 5 trivial trivial trivial trivial rfl (by omega) (sortsK _) (enters_of Tryz.func133 (by kernel_rfl) rfl) 134 #[.pointer (some ⟨b, 0, none⟩)] trivial (enters_of Tryz.func134 (by kernel_rfl) rfl) _ _ (by rw [hsize]; exact Nat.le_trans hsz (by decide)) (by rw [hsize]; omega) _ hseq
  change CallsIn _ _ Tryz.prog 77 _ _ _ at cS
  refine callV_of ((callsIn_wide (n := 5)).1 cS) fun e w' ⟨v, ss, he, hS, hrow, hnil, hb⟩ => ⟨v, he, ?_⟩
  have hl : ss.length = es.size := by
    rw [hS.length_eq, ← hlen]
    show (List.map _ _).length = _
    rw [List.length_map]
  rcases hrow.2 with ⟨rfl, hz⟩ | ⟨gb, cap, cur, rfl, _⟩
  · have := hK w' none 0 (grow_below hb)
    rw [← hl, hz] at this
    exact this
  · rw [hl]; exact hK w' _ _ (grow_below hb)
theorem nodup_le : ∀ (N : Nat) (l : List Nat), l.Nodup → (∀ x ∈ l, x < N) → l.length ≤ N
  | 0, l, _, h => by
    cases l with
    | nil => simp
    | cons a l => exact absurd (h a List.mem_cons_self) (by omega)
  | N + 1, l, hn, h => by
    by_cases hm : N ∈ l
    · have h1 := nodup_le N (l.erase N) (hn.erase N) fun x hx => by
        have := (hn.mem_erase_iff).1 hx
        have := h x this.2
        omega
      rw [List.length_erase_of_mem hm] at h1
      omega
    · have := nodup_le N l hn fun x hx => by
        have := h x hx
        rcases Nat.lt_or_ge x N with h2 | h2
        · exact h2
        · have : x = N := by omega
          subst this; exact absurd hx hm
      omega
/-- how many are kept -/
theorem PubAt.keys {N : Nat} {w : World} {x : PubS} (h : PubAt N w x) : ∃ es clock, w.heap[x.m]? = some (.map es clock) ∧ Stamped es clock ∧ (∀ y ∈ es.toList, ∃ l, keyOf PR T.int y.key = some l) ∧ es.size ≤ 1000000 := by
  obtain ⟨n, es, clock, h1, h2, h3, h4, h5⟩ := h.map
  refine ⟨es, clock, h1, h2, h4, ?_⟩
  have hs := h.small
  have hkey : ∀ y ∈ es.toList, ∃ i : Nat, y.key = .int .i64 (i : Int) ∧ i ≤ 200000 := fun y hy => by
    obtain ⟨i, b, c, mn, list, k1, k2, k3, _⟩ := h.kept y.key y.val ((h5 _ _).2 ⟨y, hy, rfl, rfl⟩)
    exact ⟨i, k3, by omega⟩
  let nat : Value → Nat := fun v => match v with | .int _ i => i.toNat | _ => 0
  have hnd : ((es.toList.map (·.key)).map nat).Nodup := by
    refine List.pairwise_map.2 (h2.2.2.imp_of_mem fun {a b} ha hb hne e => hne ?_)
    obtain ⟨y, hy, rfl⟩ := List.mem_map.1 ha
    obtain ⟨z, hz, rfl⟩ := List.mem_map.1 hb
    obtain ⟨i, e1, _⟩ := hkey y hy
    obtain ⟨j, e2, _⟩ := hkey z hz
    rw [e1, e2] at e ⊢
    have : i = j := by simpa [nat] using e
    rw [this]
  have := nodup_le 200001 _ hnd fun v hv => by
    obtain ⟨k, hk, rfl⟩ := List.mem_map.1 hv
    obtain ⟨y, hy, rfl⟩ := List.mem_map.1 hk
    obtain ⟨i, e1, hi⟩ := hkey y hy
    rw [e1]
    show i < 200001
    omega
  simp only [List.length_map, Array.length_toList] at this
  omega
end Go.Vc

/-! A part of the proof that two events of one line are one event: the calculus that follows known memory by computing, and its soundness. By an AI agent. -/


namespace Go.Vc
open Go
/-! R1: conditions printed by a program of ours, checked by the kernel -/
/-- (*lading/pub.Pub).Publish -/
theorem pub_Publish_nil (m0 : Int) (y1 : Option Addr) (ly1 : Nat) (cy1 : Nat) (S : Nat → Prop) (K : Value → World → Prop) (w : World) (h : ((none : Option Addr) = none → K (.tuple (#[.int .i64 0, .iface 93 (.int .i64 1)])) w) ∧ ∀ a0 : Addr, (none : Option Addr) = some a0 → ∀ w0 : World, Fr S w w [] [] w0 → ∃ I0 : World → Prop, I0 w0 ∧ Dr none (fun a1 => Dr (some a1) (fun a2 => Dr (some (Addr.add a2 2)) (fun a3 => ∃ n0 : Int, (∀ w1 : World, I0 w1 → (World.cell? w1 a3 : Option Value) = some (.int .i64 n0)) ∧ Dr none (fun a4 => Dr (some a4) (fun a5 => Dr (some (Addr.add a5 1)) (fun a6 => ∃ n1 : Int, (∀ w2 : World, I0 w2 → (World.cell? w2 a6 : Option Value) = some (.int .i64 n1)) ∧ CallV Proofs.Tryz.prog 48 (#[.int .i64 (IntKind.wrap .i64 ((n0 + 1))), .int .i64 m0, .int .i64 n1, .slice y1 ly1 cy1]) w0 (fun v0 w3 => ∃ q0 : Option Addr, ∃ v1 : Value, v0 = .tuple (#[.pointer q0, v1]) ∧ Fs S w [] w3 ∧ I0 w3 ∧ ((v1 : Value) = .nilIface → Dr q0 (fun a7 => Dr (some a7) (fun a8 => Dr (some (Addr.add a8 0)) (fun a9 => ∃ n2 : Int, (World.cell? w3 (Addr.add a9 0) : Option Value) = some (.int .i64 n2) ∧ ∃ n3 : Int, (World.cell? w3 (Addr.add a9 1) : Option Value) = some (.int .i64 n3) ∧ ∃ n4 : Int, (World.cell? w3 (Addr.add a9 2) : Option Value) = some (.int .i64 n4) ∧ ∃ q1 : Option Addr, ∃ l0 : Nat, ∃ l1 : Nat, (World.cell? w3 (Addr.add a9 3) : Option Value) = some (.slice q1 l0 l1) ∧ ∃ n5 : Int, (World.cell? w3 (Addr.add a9 4) : Option Value) = some (.int .i64 n5) ∧ ∃ s0 : ByteArray, (World.cell? w3 (Addr.add a9 5) : Option Value) = some (.string s0) ∧ CallV Proofs.Tryz.prog 49 (#[.agg (#[.int .i64 n2, .int .i64 n3, .int .i64 n4, .slice q1 l0 l1, .int .i64 n5, .string s0])]) w3 (fun v2 w4 => ∃ s1 : ByteArray, ∃ v3 : Value, v2 = .tuple (#[.string s1, v3]) ∧ Fs S w [] w4 ∧ ∀ w5 : World, Fr S w w4 [] [] w5 → ∃ I1 : World → Prop, I1 w5 ∧ Dr q0 (fun a10 => Dr (some a10) (fun a11 => Dr (some (Addr.add a11 6)) (fun a12 => ∃ q2 : Option Addr, ∃ l2 : Nat, ∃ l3 : Nat, (∀ w6 : World, I1 w6 → (World.cell? w6 a12 : Option Value) = some (.slice q2 l2 l3)) ∧ ∀ l4 : Nat, w5.heap.size ≤ l4 → ∀ w7 : World, Fr S w w5 [] ([⟨l4, #[.string s1], 9, true⟩]) w7 → I1 w7 ∧ CallV Proofs.Tryz.prog 51 (#[.slice (some (⟨l4, 0, none⟩)) 1 1]) w7 (fun v4 w8 => ∃ s2 : ByteArray, v4 = .string s2 ∧ Fs S w ([⟨l4, #[.string s1], 9, true⟩]) w8 ∧ I1 w8 ∧ ((1 + (ByteArray.size s2)) : Nat) ≤ 9223372036854775807 ∧ CallV Proofs.Tryz.prog 52 (#[.slice q2 l2 l3, .string ⟨#[]⟩]) w8 (fun v5 w9 => ∃ s3 : ByteArray, v5 = .string s3 ∧ Fs S w ([⟨l4, #[.string s1], 9, true⟩]) w9 ∧ I1 w9 ∧ ((ByteArray.size (((⟨#[86]⟩ : ByteArray) ++ s2)) + (ByteArray.size s3)) : Nat) ≤ 9223372036854775807 ∧ CallV Proofs.Tryz.prog 50 (#[.pointer none, .string (((((⟨#[86]⟩ : ByteArray) ++ s2) : ByteArray) ++ s3))]) w9 (fun v6 w10 => ∃ v7 : Value, v6 = v7 ∧ Fs S w ([⟨l4, #[.string s1], 9, true⟩]) w10 ∧ I1 w10 ∧ ((v7 : Value) = .nilIface → CallV Proofs.Tryz.prog 53 (#[.pointer none, .pointer q0]) w10 (fun v8 w11 => v8 = .tuple #[] ∧ Fs S w [] w11 ∧ Dr q0 (fun a13 => Dr (some a13) (fun a14 => Dr (some (Addr.add a14 0)) (fun a15 => Dr (some (Addr.add a15 0)) (fun a16 => ∃ n6 : Int, (World.cell? w11 a16 : Option Value) = some (.int .i64 n6) ∧ K (.tuple (#[.int .i64 n6, .nilIface])) w11)))))) ∧ (∀ x0 : Nat, ∀ v9 : Value, (v7 : Value) = .iface x0 v9 → K (.tuple (#[.int .i64 0, v7])) w10) ∧ ((v7 : Value) = .nilIface ∨ ∃ l5 : Nat, ∃ v10 : Value, (v7 : Value) = .iface l5 v10)))))))))))) ∧ (∀ x1 : Nat, ∀ v11 : Value, (v1 : Value) = .iface x1 v11 → K (.tuple (#[.int .i64 0, v1])) w3) ∧ ((v1 : Value) = .nilIface ∨ ∃ l6 : Nat, ∃ v12 : Value, (v1 : Value) = .iface l6 v12))))))))) : CallV Go.Proofs.Tryz.prog 13 ⟨[.pointer none, .int .i64 m0, .slice y1 ly1 cy1]⟩ w K :=
  call_of_vc3 (okf := ⟨okL, []⟩) okL_ok (args := [.c (.v (.pointer none)), .c (.v (.int .i64 m0)), .c (.v (.slice y1 ly1 cy1))]) (H := []) (.s .z (.s .z (.s (.r ⟨(some []), true, [], []⟩) (.s .z (.s (.r ⟨(some []), true, [], []⟩) (.s (.s (.r ⟨(some []), true, [], []⟩) .z) (.s (.r ⟨(some []), true, [], []⟩) .z))))))) Go.Proofs.Tryz.func13 rfl ⟨trivial, trivial, trivial, trivial⟩ trivial (Fr.init S w) trivial (cast_vc (by kernel_rfl) h)


/-- (*lading/pub.Pub).Manifest -/
theorem pub_Manifest_nil (m0 : Int) (S : Nat → Prop) (K : Value → World → Prop) (w : World) (h : ∀ l0 : Nat, w.heap.size ≤ l0 → ∀ w0 : World, Fr S w w [] ([⟨l0, #[.int .i64 0, .int .i64 0, .int .i64 0, .slice none 0 0, .int .i64 0, .string ⟨#[]⟩], 82, true⟩]) w0 → CallV Proofs.Tryz.prog 79 (#[.pointer none, .int .i64 m0]) w0 (fun v0 w1 => ∃ q0 : Option Addr, ∃ q1 : Option Addr, ∃ v1 : Value, v0 = .tuple (#[.agg (#[.pointer q0, .pointer q1]), v1]) ∧ Fs S w ([⟨l0, #[.int .i64 0, .int .i64 0, .int .i64 0, .slice none 0 0, .int .i64 0, .string ⟨#[]⟩], 82, true⟩]) w1 ∧ ∀ l1 : Nat, w1.heap.size ≤ l1 → ((v1 : Value) = .nilIface → Dr q0 (fun a0 => Dr (some a0) (fun a1 => ∀ w2 : World, Fr S w w1 [l1] ([⟨l0, #[.int .i64 0, .int .i64 0, .int .i64 0, .slice none 0 0, .int .i64 0, .string ⟨#[]⟩], 82, true⟩, ⟨l1, #[.pointer q0, .pointer q1], 151, true⟩]) w2 → Dr (some (Addr.add a1 0)) (fun a2 => ∃ n0 : Int, (World.cell? w2 (Addr.add a2 0) : Option Value) = some (.int .i64 n0) ∧ ∃ n1 : Int, (World.cell? w2 (Addr.add a2 1) : Option Value) = some (.int .i64 n1) ∧ ∃ n2 : Int, (World.cell? w2 (Addr.add a2 2) : Option Value) = some (.int .i64 n2) ∧ ∃ q2 : Option Addr, ∃ l2 : Nat, ∃ l3 : Nat, (World.cell? w2 (Addr.add a2 3) : Option Value) = some (.slice q2 l2 l3) ∧ ∃ n3 : Int, (World.cell? w2 (Addr.add a2 4) : Option Value) = some (.int .i64 n3) ∧ ∃ s0 : ByteArray, (World.cell? w2 (Addr.add a2 5) : Option Value) = some (.string s0) ∧ CallV Proofs.Tryz.prog 80 (#[.agg (#[.int .i64 n0, .int .i64 n1, .int .i64 n2, .slice q2 l2 l3, .int .i64 n3, .string s0])]) w2 (fun v2 w3 => ∃ n4 : Int, ∃ n5 : Int, ∃ n6 : Int, ∃ q3 : Option Addr, ∃ l4 : Nat, ∃ l5 : Nat, ∃ n7 : Int, ∃ s1 : ByteArray, v2 = .agg (#[.int .i64 n4, .int .i64 n5, .int .i64 n6, .slice q3 l4 l5, .int .i64 n7, .string s1]) ∧ Fs S w ([⟨l0, #[.int .i64 0, .int .i64 0, .int .i64 0, .slice none 0 0, .int .i64 0, .string ⟨#[]⟩], 82, true⟩, ⟨l1, #[.pointer q0, .pointer q1], 151, true⟩]) w3 ∧ ∀ w4 : World, Fr S w w3 [l0] [] w4 → K (.tuple (#[.agg (#[.int .i64 n4, .int .i64 n5, .int .i64 n6, .slice q3 l4 l5, .int .i64 n7, .string s1]), .nilIface])) w4))))) ∧ (∀ x0 : Nat, ∀ v3 : Value, (v1 : Value) = .iface x0 v3 → ∀ w5 : World, Fr S w w1 [l0, l1] [] w5 → K (.tuple (#[.agg (#[.int .i64 0, .int .i64 0, .int .i64 0, .slice none 0 0, .int .i64 0, .string ⟨#[]⟩]), v1])) w5) ∧ ((v1 : Value) = .nilIface ∨ ∃ l6 : Nat, ∃ v4 : Value, (v1 : Value) = .iface l6 v4))) : CallV Go.Proofs.Tryz.prog 37 ⟨[.pointer none, .int .i64 m0]⟩ w K :=
  call_of_vc3 (okf := ⟨okL, []⟩) okL_ok (args := [.c (.v (.pointer none)), .c (.v (.int .i64 m0))]) (H := []) (.s (.r ⟨(some []), false, [], []⟩) (.s (.r ⟨(some [4]), false, [], []⟩) (.s (.s .z (.c (.s (.r ⟨(some [4]), false, [], []⟩) .z) .z)) (.s (.r ⟨(some [4, 6]), false, [], []⟩) .z)))) Go.Proofs.Tryz.func37 rfl ⟨trivial, trivial, trivial⟩ trivial (Fr.init S w) trivial (cast_vc (by kernel_rfl) h)


/-- (*lading/pub.Pub).Block -/
theorem pub_Block_nil (m0 : Int) (m1 : Int) (S : Nat → Prop) (K : Value → World → Prop) (w : World) (h : ∀ l0 : Nat, w.heap.size ≤ l0 → ∀ w0 : World, Fr S w w [] ([⟨l0, #[.int .i64 0, .int .i64 0, .int .i64 0, .string ⟨#[]⟩, .slice none 0 0], 41, true⟩]) w0 → CallV Proofs.Tryz.prog 79 (#[.pointer none, .int .i64 m0]) w0 (fun v0 w1 => ∃ q0 : Option Addr, ∃ q1 : Option Addr, ∃ v1 : Value, v0 = .tuple (#[.agg (#[.pointer q0, .pointer q1]), v1]) ∧ Fs S w ([⟨l0, #[.int .i64 0, .int .i64 0, .int .i64 0, .string ⟨#[]⟩, .slice none 0 0], 41, true⟩]) w1 ∧ ∀ l1 : Nat, w1.heap.size ≤ l1 → ((v1 : Value) = .nilIface → ∀ w2 : World, Fr S w w1 [l1] ([⟨l0, #[.int .i64 0, .int .i64 0, .int .i64 0, .string ⟨#[]⟩, .slice none 0 0], 41, true⟩, ⟨l1, #[.pointer q0, .pointer q1], 151, true⟩]) w2 → CallV Proofs.Tryz.prog 81 (#[.pointer q1, .int .i64 m1]) w2 (fun v2 w3 => ∃ q2 : Option Addr, ∃ l2 : Nat, ∃ l3 : Nat, ∃ v3 : Value, v2 = .tuple (#[.slice q2 l2 l3, v3]) ∧ Fs S w ([⟨l0, #[.int .i64 0, .int .i64 0, .int .i64 0, .string ⟨#[]⟩, .slice none 0 0], 41, true⟩, ⟨l1, #[.pointer q0, .pointer q1], 151, true⟩]) w3 ∧ ((v3 : Value) = .nilIface → Dr q0 (fun a0 => Dr (some a0) (fun a1 => Dr (some (Addr.add a1 6)) (fun a2 => ∃ q3 : Option Addr, ∃ l4 : Nat, ∃ l5 : Nat, (World.cell? w3 a2 : Option Value) = some (.slice q3 l4 l5) ∧ Dr q3 (fun a3 => (0 : Int) ≤ m1 ∧ m1 < ((l4 : Nat) : Int) ∧ Dr (some (Addr.add a3 ((Int.toNat m1 * 1)))) (fun a4 => ∃ s0 : ByteArray, (World.cell? w3 a4 : Option Value) = some (.string s0) ∧ ∀ w4 : World, Fr S w w3 [l0] [] w4 → K (.tuple (#[.agg (#[.int .i64 3, .int .i64 m0, .int .i64 m1, .string s0, .slice q2 l2 l3]), .nilIface])) w4)))))) ∧ (∀ x0 : Nat, ∀ v4 : Value, (v3 : Value) = .iface x0 v4 → ∀ w5 : World, Fr S w w3 [l0] [] w5 → K (.tuple (#[.agg (#[.int .i64 0, .int .i64 0, .int .i64 0, .string ⟨#[]⟩, .slice none 0 0]), v3])) w5) ∧ ((v3 : Value) = .nilIface ∨ ∃ l6 : Nat, ∃ v5 : Value, (v3 : Value) = .iface l6 v5))) ∧ (∀ x1 : Nat, ∀ v6 : Value, (v1 : Value) = .iface x1 v6 → ∀ w6 : World, Fr S w w1 [l0, l1] [] w6 → K (.tuple (#[.agg (#[.int .i64 0, .int .i64 0, .int .i64 0, .string ⟨#[]⟩, .slice none 0 0]), v1])) w6) ∧ ((v1 : Value) = .nilIface ∨ ∃ l7 : Nat, ∃ v7 : Value, (v1 : Value) = .iface l7 v7))) : CallV Go.Proofs.Tryz.prog 38 ⟨[.pointer none, .int .i64 m0, .int .i64 m1]⟩ w K :=
  call_of_vc3 (okf := ⟨okL, []⟩) okL_ok (args := [.c (.v (.pointer none)), .c (.v (.int .i64 m0)), .c (.v (.int .i64 m1))]) (H := []) (.s (.r ⟨(some []), false, [], []⟩) (.s (.r ⟨(some [6]), false, [], []⟩) (.s (.s .z (.c (.s (.r ⟨(some [6]), false, [], []⟩) .z) .z)) (.s (.r ⟨(some [6, 8]), false, [], []⟩) (.s (.s .z (.c (.s (.r ⟨(some [6]), false, [], []⟩) .z) .z)) (.s (.r ⟨(some [6, 8]), false, [], []⟩) .z)))))) Go.Proofs.Tryz.func38 rfl ⟨trivial, trivial, trivial, trivial⟩ trivial (Fr.init S w) trivial (cast_vc (by kernel_rfl) h)


/-- (*lading/pub.Pub).Offer -/
theorem pub_Offer_nil (m0 : Int) (S : Nat → Prop) (K : Value → World → Prop) (w : World) (h : ∀ l0 : Nat, w.heap.size ≤ l0 → ∀ w0 : World, Fr S w w [] ([⟨l0, #[.int .i64 0, .int .i64 0, .int .i64 0, .string ⟨#[]⟩, .slice none 0 0], 41, true⟩]) w0 → CallV Proofs.Tryz.prog 79 (#[.pointer none, .int .i64 m0]) w0 (fun v0 w1 => ∃ q0 : Option Addr, ∃ q1 : Option Addr, ∃ v1 : Value, v0 = .tuple (#[.agg (#[.pointer q0, .pointer q1]), v1]) ∧ Fs S w ([⟨l0, #[.int .i64 0, .int .i64 0, .int .i64 0, .string ⟨#[]⟩, .slice none 0 0], 41, true⟩]) w1 ∧ ∀ l1 : Nat, w1.heap.size ≤ l1 → ((v1 : Value) = .nilIface → Dr q0 (fun a0 => Dr (some a0) (fun a1 => ∀ w2 : World, Fr S w w1 [l1] ([⟨l0, #[.int .i64 0, .int .i64 0, .int .i64 0, .string ⟨#[]⟩, .slice none 0 0], 41, true⟩, ⟨l1, #[.pointer q0, .pointer q1], 151, true⟩]) w2 → Dr (some (Addr.add a1 0)) (fun a2 => ∃ n0 : Int, (World.cell? w2 (Addr.add a2 0) : Option Value) = some (.int .i64 n0) ∧ ∃ n1 : Int, (World.cell? w2 (Addr.add a2 1) : Option Value) = some (.int .i64 n1) ∧ ∃ n2 : Int, (World.cell? w2 (Addr.add a2 2) : Option Value) = some (.int .i64 n2) ∧ ∃ q2 : Option Addr, ∃ l2 : Nat, ∃ l3 : Nat, (World.cell? w2 (Addr.add a2 3) : Option Value) = some (.slice q2 l2 l3) ∧ ∃ n3 : Int, (World.cell? w2 (Addr.add a2 4) : Option Value) = some (.int .i64 n3) ∧ ∃ s0 : ByteArray, (World.cell? w2 (Addr.add a2 5) : Option Value) = some (.string s0) ∧ CallV Proofs.Tryz.prog 49 (#[.agg (#[.int .i64 n0, .int .i64 n1, .int .i64 n2, .slice q2 l2 l3, .int .i64 n3, .string s0])]) w2 (fun v2 w3 => ∃ s1 : ByteArray, ∃ v3 : Value, v2 = .tuple (#[.string s1, v3]) ∧ Fs S w ([⟨l0, #[.int .i64 0, .int .i64 0, .int .i64 0, .string ⟨#[]⟩, .slice none 0 0], 41, true⟩, ⟨l1, #[.pointer q0, .pointer q1], 151, true⟩]) w3 ∧ ∀ w4 : World, Fr S w w3 [l0] [] w4 → K (.tuple (#[.agg (#[.int .i64 1, .int .i64 0, .int .i64 0, .string s1, .slice none 0 0]), v3])) w4))))) ∧ (∀ x0 : Nat, ∀ v4 : Value, (v1 : Value) = .iface x0 v4 → ∀ w5 : World, Fr S w w1 [l0, l1] [] w5 → K (.tuple (#[.agg (#[.int .i64 0, .int .i64 0, .int .i64 0, .string ⟨#[]⟩, .slice none 0 0]), v1])) w5) ∧ ((v1 : Value) = .nilIface ∨ ∃ l4 : Nat, ∃ v5 : Value, (v1 : Value) = .iface l4 v5))) : CallV Go.Proofs.Tryz.prog 39 ⟨[.pointer none, .int .i64 m0]⟩ w K :=
  call_of_vc3 (okf := ⟨okL, []⟩) okL_ok (args := [.c (.v (.pointer none)), .c (.v (.int .i64 m0))]) (H := []) (.s (.r ⟨(some []), false, [], []⟩) (.s (.r ⟨(some [4]), false, [], []⟩) (.s (.s .z (.c (.s (.r ⟨(some [4]), false, [], []⟩) .z) .z)) (.s (.r ⟨(some [4, 6]), false, [], []⟩) (.s (.r ⟨(some [4]), false, [], []⟩) .z))))) Go.Proofs.Tryz.func39 rfl ⟨trivial, trivial, trivial⟩ trivial (Fr.init S w) trivial (cast_vc (by kernel_rfl) h)


/-- (*lading/pub.Pub).Graph -/
theorem pub_Graph_nil (m0 : Int) (S : Nat → Prop) (K : Value → World → Prop) (w : World) (h : CallV Proofs.Tryz.prog 79 (#[.pointer none, .int .i64 m0]) w (fun v0 w0 => ∃ q0 : Option Addr, ∃ q1 : Option Addr, ∃ v1 : Value, v0 = .tuple (#[.agg (#[.pointer q0, .pointer q1]), v1]) ∧ Fs S w [] w0 ∧ ∀ l0 : Nat, w0.heap.size ≤ l0 → ((v1 : Value) = .nilIface → ∀ w1 : World, Fr S w w0 [l0] ([⟨l0, #[.pointer q0, .pointer q1], 151, true⟩]) w1 → ∃ I0 : World → Prop, I0 w1 ∧ Dr q0 (fun a0 => Dr (some a0) (fun a1 => Dr (some (Addr.add a1 0)) (fun a2 => ∃ n0 : Int, (∀ w2 : World, I0 w2 → (World.cell? w2 (Addr.add a2 0) : Option Value) = some (.int .i64 n0)) ∧ ∃ n1 : Int, (∀ w3 : World, I0 w3 → (World.cell? w3 (Addr.add a2 1) : Option Value) = some (.int .i64 n1)) ∧ ∃ n2 : Int, (∀ w4 : World, I0 w4 → (World.cell? w4 (Addr.add a2 2) : Option Value) = some (.int .i64 n2)) ∧ ∃ q2 : Option Addr, ∃ l1 : Nat, ∃ l2 : Nat, (∀ w5 : World, I0 w5 → (World.cell? w5 (Addr.add a2 3) : Option Value) = some (.slice q2 l1 l2)) ∧ ∃ n3 : Int, (∀ w6 : World, I0 w6 → (World.cell? w6 (Addr.add a2 4) : Option Value) = some (.int .i64 n3)) ∧ ∃ s0 : ByteArray, (∀ w7 : World, I0 w7 → (World.cell? w7 (Addr.add a2 5) : Option Value) = some (.string s0)) ∧ Dr q0 (fun a3 => Dr (some a3) (fun a4 => Dr (some (Addr.add a4 6)) (fun a5 => ∃ q3 : Option Addr, ∃ l3 : Nat, ∃ l4 : Nat, (∀ w8 : World, I0 w8 → (World.cell? w8 a5 : Option Value) = some (.slice q3 l3 l4)) ∧ CallV Proofs.Tryz.prog 83 (#[.slice q3 l3 l4]) w1 (fun v2 w9 => ∃ v3 : Value, v2 = v3 ∧ Fs S w ([⟨l0, #[.pointer q0, .pointer q1], 151, true⟩]) w9 ∧ I0 w9 ∧ CallV Proofs.Tryz.prog 82 (#[.agg (#[.int .i64 n0, .int .i64 n1, .int .i64 n2, .slice q2 l1 l2, .int .i64 n3, .string s0]), v3]) w9 (fun v4 w10 => ∃ q4 : Option Addr, ∃ v5 : Value, v4 = .tuple (#[.pointer q4, v5]) ∧ Fs S w ([⟨l0, #[.pointer q0, .pointer q1], 151, true⟩]) w10 ∧ I0 w10 ∧ ((v5 : Value) = .nilIface → CallV Proofs.Tryz.prog 84 (#[.pointer q4]) w10 (fun v6 w11 => ∃ q5 : Option Addr, ∃ v7 : Value, v6 = .tuple (#[.pointer q5, v7]) ∧ Fs S w [] w11 ∧ K (.tuple (#[.pointer q5, v7])) w11)) ∧ (∀ x0 : Nat, ∀ v8 : Value, (v5 : Value) = .iface x0 v8 → K (.tuple (#[.pointer none, v5])) w10) ∧ ((v5 : Value) = .nilIface ∨ ∃ l5 : Nat, ∃ v9 : Value, (v5 : Value) = .iface l5 v9)))))))))) ∧ (∀ x1 : Nat, ∀ v10 : Value, (v1 : Value) = .iface x1 v10 → ∀ w12 : World, Fr S w w0 [l0] [] w12 → K (.tuple (#[.pointer none, v1])) w12) ∧ ((v1 : Value) = .nilIface ∨ ∃ l6 : Nat, ∃ v11 : Value, (v1 : Value) = .iface l6 v11))) : CallV Go.Proofs.Tryz.prog 40 ⟨[.pointer none, .int .i64 m0]⟩ w K :=
  call_of_vc3 (okf := ⟨okL, []⟩) okL_ok (args := [.c (.v (.pointer none)), .c (.v (.int .i64 m0))]) (H := []) (.s .z (.s (.r ⟨(some []), true, [], []⟩) (.s .z (.s (.r ⟨(some [6]), true, [], []⟩) (.s .z (.s (.r ⟨(some []), true, [], []⟩) .z)))))) Go.Proofs.Tryz.func40 rfl ⟨trivial, trivial, trivial⟩ trivial (Fr.init S w) trivial (cast_vc (by kernel_rfl) h)


/-- (*lading/pub.Pub).Commit -/
theorem pub_Commit_nil (m0 : Int) (S : Nat → Prop) (K : Value → World → Prop) (w : World) (h : ((none : Option Addr) = none → K (.iface 93 (.int .i64 1)) w) ∧ ∀ a0 : Addr, (none : Option Addr) = some a0 → Dr none (fun a1 => Dr (some a1) (fun a2 => Dr (some (Addr.add a2 4)) (fun a3 => ∃ q0 : Option Nat, (World.cell? w a3 : Option Value) = some (.map q0) ∧ rn Proofs.Tryz.prog (Instr.lookup 97 (.map q0) (.int .i64 m0) true) (fun v0 w0 => ∃ q1 : Option Addr, ∃ q2 : Option Addr, ∃ b0 : Bool, v0 = .tuple (#[.agg (#[.pointer q1, .pointer q2]), .bool b0]) ∧ (b0 = true → Fs S w [] w0 ∧ ∀ l0 : Nat, w0.heap.size ≤ l0 → Dr none (fun a4 => Dr (some a4) (fun a5 => ∀ w1 : World, Fr S w w0 [l0] ([⟨l0, #[.pointer q1, .pointer q2], 151, true⟩]) w1 → Dr (some (Addr.add a5 3)) (fun a6 => ∃ n0 : Int, (World.cell? w1 a6 : Option Value) = some (.int .i64 n0) ∧ (m0 ≤ n0 → K (.iface 93 (.int .i64 13)) w1) ∧ (¬ (m0 ≤ n0) → CallV Proofs.Tryz.prog 56 (#[.int .i64 m0]) w1 (fun v1 w2 => ∃ s0 : ByteArray, ∃ v2 : Value, v1 = .tuple (#[.string s0, v2]) ∧ Fs S w [] w2 ∧ ((1 + (ByteArray.size s0)) : Nat) ≤ 9223372036854775807 ∧ CallV Proofs.Tryz.prog 50 (#[.pointer none, .string (((⟨#[67]⟩ : ByteArray) ++ s0))]) w2 (fun v3 w3 => ∃ v4 : Value, v3 = v4 ∧ Fs S w [] w3 ∧ ((v4 : Value) = .nilIface → CallV Proofs.Tryz.prog 85 (#[.pointer none, .int .i64 m0]) w3 (fun v5 w4 => v5 = .tuple #[] ∧ Fs S w [] w4 ∧ K .nilIface w4)) ∧ (∀ x0 : Nat, ∀ v6 : Value, (v4 : Value) = .iface x0 v6 → K v4 w3) ∧ ((v4 : Value) = .nilIface ∨ ∃ l1 : Nat, ∃ v7 : Value, (v4 : Value) = .iface l1 v7)))))))) ∧ (b0 = false → Fs S w [] w0 ∧ ∀ l2 : Nat, w0.heap.size ≤ l2 → ∀ w5 : World, Fr S w w0 [l2] [] w5 → K (.iface 93 (.int .i64 13)) w5)) w)))) : CallV Go.Proofs.Tryz.prog 41 ⟨[.pointer none, .int .i64 m0]⟩ w K :=
  call_of_vc3 (okf := ⟨okL, []⟩) okL_ok (args := [.c (.v (.pointer none)), .c (.v (.int .i64 m0))]) (H := []) (.s .z (.s .z (.s (.s (.r ⟨(some []), false, [], []⟩) .z) (.s (.r ⟨(some []), false, [], []⟩) (.s (.s (.r ⟨(some []), false, [], []⟩) .z) (.s (.r ⟨(some []), false, [], []⟩) .z)))))) Go.Proofs.Tryz.func41 rfl ⟨trivial, trivial, trivial⟩ trivial (Fr.init S w) trivial (cast_vc (by kernel_rfl) h)


/-- (*lading/pub.Pub).Last -/
theorem pub_Last_nil  (S : Nat → Prop) (K : Value → World → Prop) (w : World) (h : ((none : Option Addr) = none → K (.int .i64 0) w) ∧ ∀ a0 : Addr, (none : Option Addr) = some a0 → Dr none (fun a1 => Dr (some a1) (fun a2 => Dr (some (Addr.add a2 2)) (fun a3 => ∃ n0 : Int, (World.cell? w a3 : Option Value) = some (.int .i64 n0) ∧ K (.int .i64 n0) w)))) : CallV Go.Proofs.Tryz.prog 23 ⟨[.pointer none]⟩ w K :=
  call_of_vc3 (okf := ⟨okL, []⟩) okL_ok (args := [.c (.v (.pointer none))]) (H := []) .z Go.Proofs.Tryz.func23 rfl ⟨trivial, trivial⟩ trivial (Fr.init S w) trivial (cast_vc (by kernel_rfl) h)


/-- (*lading/pub.Pub).Committed -/
theorem pub_Committed_nil  (S : Nat → Prop) (K : Value → World → Prop) (w : World) (h : ((none : Option Addr) = none → K (.int .i64 0) w) ∧ ∀ a0 : Addr, (none : Option Addr) = some a0 → Dr none (fun a1 => Dr (some a1) (fun a2 => Dr (some (Addr.add a2 3)) (fun a3 => ∃ n0 : Int, (World.cell? w a3 : Option Value) = some (.int .i64 n0) ∧ K (.int .i64 n0) w)))) : CallV Go.Proofs.Tryz.prog 24 ⟨[.pointer none]⟩ w K :=
  call_of_vc3 (okf := ⟨okL, []⟩) okL_ok (args := [.c (.v (.pointer none))]) (H := []) .z Go.Proofs.Tryz.func24 rfl ⟨trivial, trivial⟩ trivial (Fr.init S w) trivial (cast_vc (by kernel_rfl) h)


/-- (*lading/pub.Pub).Room -/
theorem pub_Room_nil  (S : Nat → Prop) (K : Value → World → Prop) (w : World) (h : ((none : Option Addr) = none → K (.int .i64 0) w) ∧ ∀ a0 : Addr, (none : Option Addr) = some a0 → Dr none (fun a1 => Dr (some a1) (fun a2 => Dr (some (Addr.add a2 0)) (fun a3 => ∃ q0 : Option Addr, (World.cell? w a3 : Option Value) = some (.pointer q0) ∧ CallV Proofs.Tryz.prog 76 (#[.pointer q0]) w (fun v0 w0 => ∃ n0 : Int, v0 = .int .i64 n0 ∧ Fs S w [] w0 ∧ K (.int .i64 (IntKind.wrap .i64 (((200000 : Int) - n0)))) w0))))) : CallV Go.Proofs.Tryz.prog 35 ⟨[.pointer none]⟩ w K :=
  call_of_vc3 (okf := ⟨okL, []⟩) okL_ok (args := [.c (.v (.pointer none))]) (H := []) (.s .z (.s .z (.s (.r ⟨(some []), false, [], []⟩) .z))) Go.Proofs.Tryz.func35 rfl ⟨trivial, trivial⟩ trivial (Fr.init S w) trivial (cast_vc (by kernel_rfl) h)


/-- (*lading/pub.Pub).Kept -/
theorem pub_Kept_nil  (S : Nat → Prop) (K : Value → World → Prop) (w : World) (h : ((none : Option Addr) = none → K (.slice none 0 0) w) ∧ ∀ a0 : Addr, (none : Option Addr) = some a0 → Dr none (fun a1 => Dr (some a1) (fun a2 => Dr (some (Addr.add a2 4)) (fun a3 => ∃ q0 : Option Nat, (World.cell? w a3 : Option Value) = some (.map q0) ∧ CallV Proofs.Tryz.prog 78 (#[.map q0]) w (fun v0 w0 => ∃ v1 : Value, v0 = v1 ∧ Fs S w [] w0 ∧ CallV Proofs.Tryz.prog 77 #[v1] w0 (fun v2 w1 => ∃ q1 : Option Addr, ∃ l0 : Nat, ∃ l1 : Nat, v2 = .slice q1 l0 l1 ∧ Fs S w [] w1 ∧ K (.slice q1 l0 l1) w1)))))) : CallV Go.Proofs.Tryz.prog 36 ⟨[.pointer none]⟩ w K :=
  call_of_vc3 (okf := ⟨okL, []⟩) okL_ok (args := [.c (.v (.pointer none))]) (H := []) (.s .z (.s .z (.s (.r ⟨(some []), false, [], []⟩) .z))) Go.Proofs.Tryz.func36 rfl ⟨trivial, trivial⟩ trivial (Fr.init S w) trivial (cast_vc (by kernel_rfl) h)


/-- (*lading/pub.Pub).of -/
theorem pub_of_nil (m0 : Int) (S : Nat → Prop) (K : Value → World → Prop) (w : World) (h : ∀ l0 : Nat, w.heap.size ≤ l0 → ((none : Option Addr) = none → ∀ w0 : World, Fr S w w [l0] [] w0 → K (.tuple (#[.agg (#[.pointer none, .pointer none]), .iface 93 (.int .i64 1)])) w0) ∧ ∀ a0 : Addr, (none : Option Addr) = some a0 → Dr none (fun a1 => Dr (some a1) (fun a2 => ∀ w1 : World, Fr S w w [] ([⟨l0, #[.pointer none, .pointer none], 151, true⟩]) w1 → Dr (some (Addr.add a2 4)) (fun a3 => ∃ q0 : Option Nat, (World.cell? w1 a3 : Option Value) = some (.map q0) ∧ rn Proofs.Tryz.prog (Instr.lookup 97 (.map q0) (.int .i64 m0) true) (fun v0 w2 => ∃ q1 : Option Addr, ∃ q2 : Option Addr, ∃ b0 : Bool, v0 = .tuple (#[.agg (#[.pointer q1, .pointer q2]), .bool b0]) ∧ (b0 = true → Fs S w ([⟨l0, #[.pointer none, .pointer none], 151, true⟩]) w2 ∧ ∀ l1 : Nat, w2.heap.size ≤ l1 → ∀ w3 : World, Fr S w w2 [l0, l1] [] w3 → K (.tuple (#[.agg (#[.pointer q1, .pointer q2]), .nilIface])) w3) ∧ (b0 = false → Fs S w ([⟨l0, #[.pointer none, .pointer none], 151, true⟩]) w2 ∧ ∀ l2 : Nat, w2.heap.size ≤ l2 → ∀ w4 : World, Fr S w w2 [l0, l2] [] w4 → K (.tuple (#[.agg (#[.pointer none, .pointer none]), .iface 93 (.int .i64 13)])) w4)) w1)))) : CallV Go.Proofs.Tryz.prog 79 ⟨[.pointer none, .int .i64 m0]⟩ w K :=
  call_of_vc3 (okf := ⟨okL, []⟩) okL_ok (args := [.c (.v (.pointer none)), .c (.v (.int .i64 m0))]) (H := []) (.s (.r ⟨(some []), false, [], []⟩) (.s (.s .z (.c (.s (.r ⟨(some [4]), false, [], []⟩) .z) .z)) (.s (.r ⟨(some [4]), false, [], []⟩) (.s (.s .z (.c (.s (.r ⟨(some [4]), false, [], []⟩) .z) .z)) (.s (.r ⟨(some [4, 6]), false, [], []⟩) .z))))) Go.Proofs.Tryz.func79 rfl ⟨trivial, trivial, trivial⟩ trivial (Fr.init S w) trivial (cast_vc (by kernel_rfl) h)


/-- (*lading/pub.Pub).Kept -/
theorem pub_Kept (k0 : Nat) (p1 : Option Addr) (m2 : Int) (m3 : Int) (m4 : Int) (g5 : Option Nat) (S : Nat → Prop) (K : Value → World → Prop) (w : World) (hF : Fs S w [⟨k0, #[.pointer p1, .int .i64 m2, .int .i64 m3, .int .i64 m4, .map g5], 99, true⟩] w) (hS : S k0 ∧ True) (h : CallV Proofs.Tryz.prog 78 (#[.map g5]) w (fun v0 w0 => ∃ v1 : Value, v0 = v1 ∧ Fs S w ([⟨k0, #[.pointer p1, .int .i64 m2, .int .i64 m3, .int .i64 m4, .map g5], 99, true⟩]) w0 ∧ CallV Proofs.Tryz.prog 77 #[v1] w0 (fun v2 w1 => ∃ q0 : Option Addr, ∃ l0 : Nat, ∃ l1 : Nat, v2 = .slice q0 l0 l1 ∧ Fs S w ([⟨k0, #[.pointer p1, .int .i64 m2, .int .i64 m3, .int .i64 m4, .map g5], 99, true⟩]) w1 ∧ K (.slice q0 l0 l1) w1))) : CallV Go.Proofs.Tryz.prog 36 ⟨[.pointer (some ⟨k0, 0, none⟩)]⟩ w K :=
  call_of_vc3 (okf := ⟨okL, []⟩) okL_ok (args := [.c (.p 0 k0 true 0)]) (H := [⟨k0, .l [.v (.pointer p1), .v (.int .i64 m2), .v (.int .i64 m3), .v (.int .i64 m4), .v (.map g5)], 99, true⟩]) (.s .z (.s .z (.s (.r ⟨(some [0]), false, [], []⟩) .z))) Go.Proofs.Tryz.func36 rfl ⟨rfl, trivial⟩ ⟨⟨trivial, ⟨trivial, ⟨trivial, ⟨trivial, ⟨trivial, trivial⟩⟩⟩⟩⟩, trivial⟩ hF hS (cast_vc (by kernel_rfl) h)


/-- lading/ladinglaw22.PubFull -/
theorem ladinglaw22_PubFull (y0 : Option Addr) (ly0 : Nat) (cy0 : Nat) (m1 : Int) (S : Nat → Prop) (K : Value → World → Prop) (w : World) (h : CallV Proofs.Tryz.prog 34 #[] w (fun v0 w0 => ∃ b0 : Bool, v0 = .bool b0 ∧ (b0 = true → Fs S w [] w0 ∧ (((ly0 : Nat) : Int) > 30 → K (.bool true) w0) ∧ (¬ (((ly0 : Nat) : Int) > 30) → CallV Proofs.Tryz.prog 10 (#[.int .i64 0]) w0 (fun v1 w1 => ∃ q0 : Option Addr, v1 = .pointer q0 ∧ Fs S w [] w1 ∧ CallV Proofs.Tryz.prog 9 (#[.pointer q0, .int .i64 m1]) w1 (fun v2 w2 => ∃ q1 : Option Addr, ∃ v3 : Value, v2 = .tuple (#[.pointer q1, v3]) ∧ Fs S w [] w2 ∧ (m1 < 1 → (q1 = none → CallV Proofs.Tryz.prog 14 #[v3] w2 (fun v4 w3 => ∃ n0 : Int, v4 = .int .i64 n0 ∧ Fs S w [] w3 ∧ (n0 = 1 → K (.bool true) w3) ∧ (¬ (n0 = 1) → K (.bool false) w3))) ∧ ∀ a0 : Addr, q1 = some a0 → K (.bool false) w2) ∧ (¬ (m1 < 1) → (m1 > 4096 → (q1 = none → CallV Proofs.Tryz.prog 14 #[v3] w2 (fun v5 w4 => ∃ n1 : Int, v5 = .int .i64 n1 ∧ Fs S w [] w4 ∧ (n1 = 1 → K (.bool true) w4) ∧ (¬ (n1 = 1) → K (.bool false) w4))) ∧ ∀ a1 : Addr, q1 = some a1 → K (.bool false) w2) ∧ (¬ (m1 > 4096) → ((v3 : Value) = .nilIface → CallV Proofs.Tryz.prog 35 (#[.pointer q1]) w2 (fun v6 w5 => ∃ n2 : Int, v6 = .int .i64 n2 ∧ Fs S w [] w5 ∧ (n2 = 200000 → ∃ I0 : Int → Int → Nat → World → Prop, (∃ l0 : Nat, I0 0 0 l0 w5) ∧ ∀ n3 : Int, ∀ n4 : Int, ∀ D0 : Nat → Value, ∀ l1 : Nat, ∀ w6 : World, I0 n3 n4 l1 w6 → Fs S w [] w6 → (n4 < ((ly0 : Nat) : Int) → Dr y0 (fun a2 => (0 : Int) ≤ n4 ∧ n4 < ((ly0 : Nat) : Int) ∧ Dr (some (Addr.add a2 ((Int.toNat n4 * 1)))) (fun a3 => ∃ n5 : Int, (World.cell? w6 a3 : Option Value) = some (.int .u16 n5) ∧ ∃ I1 : (Option Addr) → Nat → Nat → Int → Nat → World → Prop, (∃ l2 : Nat, I1 none 0 0 0 l2 w6) ∧ ∀ q2 : Option Addr, ∀ l3 : Nat, ∀ l4 : Nat, ∀ n6 : Int, ∀ D1 : Nat → Value, ∀ l5 : Nat, ∀ w7 : World, I1 q2 l3 l4 n6 l5 w7 → Fs S w [] w7 → (n6 < Int.tmod (IntKind.wrap .i64 n5) 4000 → ∀ l6 : Nat, w7.heap.size ≤ l6 → ∀ w8 : World, Fr S w w7 [] ([⟨l6, #[.int .i64 (Int.tmod n6 500), .int .i64 (Int.tmod (IntKind.wrap .i64 ((IntKind.wrap .i64 ((n6 * 7)) + n4))) 500)], 78, true⟩]) w8 → rn Proofs.Tryz.prog (Builtin.append_ (#[38, 38]) 38 (#[.slice q2 l3 l4, .slice (some (⟨l6, 0, none⟩)) 1 1])) (fun v7 w9 => ∃ q3 : Option Addr, ∃ l7 : Nat, ∃ l8 : Nat, v7 = .slice q3 l7 l8 ∧ Fs S w ([⟨l6, #[.int .i64 (Int.tmod n6 500), .int .i64 (Int.tmod (IntKind.wrap .i64 ((IntKind.wrap .i64 ((n6 * 7)) + n4))) 500)], 78, true⟩]) w9 ∧ ∃ l9 : Nat, l9 < l5 ∧ I1 q3 l7 l8 (IntKind.wrap .i64 ((n6 + 1))) l9 w9) w8) ∧ (¬ (n6 < Int.tmod (IntKind.wrap .i64 n5) 4000) → CallV Proofs.Tryz.prog 35 (#[.pointer q1]) w7 (fun v8 w10 => ∃ n7 : Int, v8 = .int .i64 n7 ∧ Fs S w [] w10 ∧ CallV Proofs.Tryz.prog 36 (#[.pointer q1]) w10 (fun v9 w11 => ∃ q4 : Option Addr, ∃ l10 : Nat, ∃ l11 : Nat, v9 = .slice q4 l10 l11 ∧ Fs S w [] w11 ∧ CallV Proofs.Tryz.prog 13 (#[.pointer q1, .int .i64 500, .slice q2 l3 l4]) w11 (fun v10 w12 => ∃ n8 : Int, ∃ v11 : Value, v10 = .tuple (#[.int .i64 n8, v11]) ∧ Fs S w [] w12 ∧ CallV Proofs.Tryz.prog 14 #[v11] w12 (fun v12 w13 => ∃ n9 : Int, v12 = .int .i64 n9 ∧ Fs S w [] w13 ∧ (n9 = 0 → (n8 = IntKind.wrap .i64 ((n3 + 1)) → CallV Proofs.Tryz.prog 35 (#[.pointer q1]) w13 (fun v13 w14 => ∃ n10 : Int, v13 = .int .i64 n10 ∧ Fs S w [] w14 ∧ (n10 ≥ n7 → K (.bool false) w14) ∧ (¬ (n10 ≥ n7) → CallV Proofs.Tryz.prog 35 (#[.pointer q1]) w14 (fun v14 w15 => ∃ n11 : Int, v14 = .int .i64 n11 ∧ Fs S w [] w15 ∧ (n11 < 0 → K (.bool false) w15) ∧ (¬ (n11 < 0) → ∃ l12 : Nat, l12 < l1 ∧ I0 (IntKind.wrap .i64 ((n3 + 1))) (IntKind.wrap .i64 ((n4 + 1))) l12 w15))))) ∧ (¬ (n8 = IntKind.wrap .i64 ((n3 + 1))) → K (.bool false) w13)) ∧ (¬ (n9 = 0) → (n9 = 7 → (n8 = 0 → CallV Proofs.Tryz.prog 35 (#[.pointer q1]) w13 (fun v15 w16 => ∃ n12 : Int, v15 = .int .i64 n12 ∧ Fs S w [] w16 ∧ (n12 = n7 → CallV Proofs.Tryz.prog 36 (#[.pointer q1]) w16 (fun v16 w17 => ∃ q5 : Option Addr, ∃ l13 : Nat, ∃ l14 : Nat, v16 = .slice q5 l13 l14 ∧ Fs S w [] w17 ∧ (((l13 : Nat) : Int) = ((l10 : Nat) : Int) → CallV Proofs.Tryz.prog 23 (#[.pointer q1]) w17 (fun v17 w18 => ∃ n13 : Int, v17 = .int .i64 n13 ∧ Fs S w [] w18 ∧ (n13 = n3 → ∃ l15 : Nat, l15 < l1 ∧ I0 n3 (IntKind.wrap .i64 ((n4 + 1))) l15 w18) ∧ (¬ (n13 = n3) → K (.bool false) w18))) ∧ (¬ (((l13 : Nat) : Int) = ((l10 : Nat) : Int)) → K (.bool false) w17))) ∧ (¬ (n12 = n7) → K (.bool false) w16))) ∧ (¬ (n8 = 0) → K (.bool false) w13)) ∧ (¬ (n9 = 7) → (n9 = 6 → (n8 = 0 → CallV Proofs.Tryz.prog 35 (#[.pointer q1]) w13 (fun v18 w19 => ∃ n14 : Int, v18 = .int .i64 n14 ∧ Fs S w [] w19 ∧ (n14 = n7 → CallV Proofs.Tryz.prog 36 (#[.pointer q1]) w19 (fun v19 w20 => ∃ q6 : Option Addr, ∃ l16 : Nat, ∃ l17 : Nat, v19 = .slice q6 l16 l17 ∧ Fs S w [] w20 ∧ (((l16 : Nat) : Int) = ((l10 : Nat) : Int) → CallV Proofs.Tryz.prog 23 (#[.pointer q1]) w20 (fun v20 w21 => ∃ n15 : Int, v20 = .int .i64 n15 ∧ Fs S w [] w21 ∧ (n15 = n3 → ∃ l18 : Nat, l18 < l1 ∧ I0 n3 (IntKind.wrap .i64 ((n4 + 1))) l18 w21) ∧ (¬ (n15 = n3) → K (.bool false) w21))) ∧ (¬ (((l16 : Nat) : Int) = ((l10 : Nat) : Int)) → K (.bool false) w20))) ∧ (¬ (n14 = n7) → K (.bool false) w19))) ∧ (¬ (n8 = 0) → K (.bool false) w13)) ∧ (¬ (n9 = 6) → K (.bool false) w13))))))))))) ∧ (¬ (n4 < ((ly0 : Nat) : Int)) → CallV Proofs.Tryz.prog 13 (#[.pointer none, .int .i64 1, .slice none 0 0]) w6 (fun v21 w22 => ∃ n16 : Int, ∃ v22 : Value, v21 = .tuple (#[.int .i64 n16, v22]) ∧ Fs S w [] w22 ∧ CallV Proofs.Tryz.prog 37 (#[.pointer none, .int .i64 1]) w22 (fun v23 w23 => ∃ n17 : Int, ∃ n18 : Int, ∃ n19 : Int, ∃ q7 : Option Addr, ∃ l19 : Nat, ∃ l20 : Nat, ∃ n20 : Int, ∃ s0 : ByteArray, ∃ v24 : Value, v23 = .tuple (#[.agg (#[.int .i64 n17, .int .i64 n18, .int .i64 n19, .slice q7 l19 l20, .int .i64 n20, .string s0]), v24]) ∧ Fs S w [] w23 ∧ ∀ l21 : Nat, w23.heap.size ≤ l21 → ∀ w24 : World, Fr S w w23 [l21] [] w24 → CallV Proofs.Tryz.prog 38 (#[.pointer none, .int .i64 1, .int .i64 0]) w24 (fun v25 w25 => ∃ n21 : Int, ∃ n22 : Int, ∃ n23 : Int, ∃ s1 : ByteArray, ∃ q8 : Option Addr, ∃ l22 : Nat, ∃ l23 : Nat, ∃ v26 : Value, v25 = .tuple (#[.agg (#[.int .i64 n21, .int .i64 n22, .int .i64 n23, .string s1, .slice q8 l22 l23]), v26]) ∧ Fs S w [] w25 ∧ ∀ l24 : Nat, w25.heap.size ≤ l24 → ∀ w26 : World, Fr S w w25 [l24] [] w26 → CallV Proofs.Tryz.prog 39 (#[.pointer none, .int .i64 1]) w26 (fun v27 w27 => ∃ n24 : Int, ∃ n25 : Int, ∃ n26 : Int, ∃ s2 : ByteArray, ∃ q9 : Option Addr, ∃ l25 : Nat, ∃ l26 : Nat, ∃ v28 : Value, v27 = .tuple (#[.agg (#[.int .i64 n24, .int .i64 n25, .int .i64 n26, .string s2, .slice q9 l25 l26]), v28]) ∧ Fs S w [] w27 ∧ ∀ l27 : Nat, w27.heap.size ≤ l27 → ∀ w28 : World, Fr S w w27 [l27] [] w28 → CallV Proofs.Tryz.prog 40 (#[.pointer none, .int .i64 1]) w28 (fun v29 w29 => ∃ q10 : Option Addr, ∃ v30 : Value, v29 = .tuple (#[.pointer q10, v30]) ∧ Fs S w [] w29 ∧ (q10 = none → CallV Proofs.Tryz.prog 14 #[v22] w29 (fun v31 w30 => ∃ n27 : Int, v31 = .int .i64 n27 ∧ Fs S w [] w30 ∧ (n27 = 1 → CallV Proofs.Tryz.prog 14 #[v24] w30 (fun v32 w31 => ∃ n28 : Int, v32 = .int .i64 n28 ∧ Fs S w [] w31 ∧ (n28 = 1 → CallV Proofs.Tryz.prog 14 #[v26] w31 (fun v33 w32 => ∃ n29 : Int, v33 = .int .i64 n29 ∧ Fs S w [] w32 ∧ (n29 = 1 → CallV Proofs.Tryz.prog 14 #[v28] w32 (fun v34 w33 => ∃ n30 : Int, v34 = .int .i64 n30 ∧ Fs S w [] w33 ∧ (n30 = 1 → CallV Proofs.Tryz.prog 14 #[v30] w33 (fun v35 w34 => ∃ n31 : Int, v35 = .int .i64 n31 ∧ Fs S w [] w34 ∧ (n31 = 1 → CallV Proofs.Tryz.prog 41 (#[.pointer none, .int .i64 1]) w34 (fun v36 w35 => ∃ v37 : Value, v36 = v37 ∧ Fs S w [] w35 ∧ CallV Proofs.Tryz.prog 14 #[v37] w35 (fun v38 w36 => ∃ n32 : Int, v38 = .int .i64 n32 ∧ Fs S w [] w36 ∧ (n32 = 1 → CallV Proofs.Tryz.prog 23 (#[.pointer none]) w36 (fun v39 w37 => ∃ n33 : Int, v39 = .int .i64 n33 ∧ Fs S w [] w37 ∧ CallV Proofs.Tryz.prog 24 (#[.pointer none]) w37 (fun v40 w38 => ∃ n34 : Int, v40 = .int .i64 n34 ∧ Fs S w [] w38 ∧ CallV Proofs.Tryz.prog 35 (#[.pointer none]) w38 (fun v41 w39 => ∃ n35 : Int, v41 = .int .i64 n35 ∧ Fs S w [] w39 ∧ CallV Proofs.Tryz.prog 36 (#[.pointer none]) w39 (fun v42 w40 => ∃ q11 : Option Addr, ∃ l28 : Nat, ∃ l29 : Nat, v42 = .slice q11 l28 l29 ∧ Fs S w [] w40 ∧ (IntKind.wrap .i64 ((IntKind.wrap .i64 ((IntKind.wrap .i64 ((n33 + n34)) + n35)) + (((l28 : Nat) : Int)))) = 0 → K (.bool true) w40) ∧ (¬ (IntKind.wrap .i64 ((IntKind.wrap .i64 ((IntKind.wrap .i64 ((n33 + n34)) + n35)) + (((l28 : Nat) : Int)))) = 0) → K (.bool false) w40)))))) ∧ (¬ (n32 = 1) → K (.bool false) w36)))) ∧ (¬ (n31 = 1) → K (.bool false) w34))) ∧ (¬ (n30 = 1) → K (.bool false) w33))) ∧ (¬ (n29 = 1) → K (.bool false) w32))) ∧ (¬ (n28 = 1) → K (.bool false) w31))) ∧ (¬ (n27 = 1) → K (.bool false) w30))) ∧ ∀ a4 : Addr, q10 = some a4 → K (.bool false) w29))))))) ∧ (¬ (n2 = 200000) → K (.bool false) w5))) ∧ (∀ x0 : Nat, ∀ v43 : Value, (v3 : Value) = .iface x0 v43 → K (.bool false) w2) ∧ ((v3 : Value) = .nilIface ∨ ∃ l30 : Nat, ∃ v44 : Value, (v3 : Value) = .iface l30 v44))))))) ∧ (b0 = false → Fs S w [] w0 ∧ K (.bool false) w0))) : CallV Go.Proofs.Tryz.prog 5 ⟨[.slice y0 ly0 cy0, .int .i64 m1]⟩ w K :=
  call_of_vc3 (okf := ⟨okL, []⟩) okL_ok (args := [.c (.v (.slice y0 ly0 cy0)), .c (.v (.int .i64 m1))]) (H := []) (.s .z (.s (.s (.r ⟨(some []), false, [], []⟩) .z) (.s .z (.s (.r ⟨(some []), false, [], []⟩) (.s (.s .z (.c (.s (.r ⟨(some []), false, [], []⟩) .z) .z)) (.s (.s (.r ⟨(some []), false, [], []⟩) .z) (.s .z (.s (.s .z (.b (.l (some []) (some []) [(7, .c (.int .i64)), (61, .c (.int .i64))] [] (.s .z (.s .z (.s (.b (.s .z (.s .z (.s (.s .z (.b (.l (some []) (some []) [(10, .c (.sl)), (11, .c (.int .i64))] [] (.s .z (.s (.b (.r ⟨(some []), false, [], []⟩)) .z))))) (.s (.r ⟨(some []), false, [], []⟩) (.s (.r ⟨(some []), false, [], [(2, [999])]⟩) (.s (.r ⟨(some []), false, [], []⟩) (.b (.s .z (.c (.s .z (.s (.r ⟨(some []), false, [], []⟩) .z)) (.s .z (.c (.s (.r ⟨(some []), false, [], []⟩) .z) .z)))))))))))) .z)))))) (.s .z (.s (.r ⟨(some []), false, [], [(1, [999])]⟩) (.s (.r ⟨(some []), false, [], []⟩) (.s (.r ⟨(some []), false, [], []⟩) (.s (.r ⟨(some []), false, [], []⟩) (.s .z (.s (.r ⟨(some []), false, [], []⟩) (.s .z (.s (.r ⟨(some []), false, [], [(34, [999])]⟩) .z))))))))))))))))) Go.Proofs.Tryz.func5 rfl ⟨trivial, trivial, trivial⟩ trivial (Fr.init S w) trivial (cast_vc (by kernel_rfl) h)


end Go.Vc

/-! A part of the proof that two events of one line are one event: the calculus that follows known memory by computing, and its soundness. By an AI agent. -/




namespace Go.Vc
open Go Go.MapKept
/-! ## a publisher that isn't there; how many are kept; the law of room -/
theorem ErrT.grow {w w' : World} (h : ErrT w) (g : Grow w w') : ErrT w' := by
  unfold ErrT at h ⊢
  unfold World.cell? at h ⊢
  cases hb : w.heap[0]? with
  | none => simp [hb] at h
  | some o =>
    have := Grow.get g hb
    simp only [this]
    simp only [hb] at h
    exact h
theorem Code1 {w : World} {K : Value → World → Prop} (h : ErrT w) (hK : ∀ w', Grow w w' → K (.int .i64 1) w') : CallV PR F.api_Code #[.iface T.api_Errno (.int .i64 1)] w K := Code_errno_spec h (by decide) (by decide) hK
theorem CodeC {w : World} {c : Int} {v : Value} {K : Value → World → Prop} (h : ErrT w) (hv : isEC c v) (hc : 0 ≤ c ∧ c ≤ 100) (hK : ∀ w', Grow w w' → K (.int .i64 c) w') : CallV PR F.api_Code #[v] w K := by
  rcases hv with rfl | ⟨a, rfl⟩
  · exact Code_errno_spec h (by omega) (by omega) hK
  · exact Code_fault_spec h hK
abbrev E1 : Value := .iface T.api_Errno (.int .i64 1)
theorem ofN {n : Int} {w : World} {K : Value → World → Prop} (hK : ∀ w', Grow w w' → K (.tuple #[.agg #[.pointer none, .pointer none], E1]) w') : CallV PR F.p_pub_Pub_of ⟨[.pointer none, .int .i64 n]⟩ w K :=
  pub_of_nil n S0 K w fun l0 hl0 => ⟨fun _ w0 hF0 => hK w0 hF0.gr, fun a h => by cases h⟩
theorem PublishN {n : Int} {y : Option Addr} {l c : Nat} {w : World} {K : Value → World → Prop} (hK : K (.tuple #[.int .i64 0, E1]) w) : CallV PR F.p_pub_Pub_Publish ⟨[.pointer none, .int .i64 n, .slice y l c]⟩ w K :=
  pub_Publish_nil n y l c S0 K w ⟨fun _ => hK, fun a h => by cases h⟩
theorem ManifestN {n : Int} {w : World} {K : Value → World → Prop} (hK : ∀ w', Grow w w' → K (.tuple #[.agg #[.int .i64 0, .int .i64 0, .int .i64 0, .slice none 0 0, .int .i64 0, .string ⟨#[]⟩], E1]) w') : CallV PR F.p_pub_Pub_Manifest ⟨[.pointer none, .int .i64 n]⟩ w K :=
  pub_Manifest_nil n S0 K w fun l0 hl0 w0 hF0 => ofN fun w1 g1 => ⟨_, _, _, rfl, hF0.reset.after g1, fun l1 hl1 => ⟨(fun h => by cases h), fun t x h w2 hF2 => hK w2 hF2.gr, .inr ⟨_, _, rfl⟩⟩⟩
theorem BlockN {n i : Int} {w : World} {K : Value → World → Prop} (hK : ∀ w', Grow w w' → K (.tuple #[.agg #[.int .i64 0, .int .i64 0, .int .i64 0, .string ⟨#[]⟩, .slice none 0 0], E1]) w') : CallV PR F.p_pub_Pub_Block ⟨[.pointer none, .int .i64 n, .int .i64 i]⟩ w K :=
  pub_Block_nil n i S0 K w fun l0 hl0 w0 hF0 => ofN fun w1 g1 => ⟨_, _, _, rfl, hF0.reset.after g1, fun l1 hl1 => ⟨(fun h => by cases h), fun t x h w2 hF2 => hK w2 hF2.gr, .inr ⟨_, _, rfl⟩⟩⟩
theorem OfferN {n : Int} {w : World} {K : Value → World → Prop} (hK : ∀ w', Grow w w' → K (.tuple #[.agg #[.int .i64 0, .int .i64 0, .int .i64 0, .string ⟨#[]⟩, .slice none 0 0], E1]) w') : CallV PR F.p_pub_Pub_Offer ⟨[.pointer none, .int .i64 n]⟩ w K :=
  pub_Offer_nil n S0 K w fun l0 hl0 w0 hF0 => ofN fun w1 g1 => ⟨_, _, _, rfl, hF0.reset.after g1, fun l1 hl1 => ⟨(fun h => by cases h), fun t x h w2 hF2 => hK w2 hF2.gr, .inr ⟨_, _, rfl⟩⟩⟩
theorem GraphN {n : Int} {w : World} {K : Value → World → Prop} (hK : ∀ w', Grow w w' → K (.tuple #[.pointer none, E1]) w') : CallV PR F.p_pub_Pub_Graph ⟨[.pointer none, .int .i64 n]⟩ w K :=
  pub_Graph_nil n S0 K w (ofN fun w1 g1 => ⟨_, _, _, rfl, (Fr.init _ w).after g1, fun l0 hl0 => ⟨(fun h => by cases h), fun t x h w2 hF2 => hK w2 hF2.gr, .inr ⟨_, _, rfl⟩⟩⟩)
theorem CommitN {n : Int} {w : World} {K : Value → World → Prop} (hK : K E1 w) : CallV PR F.p_pub_Pub_Commit ⟨[.pointer none, .int .i64 n]⟩ w K := pub_Commit_nil n S0 K w ⟨fun _ => hK, fun a h => by cases h⟩
theorem LastN {w : World} {K : Value → World → Prop} (hK : K (.int .i64 0) w) : CallV PR F.p_pub_Pub_Last ⟨[.pointer none]⟩ w K := pub_Last_nil S0 K w ⟨fun _ => hK, fun a h => by cases h⟩
theorem CommittedN {w : World} {K : Value → World → Prop} (hK : K (.int .i64 0) w) : CallV PR F.p_pub_Pub_Committed ⟨[.pointer none]⟩ w K := pub_Committed_nil S0 K w ⟨fun _ => hK, fun a h => by cases h⟩
theorem RoomN {w : World} {K : Value → World → Prop} (hK : K (.int .i64 0) w) : CallV PR F.p_pub_Pub_Room ⟨[.pointer none]⟩ w K := pub_Room_nil S0 K w ⟨fun _ => hK, fun a h => by cases h⟩
theorem KeptN {w : World} {K : Value → World → Prop} (hK : K (.slice none 0 0) w) : CallV PR F.p_pub_Pub_Kept ⟨[.pointer none]⟩ w K := pub_Kept_nil S0 K w ⟨fun _ => hK, fun a h => by cases h⟩
theorem Kept_spec {N : Nat} {w : World} {x : PubS} (h : PubAt N w x) {es : Array MapEntry} {clock : Nat} (hm : w.heap[x.m]? = some (.map es clock)) (hst : Stamped es clock) (hk : ∀ y ∈ es.toList, ∃ l, keyOf PR T.int y.key = some l) (hsz : es.size ≤ 1000000) {K : Value → World → Prop}
    (hK : ∀ w' q c, Grow w w' → K (.slice q es.size c) w') : CallV PR F.p_pub_Pub_Kept ⟨[.pointer (some ⟨x.p, 0, none⟩)]⟩ w K := by
  have hF : Fs (· = x.p) w [⟨x.p, pubC x.bj x.each x.last x.com x.m, T.pub_Pub, true⟩] w := (Fr.init _ w).entry h.blk (fun x h => by cases h) fun _ => rfl
  refine pub_Kept x.p (some ⟨x.bj, 0, none⟩) x.each x.last x.com (some x.m) (· = x.p) K w hF ⟨rfl, trivial⟩ ?_
  refine Keys_spec fun w1 b g1 hb hc => ⟨_, rfl, hF.after g1, ?_⟩
  refine Sorted_spec hc hb (Grow.get g1 hm) hst hk hsz fun w2 q c g2 => ⟨_, _, _, rfl, (hF.after g1).after g2, hK w2 q c (g1.trans g2)⟩
theorem OpenE_spec {p : Option Addr} {each : Int} (h : each < 1 ∨ 4096 < each) {w : World} {K : Value → World → Prop} (hK : K (.tuple #[.pointer none, E1]) w) : CallV PR F.pub_Open ⟨[.pointer p, .int .i64 each]⟩ w K :=
  pub_Open' p each S0 K w ⟨fun _ => hK, fun h1 => ⟨fun _ => hK, fun h2 => by omega⟩⟩
end Go.Vc
