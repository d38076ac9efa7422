/-
  A part of the proof of the statement PubNumbersSaid, in Lean: Mm2, Rp, Pb1, Pb2, Pb3, La1, Rw1, RwC, MirP15, Rd1, Rd2, Fx1, Fx0, Fx3, Op1. By an AI agent.
-/
import Derived.Test.YtjfpofjppjaofaaGreatP10
import Derived.Test.YtjfpofjppjaofaaGreatP09
import Derived.Test.YtjfpofjppjaofaaGreatP08
import Derived.OpenShut
import Derived.KernelRfl
import Derived.Deep.SlicePairs
import Derived.Deep.Grids
import Derived.ChangeArms
import Derived.WideShapes
import Derived.Test.YtjfpofjppjaofaaGreatRows
import Derived.WalkKit
import Derived.ProofKit
import Derived.Below
import Derived.ChangeSame
import Derived.Carry
import Derived.MakeChecks
import Derived.Stop.LaidErr
import Derived.Deep.DeepHandedRow
import Derived.Deep.DeepWitnessRowRef
import Derived.Lib.LaidTab
import Derived.Lib.LaidIn
import Derived.Test.YtjfpofjppjaofaaGreatP03
import Derived.Test.YtjfpofjppjaofaaGreatP07
set_option linter.unusedSimpArgs false
set_option linter.unusedVariables false
set_option maxRecDepth 1000000
/-! A part of the proof that two events of one line are one event: the calculus that follows known memory by computing, and its soundness. By an AI agent. -/

namespace Go.Vc
open Go
/-! ## a graph's version -/
def verC (m : Man) (q : Option Addr) (c : Nat) (list : List (List UInt8)) (ql : Option Addr) (cl : Nat) : Array Value :=
  #[.int .i64 m.version, .int .i64 m.nodes, .int .i64 m.edges, .slice q m.shards.length c, .int .i64 m.blocks, .string (str m.root), .slice ql list.length cl]
structure VerL (m : Man) (list : List (List UInt8)) : Prop where
  ok : m.ok
  blocks : m.blocks = list.length
  root : m.root = rootL Hs list
  small : ∀ x ∈ list, x.length ≤ 64
  cut : cutL list.flatten = list
/-- a version lies in block b -/
def VerAt (w : World) (b : Nat) (m : Man) (list : List (List UInt8)) : Prop :=
  ∃ q c ql cl, w.heap[b]? = some (.cells (verC m q c list ql cl) T.manifest_Version (0, 0)) ∧ Sl w q (encE m.shards) ∧ Sl w ql (list.map sv8') ∧ list.length ≤ cl
theorem VerAt.grow {w w' : World} {b : Nat} {m : Man} {list : List (List UInt8)} (h : VerAt w b m list) (g : Grow w w') : VerAt w' b m list := by
  obtain ⟨q, c, ql, cl, h1, h2, h3, h4⟩ := h
  exact ⟨q, c, ql, cl, Grow.get g h1, h2.grow g, h3.grow g, h4⟩
/-- elements that lie outside a region -/
def SlO (D : Nat → Prop) (w : World) (q : Option Addr) (xs : List Value) : Prop := xs = [] ∨ ∃ b o, q = some ⟨b, o, none⟩ ∧ RowAt w b o xs ∧ ¬ D b
theorem SlO.sl {D : Nat → Prop} {w : World} {q : Option Addr} {xs : List Value} (h : SlO D w q xs) : Sl w q xs := h.elim .inl fun ⟨b, o, h1, h2, _⟩ => .inr ⟨b, o, h1, h2⟩
theorem Sl.out {D : Nat → Prop} {w : World} {q : Option Addr} {xs : List Value} (h : Sl w q xs) (hD : Off D q) : SlO D w q xs := h.elim .inl fun ⟨b, o, h1, h2⟩ => .inr ⟨b, o, h1, h2, hD _ h1⟩
theorem SlO.keep {D D' S : Nat → Prop} {w w' : World} {q : Option Addr} {xs : List Value} (h : SlO D w q xs) (g : Chg S w w') (hS : ∀ k, k < w.heap.size → S k → D k) (hD : ∀ k, k < w.heap.size → D' k → D k) : SlO D' w' q xs := by
  rcases h with h | ⟨b, o, h1, h2, h3⟩
  · exact .inl h
  · exact .inr ⟨b, o, h1, h2.keep g (fun e => h3 (hS b h2.lt e)), fun e => h3 (hD b h2.lt e)⟩
/-- a version in block b, outside a region -/
def VerO (D : Nat → Prop) (w : World) (b : Nat) (m : Man) (list : List (List UInt8)) : Prop :=
  ∃ q c ql cl, w.heap[b]? = some (.cells (verC m q c list ql cl) T.manifest_Version (0, 0)) ∧ ¬ D b ∧ SlO D w q (encE m.shards) ∧ SlO D w ql (list.map sv8') ∧ list.length ≤ cl
theorem VerO.at {D : Nat → Prop} {w : World} {b : Nat} {m : Man} {list : List (List UInt8)} (h : VerO D w b m list) : VerAt w b m list := by
  obtain ⟨q, c, ql, cl, h1, _, h2, h3, h4⟩ := h
  exact ⟨q, c, ql, cl, h1, h2.sl, h3.sl, h4⟩
theorem VerO.keep {D D' S : Nat → Prop} {w w' : World} {b : Nat} {m : Man} {list : List (List UInt8)} (h : VerO D w b m list) (g : Chg S w w') (hS : ∀ k, k < w.heap.size → S k → D k) (hD : ∀ k, k < w.heap.size → D' k → D k) : VerO D' w' b m list := by
  obtain ⟨q, c, ql, cl, h1, h0, h2, h3, h4⟩ := h
  have hl := heap_lt h1
  exact ⟨q, c, ql, cl, g.get h1 (fun e => h0 (hS b hl e)), fun e => h0 (hD b hl e), h2.keep g hS hD, h3.keep g hS hD, h4⟩
theorem cutL_small (l : List UInt8) : ∀ x ∈ cutL l, x.length ≤ 64 := by
  intro x hx
  obtain ⟨i, _, rfl⟩ := List.mem_map.1 hx
  rw [List.length_take]; omega
/-- a graph that is sure to have room -/
def roomy (nodes : Int) (each : Nat) (l : List (Int × Int)) : Prop := goodG nodes l ∧ nodes ≤ 64 * each ∧ 1472 + 9 * nodes + 8 * l.length ≤ 131072
theorem Make_spec {version nodes : Int} {each : Nat} (he : 1 ≤ each) (he2 : each < 4096) {l : List (Int × Int)} {q : Option Addr} {n c : Nat} {w : World} (hs : Sl w q (encE l)) (hl : n = l.length) (hn : n ≤ 100000) {K : Value → World → Prop}
    (h1 : ∀ w' b m list, Grow w w' → w.heap.size ≤ b → VerO (fun j => j < w.heap.size) w' b m list → VerL m list → m.version = version → (list.flatten.length : Int) ≤ 1472 + 9 * nodes + 8 * l.length → goodG nodes l → K (.tuple #[.pointer (some ⟨b, 0, none⟩), .nilIface]) w')
    (h2 : ∀ w' v, Grow w w' → isErr v → ¬ (1 ≤ version ∧ version ≤ 1099511627776 ∧ roomy nodes each l) → K (.tuple #[.pointer none, v]) w') :
    CallV PR F.manifest_Make ⟨[.int .i64 version, .int .i64 nodes, .int .i64 each, .slice q n c]⟩ w K := by
  have hfr : ∀ {w' : World}, Grow w w' → Fs S0 w [] w' := fun g => (Fr.init _ w).after g
  refine manifest_Make' version nodes each q n c S0 K w ⟨fun h => h2 w _ (.refl _ _) ⟨_, _, rfl⟩ (fun hh => by omega), fun hv1 => ⟨fun h => h2 w _ (.refl _ _) ⟨_, _, rfl⟩ (fun hh => by omega), fun hv2 => ?_⟩⟩
  refine Build_spec hs hl hn (fun hg w1 b N g1 hN hc hL => ⟨_, _, rfl, hfr g1, fun _ => ?_, (fun t x h => by cases h), .inl rfl⟩) fun hg w1 v g1 hv => ⟨_, _, rfl, hfr g1, (fun h => by obtain ⟨t, x, rfl⟩ := hv; cases h), fun t x h => h2 w1 v g1 hv (fun hh => hg hh.2.2.1), .inr (by obtain ⟨t, x, h⟩ := hv; exact ⟨t, x, h⟩)⟩
  obtain ⟨nn, rfl⟩ := Int.eq_ofNat_of_zero_le hg.1
  have hnn := hg.2.1
  rw [Int.toNat_natCast] at hc hL
  have hNl := hN.len
  have hll := hg.2.2.1
  have hTl : (N.map (·.2)).length = N.length := List.length_map _
  refine Split_spec hc hL (by omega) he he2 (fun w2 q2 c2 k g2 hk1 hcov hk64 hs2 hkc => ⟨_, _, _, _, rfl, hfr (g1.trans g2), fun _ => ?_, (fun t x h => by cases h), .inl rfl⟩) fun w2 v g2 hv hbig => ⟨_, _, _, _, rfl, hfr (g1.trans g2), (fun h => by obtain ⟨t, x, rfl⟩ := hv; cases h), fun t x h => h2 w2 v (g1.trans g2) hv (fun hh => by have := hh.2.2.2.1; omega), .inr (by obtain ⟨t, x, h⟩ := hv; exact ⟨t, x, h⟩)⟩
  have htot := parts_total (k := k) hL (by omega) he hcov
  rw [hTl] at htot
  generalize hpd : partsL (begL nn N) (N.map (·.2)) each nn k = parts at hs2 htot
  have hpl : parts.length = k := by rw [← hpd, partsL_len]
  have g12 := g1.trans g2
  refine Cut_spec hs2 hpl.symm hkc (by omega) (by omega) fun w3 q3 c3 g3 ho3 hc3 hof3 => ⟨_, _, _, rfl, hfr (g12.trans g3), ?_⟩
  have g13 := g12.trans g3
  have hcl := cut_len parts.flatten
  refine ⟨fun h => h2 w3 _ g13 ⟨_, _, rfl⟩ (fun hh => ?_), fun hbl => ?_⟩
  · have := hh.2.2.2.2
    unfold countN at hcl
    omega
  · have hs2' : Sl w3 q2 ((partsL (begL nn N) (N.map (·.2)) each nn k).map sv8') := by rw [hpd]; exact hs2.grow g3
    refine Table_spec hL (by omega) he hk64 hcov hs2' fun w4 q4 c4 g4 ho4 hc4 hof4 => ⟨_, _, _, _, rfl, hfr (g13.trans g4), fun _ => ?_, (fun t x h => by cases h), .inl rfl⟩
    have g14 := g13.trans g4
    refine Edges_spec (hc.grow ((g2.trans g3).trans g4)) ⟨_, rfl, hfr g14, ?_⟩
    refine Root_spec (ho3.sl.grow g4) rfl (by omega) (fun x hx => by have := cutL_small _ x hx; omega) fun w5 g5 => ⟨_, rfl, hfr (g14.trans g5), fun b6 hb6 b7 hb7 w6 hF6 => ?_⟩
    have g15 := g14.trans g5
    have hT7 := hF6.blk 0 rfl
    have g56 : Chg (· = b6) w5 w6 := hF6.stp.mono fun i _ hi => by simpa using hi
    let m : Man := ⟨version, nn, N.length, tableL (begL nn N) (N.map (·.2)) each nn k, (cutL parts.flatten).length, rootL Hs (cutL parts.flatten)⟩
    have htl : m.shards.length = k := tableL_len _ _ _ _ _
    have hmok : m.ok := by
      have htab := table_ok hL (by omega) he (by rw [hTl]; omega) k 0 (fun i hi => hcov i (by omega))
      simp only [Nat.zero_add, if_true] at htab
      refine ⟨⟨by show 1 ≤ version; omega, by show version ≤ _; omega⟩, ⟨by show (0 : Int) ≤ nn; omega, hnn⟩, ⟨by show (0 : Int) ≤ N.length; omega, by show ((N.length : Nat) : Int) ≤ 20000; omega⟩, ⟨by omega, ?_⟩, htab, ⟨?_, by show (((cutL parts.flatten).length : Nat) : Int) ≤ 2048; omega⟩, rootL_len Hs_len _⟩
      · constructor
        · intro h
          have hk0 : k = 0 := by have := congrArg List.length h; rw [htl] at this; simpa using this
          subst hk0
          show (nn : Int) = 0
          omega
        · intro h
          have hk0 : k = 0 := by
            have h' : (nn : Int) = 0 := h
            rcases Nat.eq_zero_or_pos k with e | e
            · exact e
            · have := hcov 0 e; omega
          subst hk0
          rfl
      · show (((cutL parts.flatten).length : Nat) : Int) = countB ((tableL (begL nn N) (N.map (·.2)) each nn k).map (·.2)).sum
        rw [table_sum, hpd, countB_nat, hcl]
    have s5 := g5.size
    have s4 := g4.size
    have s13 := g13.size
    have s12 := g12.size
    have s15 := g15.size
    refine h1 w6 b7 m (cutL parts.flatten) (hF6.chg) (by omega) ⟨q4, c4, q3, c3, ?_, by omega, (?_ : Sl w6 q4 _).out (hof4.mono (by omega)), (?_ : Sl w6 q3 _).out (hof3.mono (by omega)), hc3⟩ ⟨hmok, rfl, rfl, cutL_small _, by rw [cut_join]⟩ rfl (by rw [cut_join]; omega) hg
    · rw [verC, htl]
      show w6.heap[b7]? = some (.cells #[.int .i64 version, .int .i64 nn, .int .i64 N.length, .slice q4 k c4, .int .i64 (cutL parts.flatten).length, .string (str (rootL Hs (cutL parts.flatten))), .slice q3 (cutL parts.flatten).length c3] T.manifest_Version (0, 0))
      simp only [hTl] at hT7
      exact hT7
    · exact (ho4.sl.grow g5).keep g56 fun a ha e => by have := ho4.lt a ha; have e' : a.block = b6 := e; omega
    · exact ((ho3.sl.grow g4).grow g5).keep g56 fun a ha e => by have := ho3.lt a ha; have e' : a.block = b6 := e; omega
end Go.Vc

/-! A part of the proof that two events of one line are one event: the calculus that follows known memory by computing, and its soundness. By an AI agent. -/

namespace Go.Vc
open Go
/-! ## records of what is published, in plain words -/
/-- the record of a version -/
def recV (mn : Man) (list : List (List UInt8)) : List UInt8 := [86] ++ putTextL [putMan mn] ++ list.flatten
def recC (n : Nat) : List UInt8 := [67] ++ putShort n
inductive RecO where
  | ver (mn : Man) (list : List (List UInt8))
  | com (n : Nat)
def RecO.bytes : RecO → List UInt8
  | .ver mn list => recV mn list
  | .com n => recC n
structure PSt where
  last : Nat
  com : Nat
  man : Nat → Man
def RecO.step (s : PSt) : RecO → PSt
  | .ver mn _ => ⟨s.last + 1, s.com, fun i => if i = s.last + 1 then mn else s.man i⟩
  | .com n => ⟨s.last, n, s.man⟩
def RecO.ok (s : PSt) : RecO → Prop
  | .ver mn list => VerL mn list ∧ mn.version = ((s.last + 1 : Nat) : Int)
  | .com n => s.com < n ∧ n ≤ s.last ∧ s.last < n + 3
def okR : PSt → List RecO → Prop
  | _, [] => True
  | s, r :: rs => r.ok s ∧ okR (r.step s) rs
def runR : PSt → List RecO → PSt
  | s, [] => s
  | s, r :: rs => runR (r.step s) rs
theorem okR_snoc (r : RecO) : ∀ (rs : List RecO) (s : PSt), okR s (rs ++ [r]) ↔ okR s rs ∧ r.ok (runR s rs)
  | [], s => by simp [okR, runR]
  | a :: rs, s => by
    have := okR_snoc r rs (a.step s)
    simp only [List.cons_append, okR, runR, this, and_assoc]
theorem runR_snoc (r : RecO) : ∀ (rs : List RecO) (s : PSt), runR s (rs ++ [r]) = r.step (runR s rs)
  | [], s => rfl
  | a :: rs, s => runR_snoc r rs (a.step s)
def PSt.zero : PSt := ⟨0, 0, fun _ => ⟨0, 0, 0, [], 0, []⟩⟩
/-- what records say -/
def Rep (recs : List (List UInt8)) (last com : Nat) (man : Nat → Man) : Prop :=
  (∀ s ∈ recs, s.length ≤ 60000) ∧ ∃ rs, recs = rs.map RecO.bytes ∧ okR .zero rs ∧ runR .zero rs = ⟨last, com, man⟩
theorem Rep.nil : Rep [] 0 0 (fun _ => ⟨0, 0, 0, [], 0, []⟩) := ⟨(fun s h => by cases h), [], rfl, trivial, rfl⟩
theorem Rep.snoc {recs : List (List UInt8)} {last com : Nat} {man : Nat → Man} (h : Rep recs last com man) (r : RecO) (hr : r.ok ⟨last, com, man⟩) (hl : r.bytes.length ≤ 60000) {s' : PSt} (hs : r.step ⟨last, com, man⟩ = s') : Rep (recs ++ [r.bytes]) s'.last s'.com s'.man := by
  obtain ⟨h0, rs, h1, h2, h3⟩ := h
  refine ⟨fun s hs => ?_, rs ++ [r], by rw [h1, List.map_append]; rfl, (okR_snoc r rs _).2 ⟨h2, by rw [h3]; exact hr⟩, by rw [runR_snoc, h3, hs]⟩
  rcases List.mem_append.1 hs with hs | hs
  · exact h0 s hs
  · rw [List.mem_singleton.1 hs]; exact hl
end Go.Vc

/-! A part of the proof that two events of one line are one event: the calculus that follows known memory by computing, and its soundness. By an AI agent. -/





namespace Go.Vc
open Go Go.MapKept
/-! ## what is published: the parts -/
theorem cellsNe {w : World} {a b : Nat} {cs ds : Array Value} {T U : TypeId} {f g : Nat × Nat} (h1 : w.heap[a]? = some (.cells cs T f)) (h2 : w.heap[b]? = some (.cells ds U g)) (h : T ≠ U) : a ≠ b := by
  rintro rfl
  rw [h1] at h2
  cases h2
  exact h rfl
theorem Own.ty {e : TypeId} {k : Nat} {w : World} {q : Option Addr} {c : Nat} {xs : List Value} (h : Own e k w q c xs) {a : Addr} (ha : q = some a) : ∃ cs, w.heap[a.block]? = some (.cells cs e (0, 0)) := by
  rcases h with ⟨h, _⟩ | ⟨b, o, cs, h, hb, _⟩
  · rw [h] at ha; cases ha
  · rw [h] at ha; cases ha; exact ⟨cs, hb⟩
theorem JrnAt.lt {w : World} {bj bd : Nat} {q : Option Addr} {c : Nat} {recs : List (List UInt8)} (h : JrnAt w bj bd q c recs) : ∀ k, jrnS bj bd q k → k < w.heap.size := by
  rintro k (rfl | rfl | ⟨a, ha, rfl⟩)
  · exact heap_lt h.blk
  · obtain ⟨_, _, _, _, _, hh⟩ := h.dsk; exact heap_lt hh
  · exact h.own.lt a ha
theorem JrnAt.pub {w : World} {bj bd p : Nat} {q : Option Addr} {c : Nat} {recs : List (List UInt8)} {cs : Array Value} {f : Nat × Nat} (h : JrnAt w bj bd q c recs) (hp : w.heap[p]? = some (.cells cs T.pub_Pub f)) : ¬ jrnS bj bd q p := by
  rintro (rfl | rfl | ⟨a, ha, rfl⟩)
  · exact cellsNe hp h.blk (by decide) rfl
  · obtain ⟨_, _, _, _, _, hh⟩ := h.dsk; exact cellsNe hp hh (by decide) rfl
  · obtain ⟨cs, hh⟩ := h.own.ty ha
    exact cellsNe hp hh (by decide) rfl
theorem JrnAt.mapb {w : World} {bj bd m : Nat} {q : Option Addr} {c : Nat} {recs : List (List UInt8)} {k : TypeId} {n : Nat} {R : Value → Value → Prop} (h : JrnAt w bj bd q c recs) (hm : MapP w k m n R) : ¬ jrnS bj bd q m := by
  rintro (rfl | rfl | ⟨a, ha, rfl⟩)
  · exact mapNe h.blk hm rfl
  · obtain ⟨_, _, _, _, _, hh⟩ := h.dsk; exact mapNe hh hm rfl
  · obtain ⟨cs, hh⟩ := h.own.ty ha
    exact mapNe hh hm rfl
theorem Room_in {w : World} {p bj bd m : Nat} {each last com : Int} {q : Option Addr} {c : Nat} {recs : List (List UInt8)} (hb : w.heap[p]? = some (.cells (pubC bj each last com m) T.pub_Pub (0, 0))) (hj : JrnAt w bj bd q c recs) (hr : (logL recs).length ≤ 200000) {K : Value → World → Prop} (hK : K (.int .i64 (200000 - (logL recs).length : Nat)) w) : CallV PR F.p_pub_Pub_Room ⟨[.pointer (some ⟨p, 0, none⟩)]⟩ w K := by
  refine pub_Pub_Room p (some ⟨bj, 0, none⟩) each last com (some m) (· = p) K w ((Fr.init _ w).entry hb (fun x h => by cases h) fun _ => rfl) ⟨rfl, trivial⟩ ?_
  refine JBytes_spec hj ⟨_, rfl, (Fr.init _ w).entry hb (fun x h => by cases h) (fun _ => rfl), ?_⟩
  rw [w64 (by omega) (by omega)]
  have e : (200000 : Int) - ((logL recs).length : Nat) = ((200000 - (logL recs).length : Nat) : Int) := by omega
  rw [e]; exact hK
theorem write_spec {w : World} {p bj bd m : Nat} {each last com : Int} {q : Option Addr} {c : Nat} {recs : List (List UInt8)} {s : List UInt8} (hb : w.heap[p]? = some (.cells (pubC bj each last com m) T.pub_Pub (0, 0))) (hj : JrnAt w bj bd q c recs) (hr : (logL recs).length ≤ 200000) (hrl : recs.length ≤ 200000) (hs : s.length ≤ 1000000) {K : Value → World → Prop}
    (h1 : s.length ≤ 60000 → s.length + 6 + (logL recs).length ≤ 200000 → ∀ w' q' c', JrnAt w' bj bd q' c' (recs ++ [s]) → Chg (jrnS bj bd q) w w' → (∀ a, q' = some a → q = some a ∨ w.heap.size ≤ a.block) → K .nilIface w')
    (h2 : ¬ (s.length ≤ 60000 ∧ s.length + 6 + (logL recs).length ≤ 200000) → K (.iface T.api_Errno (.int .i64 7)) w) : CallV PR F.p_pub_Pub_write ⟨[.pointer (some ⟨p, 0, none⟩), .string (str s)]⟩ w K := by
  have hpj := hj.pub hb
  have hpl := heap_lt hb
  have h0 : Fs (fun k => k = p ∨ jrnS bj bd q k) w [⟨p, pubC bj each last com m, T.pub_Pub, true⟩] w := (Fr.init _ w).entry hb (fun x h => by cases h) fun _ => .inl rfl
  refine pub_Pub_write p (some ⟨bj, 0, none⟩) each last com (some m) (str s) (fun k => k = p ∨ jrnS bj bd q k) K w h0 ⟨.inl rfl, trivial⟩ ⟨fun h => h2 (fun hh => ?_), fun h => ?_⟩
  · rw [str_size] at h; omega
  · rw [str_size] at h
    refine Room_in hb hj hr ⟨_, rfl, h0, fun h' => h2 (fun hh => ?_), fun h' l0 hl0 w1 hF1 => ?_⟩
    · rw [str_size, w64 (by omega) (by omega)] at h'; omega
    · rw [str_size, w64 (by omega) (by omega)] at h'
      have g1 : Grow w w1 := hF1.grow
      have hjw := hj.grow g1
      have hjl := hj.lt
      refine JWrite_spec (s := s) (y := some ⟨l0, 0, none⟩) (cy := 1) hjw (.inr ⟨l0, 0, rfl, ?_⟩) (fun a ha e => by cases ha; have := hjl _ e; simp only [] at this; omega) (by omega) (by omega) (by omega) fun w2 q' c' hj2 g2 hq' => ?_
      · refine ⟨_, _, _, hF1.blk 1 rfl, fun i hi => ?_⟩
        have : i = 0 := by simpa using hi
        subst this; rfl
      · refine ⟨_, rfl, _, hF1.step g2 (fun x hx => ?_) (fun k _ e => .inr e), h1 (by omega) (by omega) w2 q' c' hj2 (g1.then g2) fun a ha => (hq' a ha).imp id fun h => Nat.le_trans g1.size h⟩
        rcases List.mem_cons.1 hx with rfl | hx
        · exact hpj
        · simp at hx; subst hx
          exact fun e => by have := hjl _ e; simp only [] at this; omega
theorem VerTree {D : Nat → Prop} {w : World} {b : Nat} {mn : Man} {list : List (List UInt8)} (hv : VerO D w b mn list) (hL : VerL mn list) {K : Value → World → Prop} (hK : ∀ w' c, Grow w w' → K (.pointer (some ⟨c, 0, none⟩)) w') : CallV PR F.p_manifest_Version_Tree ⟨[.pointer (some ⟨b, 0, none⟩)]⟩ w K := by
  obtain ⟨q, c, ql, cl, h1, h0, h2, h3, h4⟩ := hv
  have hf : Fs S0 w [⟨b, verC mn q c list ql cl, T.manifest_Version, false⟩] w := (Fr.init _ w).entry h1 (fun x h => by cases h) (fun h => by cases h)
  have hbl := hL.ok.blocks.2
  have hb2 := hL.blocks
  refine manifest_Version_Tree b mn.version mn.nodes mn.edges q mn.shards.length c mn.blocks (str mn.root) ql list.length cl S0 K w hf ?_
  refine Tree_new h3.sl rfl (by omega) (fun x hx => by have := hL.small x hx; omega) fun w1 t q' c' m R g1 _ _ _ _ _ => ⟨_, rfl, hf.after g1, hK w1 t g1⟩
theorem show_spec {w : World} {p bj m n b : Nat} {each last com : Int} {ver : Nat} {R : Value → Value → Prop} {mn : Man} {list : List (List UInt8)} (hb : w.heap[p]? = some (.cells (pubC bj each last com m) T.pub_Pub (0, 0))) (hm : MapP w T.int m n R) (hR : shownR R) (hv : VerO (fun k => k = p ∨ k = m) w b mn list) (hL : VerL mn list) (he : mn.version = ver) (hver : ver ≤ 1099511627776) {K : Value → World → Prop}
    (hK : ∀ w' c n', Chg (fun k => k = p ∨ k = m) w w' → w'.heap[p]? = some (.cells (pubC bj each ver com m) T.pub_Pub (0, 0)) → MapP w' T.int m n' (fun k v => updR R (.int .i64 (ver : Int)) (.agg #[.pointer (some ⟨b, 0, none⟩), .pointer (some ⟨c, 0, none⟩)]) k v ∧ ¬ delP ver com k) → K (.tuple #[]) w') :
    CallV PR F.p_pub_Pub_show ⟨[.pointer (some ⟨p, 0, none⟩), .pointer (some ⟨b, 0, none⟩)]⟩ w K := by
  have hpm := mapNe hb hm
  have hc : ∀ {w' : World}, VerO (fun k => k = p ∨ k = m) w' b mn list → w'.cell? ⟨b, 0, none⟩ = some (.int .i64 (ver : Int)) := by
    rintro w' ⟨q, c, ql, cl, h1, _⟩
    rw [cell_blk h1, ← he]; rfl
  refine pub_Pub_show p (some ⟨bj, 0, none⟩) each last com (some m) (some ⟨b, 0, none⟩) (fun k => k = p ∨ k = m) K w ((Fr.init _ w).entry hb (fun x h => by cases h) fun _ => .inl rfl) ⟨.inl rfl, trivial⟩ ?_
  refine Dr_some.2 (Dr_some.2 (Dr_some.2 (Dr_some.2 ⟨_, hc hv, fun w0 hF0 => ⟨fun w' => w'.cell? ⟨b, 0, none⟩ = some (.int .i64 (ver : Int)), ?_, Dr_some.2 (Dr_some.2 (Dr_some.2 (Dr_some.2 ⟨_, fun w1 h => h, ?_⟩)))⟩⟩)))
  · exact hc (hv.keep hF0.chg (fun _ _ e => e) (fun _ _ e => e))
  · have g0 : Chg (· = p) w w0 := hF0.stp.mono fun i _ hi => by simpa using hi
    have hv0 := hv.keep (D' := fun k => k = p ∨ k = m) hF0.chg (fun _ _ e => e) (fun _ _ e => e)
    refine VerTree hv0 hL fun w2 c g2 => ?_
    have hv2 := hv0.keep (D' := fun k => k = p ∨ k = m) g2 (fun _ _ e => e.elim) (fun _ _ e => e)
    have hF2 := hF0.after g2
    have hm2 := (hm.keep g0 hpm.symm).grow g2
    refine ⟨_, rfl, hF2, hc hv2, ?_⟩
    refine update_rn keyedI map_shown hm2 (key_int (i := (ver : Int)) (by omega) (by omega)) fun w3 hm3 g3 _ => ?_
    have hF3 := hF2.step g3 (fun x hx => by simp at hx; subst hx; exact hpm) fun k _ e => .inr e
    refine ⟨hF3, ?_⟩
    have hR3 : shownR (updR R (.int .i64 (ver : Int)) (.agg #[.pointer (some ⟨b, 0, none⟩), .pointer (some ⟨c, 0, none⟩)])) := by
      rintro k v (⟨rfl, rfl⟩ | ⟨_, hr⟩)
      · exact ⟨ver, b, c, hver, rfl, rfl⟩
      · exact hR k v hr
    refine trim_spec (hF3.blk 0 rfl) hm3 hR3 (by omega) fun w4 g4 hm4 => ?_
    have hF4 := hF3.step g4 (fun x hx => by simp at hx; subst hx; exact hpm) fun k _ e => .inr e
    exact ⟨rfl, _, _, _, _, _, hF4, hK w4 c _ hF4.chg (hF4.blk 0 rfl) hm4⟩
end Go.Vc

/-! A part of the proof that two events of one line are one event: the calculus that follows known memory by computing, and its soundness. By an AI agent. -/

namespace Go.Vc
open Go Go.MapKept
/-! ## what is published: contracts -/
structure PubS where
  p : Nat
  bj : Nat
  bd : Nat
  m : Nat
  each : Nat
  q : Option Addr
  c : Nat
  last : Nat
  com : Nat
  recs : List (List UInt8)
  R : Value → Value → Prop
  man : Nat → Man
  ex : Nat → Prop
def PubS.reg (x : PubS) : Nat → Prop := fun k => k = x.p ∨ k = x.m ∨ jrnS x.bj x.bd x.q k
/-- what is written, here or elsewhere -/
def PubS.dom (x : PubS) : Nat → Prop := fun k => x.reg k ∨ x.ex k
def PubS.room (x : PubS) : Nat := 200000 - (logL x.recs).length
/-- one that is kept -/
def KeptAt (D : Nat → Prop) (w : World) (last : Nat) (man : Nat → Man) (k v : Value) : Prop :=
  ∃ (i b c : Nat) (mn : Man) (list : List (List UInt8)), 1 ≤ i ∧ i ≤ last ∧ k = .int .i64 (i : Int) ∧ v = .agg #[.pointer (some ⟨b, 0, none⟩), .pointer (some ⟨c, 0, none⟩)] ∧ VerO D w b mn list ∧ VerL mn list ∧ mn.version = i ∧ mn = man i
structure PubAt (N : Nat) (w : World) (x : PubS) : Prop where
  blk : w.heap[x.p]? = some (.cells (pubC x.bj x.each x.last x.com x.m) T.pub_Pub (0, 0))
  jrn : JrnAt w x.bj x.bd x.q x.c x.recs
  map : ∃ n, MapP w T.int x.m n x.R
  kept : ∀ k v, x.R k v → KeptAt x.dom w x.last x.man k v
  has : ∀ i : Nat, 1 ≤ i → i ≤ x.last → x.last < i + 3 ∨ i = x.com → ∃ v, x.R (.int .i64 (i : Int)) v
  com_le : x.com ≤ x.last
  last_le : x.last ≤ x.recs.length
  room : (logL x.recs).length ≤ 200000
  each1 : 1 ≤ x.each
  each2 : x.each < 4096
  lo : ∀ k, x.reg k → N ≤ k
  exlt : ∀ k, x.ex k → k < w.heap.size
  only : ∀ (i : Nat) v, x.R (.int .i64 (i : Int)) v → x.last < i + 3 ∨ i = x.com
  rep : Rep x.recs x.last x.com x.man
theorem KeptAt.keep {D D' S : Nat → Prop} {w w' : World} {last last' : Nat} {man : Nat → Man} {k v : Value} (h : KeptAt D w last man k v) (g : Chg S w w') (hS : ∀ k, k < w.heap.size → S k → D k) (hD : ∀ k, k < w.heap.size → D' k → D k) (hl : last ≤ last') : KeptAt D' w' last' man k v := by
  obtain ⟨i, b, c, mn, list, h1, h2, h3, h4, h5, h6⟩ := h
  exact ⟨i, b, c, mn, list, h1, by omega, h3, h4, h5.keep g hS hD, h6⟩
theorem PubAt.lt {N : Nat} {w : World} {x : PubS} (h : PubAt N w x) : ∀ k, x.reg k → k < w.heap.size := by
  rintro k (rfl | rfl | hk)
  · exact heap_lt h.blk
  · obtain ⟨n, hm⟩ := h.map; exact hm.lt
  · exact h.jrn.lt k hk
theorem PubAt.keep {S : Nat → Prop} {N : Nat} {w w' : World} {x : PubS} (h : PubAt N w x) (g : Chg S w w') (hS : ∀ k, k < w.heap.size → ¬ S k) : PubAt N w' x := by
  have g' : Grow w w' := g.mono fun i hi hs => hS i hi hs
  obtain ⟨n, hm⟩ := h.map
  exact ⟨Grow.get g' h.blk, h.jrn.grow g', ⟨n, hm.grow g'⟩, fun k v hr => (h.kept k v hr).keep g' (fun _ _ e => e.elim) (fun _ _ e => e) (Nat.le_refl _), h.has, h.com_le, h.last_le, h.room, h.each1, h.each2, h.lo, fun k hk => Nat.lt_of_lt_of_le (h.exlt k hk) g.size, h.only, h.rep⟩
theorem PubAt.keepEx {S : Nat → Prop} {N : Nat} {w w' : World} {x : PubS} (h : PubAt N w x) (g : Chg S w w') (hS : ∀ k, S k → x.ex k) (hn : ∀ k, S k → ¬ x.reg k) : PubAt N w' x := by
  obtain ⟨n, hm⟩ := h.map
  exact ⟨g.get h.blk fun e => hn _ e (.inl rfl), h.jrn.keep g fun k e hk => hn k e (.inr (.inr hk)), ⟨n, hm.keep g fun e => hn _ e (.inr (.inl rfl))⟩, fun k v hr => (h.kept k v hr).keep g (fun k _ e => .inr (hS k e)) (fun _ _ e => e) (Nat.le_refl _), h.has, h.com_le, h.last_le, h.room, h.each1, h.each2, h.lo, fun k hk => Nat.lt_of_lt_of_le (h.exlt k hk) g.size, h.only, h.rep⟩
theorem PubAt.grow {N : Nat} {w w' : World} {x : PubS} (h : PubAt N w x) (g : Grow w w') : PubAt N w' x := h.keep g fun _ _ e => e
theorem sealL_pos (f : List UInt8 → Nat) (s : List UInt8) : s.length + 1 ≤ (sealL f s).length := by rw [sealL_len]; omega
theorem logL_ge (recs : List (List UInt8)) : recs.length ≤ (logL recs).length := by
  induction recs with
  | nil => simp [logL]
  | cons a l ih =>
    have h1 := sealL_pos crcN a
    have e : logL (a :: l) = sealL crcN a ++ logL l := rfl
    rw [e, List.length_append, List.length_cons]; omega
theorem PubAt.shown {N : Nat} {w : World} {x : PubS} (h : PubAt N w x) : shownR x.R := by
  intro k v hr
  obtain ⟨i, b, c, mn, list, h1, h2, h3, h4, _⟩ := h.kept k v hr
  have := h.last_le
  have := h.room
  have := logL_ge x.recs
  exact ⟨i, b, c, by omega, h3, h4⟩
theorem PubAt.small {N : Nat} {w : World} {x : PubS} (h : PubAt N w x) : x.last ≤ 200000 ∧ x.com ≤ 200000 ∧ x.recs.length ≤ 200000 := by
  have := h.last_le
  have := h.room
  have := logL_ge x.recs
  have := h.com_le
  omega
theorem Room_spec {N : Nat} {w : World} {x : PubS} (h : PubAt N w x) {K : Value → World → Prop} (hK : K (.int .i64 x.room) w) : CallV PR F.p_pub_Pub_Room ⟨[.pointer (some ⟨x.p, 0, none⟩)]⟩ w K := Room_in h.blk h.jrn h.room hK
theorem Last_spec {N : Nat} {w : World} {x : PubS} (h : PubAt N w x) {K : Value → World → Prop} (hK : K (.int .i64 x.last) w) : CallV PR F.p_pub_Pub_Last ⟨[.pointer (some ⟨x.p, 0, none⟩)]⟩ w K :=
  pub_Pub_Last x.p (some ⟨x.bj, 0, none⟩) x.each x.last x.com (some x.m) (· = x.p) K w ((Fr.init _ w).entry h.blk (fun x h => by cases h) fun _ => rfl) ⟨rfl, trivial⟩ hK
theorem Committed_spec {N : Nat} {w : World} {x : PubS} (h : PubAt N w x) {K : Value → World → Prop} (hK : K (.int .i64 x.com) w) : CallV PR F.p_pub_Pub_Committed ⟨[.pointer (some ⟨x.p, 0, none⟩)]⟩ w K :=
  pub_Pub_Committed x.p (some ⟨x.bj, 0, none⟩) x.each x.last x.com (some x.m) (· = x.p) K w ((Fr.init _ w).entry h.blk (fun x h => by cases h) fun _ => rfl) ⟨rfl, trivial⟩ hK
theorem PLog_spec {N : Nat} {w : World} {x : PubS} (h : PubAt N w x) {K : Value → World → Prop} (hK : K (.tuple #[.string (str (logL x.recs)), .nilIface]) w) : CallV PR F.p_disk_Disk_Log ⟨[.pointer (some ⟨x.bd, 0, none⟩)]⟩ w K := Log_spec h.jrn.dsk hK
/-- opened on a disk that is empty -/
theorem Open0_spec {N : Nat} {w : World} {bd each : Nat} (hd : DskAt w bd ⟨#[]⟩) (hN : N ≤ bd) (hN2 : N ≤ w.heap.size) (he : 1 ≤ each) (he2 : each < 4096) {K : Value → World → Prop}
    (hK : ∀ w' x, Grow w w' → PubAt N w' x → x.bd = bd → x.each = each → x.last = 0 → x.com = 0 → x.recs = [] → w.heap.size ≤ x.p → K (.tuple #[.pointer (some ⟨x.p, 0, none⟩), .nilIface]) w') : CallV PR F.pub_Open ⟨[.pointer (some ⟨bd, 0, none⟩), .int .i64 each]⟩ w K := by
  have hf : ∀ {w' : World}, Grow w w' → Fs S0 w [] w' := fun g => (Fr.init _ w).after g
  refine pub_Open' (some ⟨bd, 0, none⟩) each S0 K w ⟨fun h => by omega, fun _ => ⟨fun h => by omega, fun _ => ?_⟩⟩
  refine JOpen0_spec hd fun w1 bj g1 hbj hj => ⟨_, _, rfl, hf g1, fun _ => ?_, (fun t x h => by cases h), .inl rfl⟩
  refine make_rn (k := T.int) fun w2 m hme hm g2 => ⟨_, rfl, hf (g1.trans g2), fun p hp w3 hF3 => ?_⟩
  have g3 : Grow w2 w3 := hF3.grow
  have hj3 := (hj.grow g2).grow g3
  refine JAll_spec hj3 (by simp) fun w4 q' c' g4 _ => ⟨_, _, _, rfl, hF3.after g4, ?_⟩
  have hF4 := hF3.after g4
  refine ⟨fun i q n1 n2 n3 q4 l w' => i = 0 ∧ q = some ⟨bj, 0, none⟩ ∧ n1 = each ∧ n2 = 0 ∧ n3 = 0 ∧ q4 = some m ∧ w' = w4, ⟨0, rfl, rfl, rfl, rfl, rfl, rfl, rfl⟩, ?_⟩
  rintro i q n1 n2 n3 q4 D l w5 ⟨rfl, rfl, rfl, rfl, rfl, rfl, rfl⟩ hF5
  refine ⟨fun h => by simp at h, fun _ => ?_⟩
  have s1 := g1.size
  have s2 := g2.size
  have hml := hm.lt
  have gg : Grow w w5 := ((g1.trans g2).trans g3).trans g4
  refine hK w5 ⟨p, bj, bd, m, each, none, 0, 0, 0, [], (fun _ _ => False), (fun _ => ⟨0, 0, 0, [], 0, []⟩), fun _ => False⟩ gg ⟨hF4.blk 0 rfl, hj3.grow g4, ⟨0, (hm.grow g3).grow g4⟩, fun k v h => h.elim, fun i h1 h2 _ => absurd (Nat.le_trans h1 h2) (by simp), Nat.le_refl _, Nat.le_refl _, by simp [logL], he, he2, ?_, fun k hk => hk.elim, fun i v h => h.elim, Rep.nil⟩ rfl rfl rfl rfl rfl (by simp only []; omega)
  rintro k (rfl | rfl | rfl | rfl | ⟨a, ha, _⟩)
  · omega
  · omega
  · omega
  · exact hN
  · cases ha
end Go.Vc

/-! A part of the proof that two events of one line are one event: the calculus that follows known memory by computing, and its soundness. By an AI agent. -/

namespace Go.Vc
open Go Go.MapKept
/-! ## a graph is published, a version committed -/
theorem sum_le_len (l : List (List UInt8)) (k : Nat) (h : ∀ x ∈ l, x.length ≤ k) : l.flatten.length ≤ k * l.length := by
  induction l with
  | nil => simp
  | cons a l ih =>
    have h1 := ih fun x hx => h x (List.mem_cons_of_mem _ hx)
    have h2 := h a List.mem_cons_self
    rw [List.flatten_cons, List.length_append, List.length_cons, Nat.mul_add]; omega
theorem putText1 (s : List UInt8) : putTextL [s] = putShort s.length ++ s := by simp [putTextL]
theorem str86 : (⟨#[86]⟩ : ByteArray) = str [86] := rfl
theorem str67 : (⟨#[67]⟩ : ByteArray) = str [67] := rfl
theorem putShort_le (n : Nat) (h : n ≤ 72057594037927935) : (putShort n).length ≤ 8 := by
  have := shorts_len (l := [(n : Int)]) (by simp; omega)
  simpa [shorts] using this
theorem only_of {last com i : Nat} (h : ¬ delP last com (.int .i64 (i : Int))) : last < i + 3 ∨ i = com := by
  by_cases h1 : last < i + 3
  · exact .inl h1
  · by_cases h2 : i = com
    · exact .inr h2
    · exact absurd ⟨i, rfl, by omega, by omega⟩ h
/-- there is surely room for it -/
def snug (x : PubS) (nodes : Int) (l : List (Int × Int)) : Prop := roomy nodes x.each l ∧ 2700 + 9 * nodes + 8 * l.length ≤ 60000 ∧ 2700 + 9 * nodes + 8 * l.length ≤ x.room
theorem jrn_next {w w' : World} {x : PubS} {q' : Option Addr} (hq : ∀ a, q' = some a → x.q = some a ∨ w.heap.size ≤ a.block) : ∀ k, (k = x.p ∨ k = x.m ∨ jrnS x.bj x.bd q' k) → x.reg k ∨ w.heap.size ≤ k := by
  rintro k (rfl | rfl | rfl | rfl | ⟨a, ha, rfl⟩)
  · exact .inl (.inl rfl)
  · exact .inl (.inr (.inl rfl))
  · exact .inl (.inr (.inr (.inl rfl)))
  · exact .inl (.inr (.inr (.inr (.inl rfl))))
  · rcases hq a ha with h | h
    · exact .inl (.inr (.inr (.inr (.inr ⟨a, h, rfl⟩))))
    · exact .inr h
theorem Publish_spec {N : Nat} {w : World} {x : PubS} (h : PubAt N w x) (hN : N ≤ w.heap.size) {nodes : Int} {l : List (Int × Int)} {y : Option Addr} {n cy : Nat} (hs : Sl w y (encE l)) (hl : n = l.length) (hn : n ≤ 100000) {K : Value → World → Prop}
    (h1 : ∀ w' x', PubAt N w' x' → Chg x.reg w w' → x'.p = x.p → x'.bd = x.bd → x'.each = x.each → x'.last = x.last + 1 → x'.com = x.com → x'.room < x.room → (x.room : Int) ≤ x'.room + 2700 + 9 * nodes + 8 * l.length → x'.ex = x.ex → (∀ k, x'.reg k → x.reg k ∨ w.heap.size ≤ k) → goodG nodes l → K (.tuple #[.int .i64 x'.last, .nilIface]) w')
    (h2 : ∀ w' v, Grow w w' → PubAt N w' x → isErr v → ¬ snug x nodes l → K (.tuple #[.int .i64 0, v]) w') :
    CallV PR F.p_pub_Pub_Publish ⟨[.pointer (some ⟨x.p, 0, none⟩), .int .i64 nodes, .slice y n cy]⟩ w K := by
  obtain ⟨hsl, hsc, hsr⟩ := h.small
  have hlt := h.lt
  have h0 : Fs x.reg w [⟨x.p, pubC x.bj x.each x.last x.com x.m, T.pub_Pub, true⟩] w := (Fr.init _ w).entry h.blk (fun x h => by cases h) fun _ => .inl rfl
  refine pub_Pub_Publish x.p (some ⟨x.bj, 0, none⟩) x.each x.last x.com (some x.m) nodes y n cy x.reg K w h0 ⟨.inl rfl, trivial⟩ fun w0 hF0 => ?_
  have g0 : Grow w w0 := hF0.grow
  refine ⟨fun _ => True, trivial, ?_⟩
  have e1 : IntKind.wrap .i64 ((x.last : Int) + 1) = ((x.last + 1 : Nat) : Int) := by rw [w64 (by omega) (by omega)]; omega
  rw [e1]
  refine Make_spec (version := ((x.last + 1 : Nat) : Int)) h.each1 h.each2 (hs.grow g0) hl hn (fun w1 b mn list g1 hbl hv hL hmv hfl hgg => ?_) fun w1 v g1 hv hbad => ?_
  · have g01 := g0.trans g1
    have hF1 := hF0.reset.after g1
    refine ⟨_, _, rfl, hF1, trivial, fun _ => ?_, (fun t x h => by cases h), .inl rfl⟩
    have hv1 : VerO x.dom w1 b mn list := hv.keep (.refl (fun _ => False) _) (fun _ _ e => e.elim) fun k _ e => by
      have := g0.size
      rcases e with e | e
      · have := hlt k e; omega
      · have := h.exlt k e; omega
    obtain ⟨qm, cm, ql, cl, hb1, hb0, hq1, hq2, hlc⟩ := id hv1
    have hcell : ∀ {w' : World}, Grow w1 w' → ∀ k v, (verC mn qm cm list ql cl)[k]? = some v → w'.cell? ⟨b, k, none⟩ = some v := fun g k v hv => by
      rw [cell_blk (Grow.get g hb1)]; exact hv
    have hmn := putMan_len hL.ok
    have hbl2 := hL.ok.blocks.2
    have hbe := hL.blocks
    have hps : (putShort (putMan mn).length).length ≤ 8 := putShort_le _ (by omega)
    have hfl2 : list.flatten.length ≤ 200000 := by
      have := sum_le_len list 64 hL.small
      omega
    refine Dr_some.2 (Dr_some.2 (Dr_some.2 ⟨mn.version, by rw [add_mk, add_mk]; exact hcell (.refl _ _) 0 _ rfl, mn.nodes, by rw [add_mk, add_mk]; exact hcell (.refl _ _) 1 _ rfl, mn.edges, by rw [add_mk, add_mk]; exact hcell (.refl _ _) 2 _ rfl, qm, mn.shards.length, cm, by rw [add_mk, add_mk]; exact hcell (.refl _ _) 3 _ rfl, mn.blocks, by rw [add_mk, add_mk]; exact hcell (.refl _ _) 4 _ rfl, str mn.root, by rw [add_mk, add_mk]; exact hcell (.refl _ _) 5 _ rfl, ?_⟩))
    refine MPut_ok hL.ok hq1.sl fun w2 g2 => ⟨_, _, rfl, hF1.after g2, fun w3 hF3 => ?_⟩
    have g3 : Grow w2 w3 := hF3.grow
    refine ⟨fun w' => w'.cell? ⟨b, 6, none⟩ = some (.slice ql list.length cl), hcell (g2.trans g3) 6 _ rfl, Dr_some.2 (Dr_some.2 (Dr_some.2 ⟨_, _, _, fun w4 h => by rw [add_mk]; exact h, fun l4 hl4 w5 hF5 => ?_⟩))⟩
    have g5 : Grow w3 w5 := hF5.grow
    have g15 : Grow w1 w5 := (g2.trans g3).trans g5
    refine ⟨hcell g15 6 _ rfl, ?_⟩
    have hsl5 : Sl w5 (some ⟨l4, 0, none⟩) ([putMan mn].map sv8') := .inr ⟨l4, 0, rfl, _, _, _, hF5.blk 1 rfl, fun i hi => by
      have : i = 0 := by simpa using hi
      subst this; rfl⟩
    have hptl : (putTextL [putMan mn]).length ≤ 1208 := by rw [putText1, List.length_append]; omega
    refine PutText_spec hsl5 rfl (by simp) (by omega) fun w6 g6 => ⟨_, rfl, hF5.after g6, hcell (g15.trans g6) 6 _ rfl, by rw [str_size]; omega, ?_⟩
    refine Join0_spec (hq2.sl.grow (g15.trans g6)) rfl hlc (by omega) (by omega) fun w7 g7 => ⟨_, rfl, (hF5.after g6).after g7, hcell ((g15.trans g6).trans g7) 6 _ rfl, by rw [str86, str_append, str_size, str_size, List.length_append, List.length_singleton]; omega, ?_⟩
    rw [str86, str_append, str_append]
    have g17 := (g15.trans g6).trans g7
    have g07 := g01.trans g17
    have hF7 := (hF5.after g6).after g7
    have hp7 := h.grow g07
    have hrl : (recV mn list).length = 1 + (putTextL [putMan mn]).length + list.flatten.length := by simp [recV]; omega
    have hF7' : Fs x.reg w [⟨x.p, pubC x.bj x.each x.last x.com x.m, T.pub_Pub, true⟩] w7 := hF7.sub (List.Sublist.cons_cons _ (List.nil_sublist _))
    have hl4 : w.heap.size ≤ l4 := by have := g01.size; have := g2.size; have := g3.size; omega
    refine write_spec (s := recV mn list) hp7.blk hp7.jrn h.room hsr (by omega) (fun hs1 hs2 w8 q' c' hj8 g8 hq' => ?_) fun hno => ?_
    · have hpub := hp7.jrn.pub hp7.blk
      obtain ⟨nm, hm⟩ := hp7.map
      have hmj := hp7.jrn.mapb hm
      have hF8 := hF7.step g8 (fun z hz => by
        rcases List.mem_cons.1 hz with rfl | hz
        · exact hpub
        · simp at hz; subst hz
          exact fun e => by have := hlt _ (.inr (.inr e)); simp only [] at this; omega) (fun k _ e => .inr (.inr e))
      have hb8 : ¬ jrnS x.bj x.bd x.q b := fun e => hb0 (.inl (.inr (.inr e)))
      have hv7 : VerO x.dom w7 b mn list := hv1.keep g17 (fun _ _ e => e.elim) (fun _ _ e => e)
      have hv8 : VerO x.dom w8 b mn list := hv7.keep g8 (fun _ _ e => .inl (.inr (.inr e))) (fun _ _ e => e)
      have hc8 : w8.cell? ⟨b, 6, none⟩ = some (.slice ql list.length cl) := by
        rw [cell_blk (g8.get (Grow.get g17 hb1) hb8)]; rfl
      refine ⟨_, rfl, _, _, _, _, _, hF8, hc8, fun _ => ?_, (fun t x h => by cases h), .inl rfl⟩
      have hb8' := g8.get hp7.blk hpub
      have hm8 := hm.keep g8 hmj
      refine show_spec (ver := x.last + 1) (mn := mn) (list := list) hb8' hm8 h.shown (hv8.keep (.refl (fun _ => False) _) (fun _ _ e => e.elim) (fun k _ e => .inl (e.elim .inl fun e => .inr (.inl e)))) hL hmv (by omega) fun w9 cc n9 g9 hb9 hm9 => ?_
      have hF8' : Fs x.reg w [⟨x.p, pubC x.bj x.each x.last x.com x.m, T.pub_Pub, true⟩] w8 := hF8.sub (List.Sublist.cons_cons _ (List.nil_sublist _))
      have hF9 : Fs x.reg w [⟨x.p, pubC x.bj x.each ((x.last + 1 : Nat) : Int) x.com x.m, T.pub_Pub, true⟩] w9 := hF8'.mod g9 hb9 (fun z hz => by cases hz) fun k _ e => e.elim .inl fun e => .inr (.inl e)
      refine ⟨rfl, _, _, _, _, _, hF9, ?_⟩
      have hv9 : VerO x.dom w9 b mn list := hv8.keep g9 (fun k _ e => .inl (e.elim .inl fun e => .inr (.inl e))) (fun _ _ e => e)
      have hc9 : w9.cell? ⟨b, 0, none⟩ = some (.int .i64 ((x.last + 1 : Nat) : Int)) := by
        obtain ⟨q9, c9, ql9, cl9, h9, _⟩ := hv9
        rw [cell_blk h9, ← hmv]; rfl
      refine Dr_some.2 (Dr_some.2 (Dr_some.2 (Dr_some.2 ⟨_, hc9, ?_⟩)))
      have hqn : ∀ a, q' = some a → x.q = some a ∨ w.heap.size ≤ a.block := fun a ha => (hq' a ha).imp id fun h => Nat.le_trans g07.size h
      have hreg := jrn_next (w' := w9) hqn
      have hmj8 : ¬ (fun k => k = x.p ∨ k = x.m) x.bj := by
        rintro (e | e)
        · exact hpub (.inl e.symm)
        · exact hmj (.inl e.symm)
      have hj9 : JrnAt w9 x.bj x.bd q' c' (x.recs ++ [recV mn list]) := hj8.keep g9 fun k e hk => by
        rcases e with rfl | rfl
        · exact hj8.pub hb8' hk
        · exact hj8.mapb hm8 hk
      let x' : PubS := ⟨x.p, x.bj, x.bd, x.m, x.each, q', c', x.last + 1, x.com, x.recs ++ [recV mn list], fun k v => updR x.R (.int .i64 ((x.last + 1 : Nat) : Int)) (.agg #[.pointer (some ⟨b, 0, none⟩), .pointer (some ⟨cc, 0, none⟩)]) k v ∧ ¬ delP ((x.last + 1 : Nat) : Int) x.com k, (fun i => if i = x.last + 1 then mn else x.man i), x.ex⟩
      have hlog : (logL (x.recs ++ [recV mn list])).length = (logL x.recs).length + (recV mn list).length + 6 := by
        rw [logL_snoc, List.length_append, sealL_len]; omega
      have hreg8 : ∀ k, k < w8.heap.size → x'.reg k → x.reg k ∨ w7.heap.size ≤ k := fun k _ e => by
        rcases jrn_next (w := w7) (w' := w9) hq' k e with h | h
        · exact .inl h
        · exact .inr h
      -- versions that were known lie in blocks of before
      have kept7 : ∀ k v, x.R k v → KeptAt x.dom w7 x.last x.man k v := hp7.kept
      have keep9 : ∀ {b mn list}, VerO x.dom w7 b mn list → VerO x'.dom w9 b mn list := fun hv => by
        have a8 : VerO (fun k => (k = x.p ∨ k = x.m ∨ jrnS x.bj x.bd q' k) ∨ x.ex k) w8 _ _ _ := hv.keep g8 (fun _ _ e => .inl (.inr (.inr e))) (fun k hk e => e.elim (fun e => .inl ((jrn_next (w := w7) (w' := w8) hq' k e).elim id fun h => by omega)) .inr)
        exact a8.keep g9 (fun k _ e => .inl (e.elim .inl fun e => .inr (.inl e))) (fun _ _ e => e)
      refine h1 w9 x' ⟨hb9, hj9, ⟨n9, hm9⟩, ?_, ?_, by show x.com ≤ x.last + 1; have := h.com_le; omega, by show x.last + 1 ≤ _; rw [List.length_append, List.length_singleton]; have := h.last_le; omega, by show (logL _).length ≤ _; rw [hlog]; omega, h.each1, h.each2, fun k hk => ?_, fun k hk => Nat.lt_of_lt_of_le (h.exlt k hk) hF9.chg.size, fun j v hr => only_of hr.2, h.rep.snoc (.ver mn list) ⟨hL, hmv⟩ hs1 rfl⟩ hF9.chg rfl rfl rfl rfl rfl ?_ ?_ rfl hreg hgg
      · rintro k v ⟨hr, _⟩
        rcases hr with ⟨rfl, rfl⟩ | ⟨hne, hr⟩
        · exact ⟨x.last + 1, b, cc, mn, list, by omega, Nat.le_refl _, rfl, rfl, keep9 hv7, hL, hmv, by show mn = if x.last + 1 = x.last + 1 then mn else x.man (x.last + 1); rw [if_pos rfl]⟩
        · obtain ⟨i, b', c', mn', list', k1, k2, k3, k4, k5, k6⟩ := kept7 k v hr
          exact ⟨i, b', c', mn', list', k1, by show i ≤ x.last + 1; omega, k3, k4, keep9 k5, k6.1, k6.2.1, by show mn' = if i = x.last + 1 then mn else x.man i; rw [if_neg (by omega)]; exact k6.2.2⟩
      · intro i hi1 hi2 hi3
        have hi2' : i ≤ x.last + 1 := hi2
        have hi3' : x.last + 1 < i + 3 ∨ i = x.com := hi3
        have hnd : ¬ delP ((x.last + 1 : Nat) : Int) x.com (.int .i64 (i : Int)) := by
          rintro ⟨j, hj, k1, k2⟩
          have e2 : (i : Int) = j := by injection hj
          subst e2
          rcases hi3' with h' | h'
          · omega
          · exact k2 (by rw [h'])
        by_cases hi : i = x.last + 1
        · subst hi; exact ⟨_, .inl ⟨rfl, rfl⟩, hnd⟩
        · obtain ⟨v, hv⟩ := h.has i hi1 (by omega) (hi3'.imp (fun h => by omega) id)
          refine ⟨v, .inr ⟨fun e => hi ?_, hv⟩, hnd⟩
          have e2 : (i : Int) = ((x.last + 1 : Nat) : Int) := by injection e
          omega
      · rcases hreg k hk with e | e
        · exact h.lo k e
        · omega
      · show 200000 - (logL (x.recs ++ [recV mn list])).length < 200000 - (logL x.recs).length
        rw [hlog]; omega
      · show ((200000 - (logL x.recs).length : Nat) : Int) ≤ ((200000 - (logL (x.recs ++ [recV mn list])).length : Nat) : Int) + 2700 + 9 * nodes + 8 * l.length
        rw [hlog]; omega
    · refine ⟨_, rfl, _, _, _, _, _, hF7, hcell g17 6 _ rfl, (fun h => by cases h), fun t v he => ?_, .inr ⟨_, _, rfl⟩⟩
      refine h2 w7 _ g07 hp7 ⟨_, _, rfl⟩ fun hh => hno ?_
      have hr := h.room
      have h3 := hh.2.1
      have h4 := hh.2.2
      unfold PubS.room at h4
      omega
  · have g01 := g0.trans g1
    refine ⟨_, _, rfl, hF0.reset.after g1, trivial, (fun h => by obtain ⟨t, x, rfl⟩ := hv; cases h), fun t v he => ?_, .inr (by obtain ⟨t, x, h⟩ := hv; exact ⟨t, x, h⟩)⟩
    exact h2 w1 _ g01 (h.grow g01) hv fun hh => hbad ⟨by omega, by omega, hh.1⟩

theorem tyI_shown : ∃ i, PR.info? T.pub_shown = some i ∧ i.zero = some (.agg #[.pointer none, .pointer none]) := by
  have h : (match PR.info? T.pub_shown with | some i => (match i.zero with | some (.agg ⟨[.pointer none, .pointer none]⟩) => true | _ => false) | none => false) = true := by kernel_rfl
  split at h
  · rename_i i hi
    refine ⟨i, hi, ?_⟩
    split at h
    · assumption
    · cases h
  · cases h
theorem map_zero : ∀ w : World, (zeroValue T.pub_shown).run PR w = .ok (.agg #[.pointer none, .pointer none]) w := fun w => by
  obtain ⟨i, hi, hz⟩ := tyI_shown
  simp [zeroValue, typeInfo, hi, hz]
theorem commit_spec {w : World} {p bj m n each last com ver : Nat} {R : Value → Value → Prop} {v : Value} (hb : w.heap[p]? = some (.cells (pubC bj each last com m) T.pub_Pub (0, 0))) (hm : MapP w T.int m n R) (hsh : shownR R) (hlast : last ≤ 1000000) (hR : R (.int .i64 (ver : Int)) v) (hlt : com < ver) {K : Value → World → Prop}
    (hK : ∀ w' n', Chg (fun k => k = p ∨ k = m) w w' → w'.heap[p]? = some (.cells (pubC bj each last ver m) T.pub_Pub (0, 0)) → MapP w' T.int m n' (fun k v => R k v ∧ ¬ delP last ver k) → K (.tuple #[]) w') :
    CallV PR F.p_pub_Pub_commit ⟨[.pointer (some ⟨p, 0, none⟩), .int .i64 (ver : Int)]⟩ w K := by
  have hpm := mapNe hb hm
  obtain ⟨i, b, c, k2, k3, k4⟩ := hsh _ _ hR
  have hvi : ver = i := by
    have e2 : (ver : Int) = (i : Int) := by injection k3
    omega
  subst hvi
  refine pub_Pub_commit p (some ⟨bj, 0, none⟩) each last com (some m) ver (fun k => k = p ∨ k = m) K w ((Fr.init _ w).entry hb (fun x h => by cases h) fun _ => .inl rfl) ⟨.inl rfl, trivial⟩ ?_
  refine lookup_rn keyedI map_shown hm (key_int (i := (ver : Int)) (by omega) (by omega)) true map_zero (fun v' hv' => ?_) fun hno => absurd hR (hno v)
  have : v' = v := hm.inj hv' hR
  subst this
  subst k4
  refine ⟨_, _, true, rfl, (fun _ => ⟨(Fr.init _ w).entry hb (fun x h => by cases h) fun _ => .inl rfl, fun l0 hl0 => ⟨fun _ w1 hF1 => ?_, fun hh => absurd hlt (by omega)⟩⟩), fun h => by cases h⟩
  have g1 : Chg (· = p) w w1 := hF1.stp.mono fun i hi he => by simp at he; rcases he with e | e; exact e; omega
  have hm1 := hm.keep g1 hpm.symm
  refine trim_spec (hF1.blk 0 rfl) hm1 hsh (by omega) fun w2 g2 hm2 => ?_
  have hF2 := hF1.reset.step g2 (fun z hz => by simp at hz; subst hz; exact hpm) fun k _ e => .inr e
  exact ⟨rfl, _, _, _, _, _, hF2, hK w2 _ hF2.chg (hF2.blk 0 rfl) hm2⟩
theorem Commit_spec {N : Nat} {w : World} {x : PubS} (h : PubAt N w x) (hN : N ≤ w.heap.size) {ver : Int} (hi : -9223372036854775808 ≤ ver ∧ ver ≤ 9223372036854775807) {K : Value → World → Prop}
    (h1 : ∀ w' x', PubAt N w' x' → Chg x.reg w w' → x'.p = x.p → x'.bd = x.bd → x'.each = x.each → x'.last = x.last → ver = x'.com → x.com < x'.com → x'.room < x.room → x.room ≤ x'.room + 20 → x'.man = x.man → x'.com ≤ x'.last → x'.ex = x.ex → (∀ k, x'.reg k → x.reg k ∨ w.heap.size ≤ k) → K .nilIface w')
    (h2 : ∀ w' v, Grow w w' → PubAt N w' x → isErr v → ¬ (x.com < ver ∧ ver ≤ x.last ∧ x.last < ver + 3 ∧ 20 ≤ x.room) → K v w') :
    CallV PR F.p_pub_Pub_Commit ⟨[.pointer (some ⟨x.p, 0, none⟩), .int .i64 ver]⟩ w K := by
  obtain ⟨hsl, hsc, hsr⟩ := h.small
  obtain ⟨n, hm⟩ := h.map
  have hpm := mapNe h.blk hm
  have hlt := h.lt
  have h0 : Fs x.reg w [⟨x.p, pubC x.bj x.each x.last x.com x.m, T.pub_Pub, true⟩] w := (Fr.init _ w).entry h.blk (fun x h => by cases h) fun _ => .inl rfl
  refine pub_Pub_Commit x.p (some ⟨x.bj, 0, none⟩) x.each x.last x.com (some x.m) ver x.reg K w h0 ⟨.inl rfl, trivial⟩ ?_
  refine lookup_rn keyedI map_shown hm (key_int hi.1 hi.2) true map_zero (fun v hv => ?_) fun hno => ?_
  · obtain ⟨i, b, c, mn, list, k1, k2, k3, k4, k5⟩ := h.kept _ _ hv
    have hvi : ver = i := by injection k3
    subst hvi
    subst k4
    refine ⟨_, _, true, rfl, (fun _ => ⟨h0, fun l0 hl0 => ⟨fun hle w1 hF1 => ?_, fun hgt w1 hF1 => ?_⟩⟩), fun h => by cases h⟩
    · have g1 : Grow w w1 := (hF1.unM hl0).grow
      exact h2 w1 _ g1 (h.grow g1) ⟨_, _, rfl⟩ fun hh => by omega
    · have g1 : Grow w w1 := (hF1.unM hl0).grow
      have hF1' := (hF1.unM hl0).reset
      refine PutShort_spec (n := (i : Int)) (by omega) fun w2 g2 => ⟨_, _, rfl, hF1'.after g2, ?_⟩
      have hF2 := hF1'.after g2
      have g02 := g1.trans g2
      have hpl := putShort_le i (by omega)
      rw [Int.toNat_natCast] at *
      refine ⟨by rw [str_size]; omega, ?_⟩
      rw [str67, str_append]
      have hp2 := h.grow g02
      obtain ⟨n2, hm2⟩ := hp2.map
      have hrl : (recC i).length = 1 + (putShort i).length := by simp [recC]; omega
      refine write_spec (s := recC i) hp2.blk hp2.jrn h.room hsr (by omega) (fun hs1 hs2 w3 q' c' hj3 g3 hq' => ?_) fun hno => ?_
      · have hpub := hp2.jrn.pub hp2.blk
        have hmj := hp2.jrn.mapb hm2
        have hF3 := hF2.step g3 (fun z hz => by simp at hz; subst hz; exact hpub) (fun k _ e => .inr (.inr e))
        refine ⟨_, rfl, _, _, _, _, _, hF3, fun _ => ?_, (fun t x h => by cases h), .inl rfl⟩
        have hb3 := g3.get hp2.blk hpub
        have hm3 := hm2.keep g3 hmj
        have hlog : (logL (x.recs ++ [recC i])).length = (logL x.recs).length + (recC i).length + 6 := by
          rw [logL_snoc, List.length_append, sealL_len]; omega
        let x1 : PubS := ⟨x.p, x.bj, x.bd, x.m, x.each, q', c', x.last, x.com, x.recs ++ [recC i], x.R, x.man, x.ex⟩
        have hqn : ∀ a, q' = some a → x.q = some a ∨ w.heap.size ≤ a.block := fun a ha => (hq' a ha).imp id fun h => Nat.le_trans g02.size h
        have hreg := jrn_next (w' := w3) hqn
        have k3' : ∀ k v, x.R k v → KeptAt x1.dom w3 x.last x.man k v := fun k v hr => (hp2.kept k v hr).keep g3 (fun _ _ e => .inl (.inr (.inr e))) (fun k hk e => e.elim (fun e => .inl ((jrn_next (w := w2) (w' := w3) hq' k e).elim id fun h => by omega)) .inr) (Nat.le_refl _)
        have room3 : (logL x1.recs).length ≤ 200000 := by show (logL _).length ≤ _; rw [hlog]; omega
        refine commit_spec hb3 hm3 h.shown (by omega) (ver := i) hv (by omega) fun w4 n4 g4 hb4 hm4 => ?_
        have hF4 := hF3.mod g4 hb4 (fun z hz => by cases hz) fun k _ e => e.elim .inl fun e => .inr (.inl e)
        refine ⟨rfl, _, _, _, _, _, hF4, ?_⟩
        have g4' : ∀ k, (k = x1.p ∨ k = x1.m) → x1.reg k := fun k e => e.elim .inl fun e => .inr (.inl e)
        let x2 : PubS := ⟨x.p, x.bj, x.bd, x.m, x.each, q', c', x.last, i, x.recs ++ [recC i], fun k v => x.R k v ∧ ¬ delP x.last i k, x.man, x.ex⟩
        have hro : (RecO.com i).ok ⟨x.last, x.com, x.man⟩ := ⟨by show x.com < i; omega, k2, by
          show x.last < i + 3
          rcases h.only i _ hv with h' | h'
          · exact h'
          · omega⟩
        refine h1 w4 x2 ⟨hb4, hj3.keep g4 fun k e hk => ?_, ⟨n4, hm4⟩, fun k v hr => (k3' k v hr.1).keep g4 (fun k _ e => .inl (g4' k e)) (fun _ _ e => e) (Nat.le_refl _), fun j hj1 hj2 hj3 => ?_, k2, (by show x.last ≤ _; rw [List.length_append]; have := h.last_le; omega), room3, h.each1, h.each2, fun k hk => (hreg k hk).elim (h.lo k) fun e => by omega, fun k hk => Nat.lt_of_lt_of_le (Nat.lt_of_lt_of_le (hp2.exlt k hk) g3.size) g4.size, fun j v hr => ?_, h.rep.snoc (.com i) hro hs1 rfl⟩ hF4.chg rfl rfl rfl rfl rfl (by show x.com < i; omega) ?_ ?_ rfl k2 rfl hreg
        · rcases e with rfl | rfl
          · exact hj3.pub hb3 hk
          · exact hj3.mapb hm3 hk
        · have hj3' : x.last < j + 3 ∨ j = i := hj3
          have hnd : ¬ delP x.last i (.int .i64 (j : Int)) := by
            rintro ⟨j', hj', a1, a2⟩
            have e2 : (j : Int) = j' := by injection hj'
            subst e2
            rcases hj3' with h' | h'
            · omega
            · exact a2 (by rw [h'])
          rcases hj3' with h' | rfl
          · obtain ⟨v, hv⟩ := h.has j hj1 hj2 (.inl h')
            exact ⟨v, hv, hnd⟩
          · exact ⟨_, hv, hnd⟩
        · exact only_of hr.2
        · show 200000 - (logL (x.recs ++ [recC i])).length < 200000 - (logL x.recs).length
          rw [hlog]; omega
        · show 200000 - (logL x.recs).length ≤ 200000 - (logL (x.recs ++ [recC i])).length + 20
          rw [hlog]; omega
      · refine ⟨_, rfl, _, _, _, _, _, hF2, (fun h => by cases h), fun t v he => ?_, .inr ⟨_, _, rfl⟩⟩
        refine h2 w2 _ g02 hp2 ⟨_, _, rfl⟩ fun hh => hno ?_
        have h4 := hh.2.2.2
        have hr := h.room
        unfold PubS.room at h4
        omega
  · refine ⟨_, _, false, rfl, (fun h => by cases h), fun _ => ⟨h0, fun l2 hl2 w1 hF1 => ?_⟩⟩
    have g1 : Grow w w1 := (hF1.unM hl2).grow
    refine h2 w1 _ g1 (h.grow g1) ⟨_, _, rfl⟩ fun hh => ?_
    obtain ⟨i, rfl⟩ := Int.eq_ofNat_of_zero_le (a := ver) (by omega)
    obtain ⟨v, hv⟩ := h.has i (by omega) (by omega) (.inl (by omega))
    exact hno v hv
end Go.Vc

/-! A part of the proof that two events of one line are one event: the calculus that follows known memory by computing, and its soundness. By an AI agent. -/

namespace Go.Vc
open Go
/-! ## the law of refusals -/
theorem awake22_spec {w : World} {K : Value → World → Prop} (hK : ∀ w', Grow w w' → K (.bool true) w') : CallV PR F.ladinglaw22_awake ⟨[]⟩ w K := by
  have h0 : Fs S0 w [] w := Fr.init _ w
  refine ladinglaw22_awake S0 K w ?_
  refine DNew_spec fun w1 bd g1 hbd hd => ⟨_, rfl, h0.after g1, ?_⟩
  refine Open0_spec (N := w.heap.size) (each := 8) hd hbd g1.size (by decide) (by decide) fun w2 x g2 hx e1 e2 e3 e4 e5 hp => ⟨_, _, rfl, h0.after (g1.trans g2), fun _ => fun b3 hb3 w3 hF3 => ?_, (fun t x h => by cases h), .inl rfl⟩
  have g3 : Grow w2 w3 := hF3.grow
  have g12 := g1.trans g2
  have hx3 := hx.grow g3
  have s1 := g12.size
  have s3 := g3.size
  have hroom : x.room = 200000 := by rw [PubS.room, e5]; rfl
  have step : ∀ {L : List Blk} {wa wb : World} {x : PubS}, Fs S0 w L wa → PubAt w.heap.size wa x → Chg x.reg wa wb → (∀ y, y ∈ L → ¬ x.reg y.b) → Fs S0 w L wb := fun hF hx g hL => hF.step g hL fun k hk e => by have := hx.lo k e; omega
  have hl3 : ∀ y, y ∈ [(⟨b3, #[.int .i64 0, .int .i64 1], T.api_Edge, true⟩ : Blk)] → ¬ x.reg y.b := fun y hy e => by simp at hy; subst hy; have := hx.lt _ e; simp only [] at this; omega
  have hs3 : Sl w3 (some ⟨b3, 0, none⟩) (encE [(0, 1)]) := hF3.sl 0 rfl
  refine Publish_spec hx3 (by omega) hs3 rfl (by decide) (fun w4 x4 hx4 g4 f1 f2 f3 f4 f5 f6 fr fx f7 f8 => ?_) fun w4 v g4 hx4 hv hno => ?_
  · rw [f4, e3]
    refine ⟨_, _, rfl, _, _, step hF3.reset hx3 g4 hl3, ?_⟩
    have hF4 := (step hF3.reset hx3 g4 hl3).sub (L' := []) (List.nil_sublist _)
    have s4 := hF4.gr.size
    rw [← f1]
    refine Publish_spec (l := []) hx4 (by omega) (.nil _ _) rfl (by decide) (fun w5 x5 hx5 g5 i1 i2 i3 i4 i5 i6 ir ix i7 i8 => ?_) fun w5 v g5 hx5 hv hno => ?_
    · have hF5 := step hF4 hx4 g5 (fun y hy => by cases hy)
      rw [i4, f4, e3]
      refine ⟨_, _, rfl, hF5, fun _ => ⟨fun _ => ⟨fun _ => ⟨fun _ => ?_, (fun t x h => by cases h), .inl rfl⟩, (fun t x h => by cases h), .inl rfl⟩, fun h => absurd rfl h⟩, fun h => absurd rfl h⟩
      rw [← i1]
      refine Commit_spec hx5 hF5.gr.size (by decide) (fun w6 x6 hx6 g6 j1 j2 j3 j4 j5 j6 jr jm jl jx j7 j8 => ?_) fun w6 v g6 hx6 hv hno => ?_
      · have hF6 := step hF5 hx5 g6 (fun y hy => by cases hy)
        refine ⟨_, rfl, hF6, fun _ => ?_, (fun t x h => by cases h), .inl rfl⟩
        rw [← j1]
        refine Committed_spec hx6 ⟨_, rfl, hF6, fun _ => hK w6 hF6.gr, fun h => absurd j5.symm h⟩
      · have hr4 : (x4.room : Int) ≤ x5.room + 2700 + 9 * 3 + 8 * (0 : Nat) := ir
        have hr3 : (x.room : Int) ≤ x4.room + 2700 + 9 * 2 + 8 * (1 : Nat) := fr
        exact absurd ⟨by rw [i5, f5, e4]; omega, by rw [i4, f4, e3]; omega, by rw [i4, f4, e3]; omega, by omega⟩ hno
    · have hr3 : (x.room : Int) ≤ x4.room + 2700 + 9 * 2 + 8 * (1 : Nat) := fr
      refine absurd ⟨⟨⟨by decide, by decide, by decide, fun e he => by cases he⟩, by rw [f3, e2]; decide, by decide⟩, by decide, ?_⟩ hno
      have : (2700 : Int) + 9 * 3 + 8 * (([] : List (Int × Int)).length : Nat) = 2727 := rfl
      rw [this]; omega
  · refine absurd ⟨⟨⟨by decide, by decide, by decide, fun e he => by simp at he; subst he; decide⟩, by rw [e2]; decide, by decide⟩, by decide, ?_⟩ hno
    rw [hroom]; decide
/-- an element of a row of elements of s cells -/
theorem flatK_at {α : Type} {s : Nat} {f : α → List Value} (hf : ∀ x, (f x).length = s) : ∀ {l : List α} {k j : Nat}, (h : k < l.length) → j < s → (l.flatMap f)[k * s + j]? = (f l[k])[j]?
  | a :: l, 0, j, h, hj => by
    rw [List.flatMap_cons, List.getElem?_append_left (by rw [hf]; omega)]; simp
  | a :: l, k + 1, j, h, hj => by
    have e : (k + 1) * s + j = s + (k * s + j) := by rw [Nat.add_mul]; omega
    rw [List.flatMap_cons, List.getElem?_append_right (by rw [hf]; omega), hf, e, Nat.add_sub_cancel_left, flatK_at hf (l := l) (k := k) (by simpa using h) hj]; rfl
theorem flatK_size {α : Type} {s : Nat} {f : α → List Value} (hf : ∀ x, (f x).length = s) : ∀ l : List α, (l.flatMap f).length = l.length * s
  | [] => by simp
  | a :: l => by rw [List.flatMap_cons, List.length_append, hf, flatK_size hf l, List.length_cons, Nat.add_mul]; omega
theorem Sl.rdN {α : Type} {s : Nat} {f : α → List Value} (hf : ∀ x, (f x).length = s) (h0 : 0 < s) {w : World} {q : Option Addr} {l : List α} (h : Sl w q (l.flatMap f)) {n : Int} {k m : Nat} {K : Addr → Prop} (hn : n = k) (hk : k < l.length) (hm : k < m)
    (hK : ∀ a, (∀ j v, (f l[k])[j]? = some v → w.cell? (a.add j) = some v) → K a) : Dr q (fun a => 0 ≤ n ∧ n < ((m : Nat) : Int) ∧ Dr (some (Addr.add a (n.toNat * s))) K) := by
  subst hn
  have hel := flatK_size hf l
  have hpos : k * s < l.length * s := Nat.mul_lt_mul_of_pos_right hk h0
  obtain ⟨b, o, rfl, hc⟩ := h.ex (by intro e; rw [e] at hel; simp at hel; omega)
  refine Dr_some.2 ⟨by omega, by omega, Dr_some.2 ?_⟩
  rw [add_mk, Int.toNat_natCast]
  refine hK _ fun j v hv => ?_
  have hj : j < s := by
    rcases Nat.lt_or_ge j s with h | h
    · exact h
    · rw [List.getElem?_eq_none (by rw [hf]; exact h)] at hv; cases hv
  have hb : k * s + j < (l.flatMap f).length := by
    rw [hel]
    have : (k + 1) * s ≤ l.length * s := Nat.mul_le_mul_right s hk
    rw [Nat.add_mul] at this; omega
  have := hc (k * s + j) hb
  rw [flatK_at hf hk hj, hv] at this
  rw [add_mk, Nat.add_assoc]; exact this
structure OpV where
  k : Int
  n : Int
  nodes : Int
  q : Option Addr
  l : List (Int × Int)
  c : Nat
  q2 : Option Addr
  l2 : Nat
  c2 : Nat
  n2 : Int
def opC (o : OpV) : List Value := [.int .i64 o.k, .int .i64 o.n, .int .i64 o.nodes, .slice o.q o.l.length o.c, .slice o.q2 o.l2 o.c2, .int .i64 o.n2]
theorem opC_len (o : OpV) : (opC o).length = 6 := rfl
/-- what lies in the argument -/
structure OpsAt (w : World) (y : Option Addr) (ops : List OpV) : Prop where
  row : Sl w y (ops.flatMap opC)
  l : ∀ o ∈ ops, Sl w o.q (encE o.l)
  n : ∀ o ∈ ops, -9223372036854775808 ≤ o.n ∧ o.n ≤ 9223372036854775807
theorem OpsAt.grow {w w' : World} {y : Option Addr} {ops : List OpV} (h : OpsAt w y ops) (g : Grow w w') : OpsAt w' y ops := ⟨h.row.grow g, fun o ho => (h.l o ho).grow g, h.n⟩
theorem Great22_spec {w : World} {y : Option Addr} {n c : Nat} {ops : List OpV} (h : OpsAt w y ops) (hl : n = ops.length) {most : Int} (hm : most ≤ 1000) {K : Value → World → Prop}
    (h1 : ∀ w', Grow w w' → K (.bool true) w') (h2 : ∀ w', Grow w w' → ops.length ≤ most → (∀ o ∈ ops, o.l.length ≤ 60 ∧ o.nodes ≤ 100) → K (.bool false) w') : CallV PR F.ladinglaw22_Great ⟨[.slice y n c, .int .i64 most]⟩ w K := by
  subst hl
  refine ladinglaw22_Great y ops.length c most S0 K w ⟨fun _ => h1 w (.refl _ _), fun hle => ?_⟩
  refine ⟨fun i m w' => ∃ k : Nat, i = k ∧ k ≤ ops.length ∧ m = ops.length - k ∧ ∀ o ∈ ops.take k, o.l.length ≤ 60 ∧ o.nodes ≤ 100, ⟨_, 0, rfl, by omega, rfl, fun o ho => by simp at ho⟩, ?_⟩
  rintro i D m w1 ⟨k, rfl, hk, rfl, hall⟩ hF1
  refine ⟨fun hlt => ?_, fun hge => h2 w1 hF1.gr (by omega) ?_⟩
  · have hk' : k < ops.length := by omega
    refine (h.grow hF1.gr).row.rdN opC_len (by decide) rfl hk' hk' fun a hc => ?_
    have h6 : ∀ {L : List Blk} {M : List Nat} {l6 : Nat} {w2 : World}, w1.heap.size ≤ l6 → Fr S0 w w1 [l6] L w2 → Grow w w2 := fun _ hF => hF.gr
    refine ⟨_, hc 0 _ rfl, _, hc 1 _ rfl, _, hc 2 _ rfl, _, _, _, hc 3 _ rfl, _, _, _, hc 4 _ rfl, _, hc 5 _ rfl, fun l6 hl6 => ⟨fun _ w2 hF2 => h1 w2 hF2.gr, fun h60 => ⟨fun _ w2 hF2 => h1 w2 hF2.gr, fun h100 => ⟨fun _ w2 hF2 => h1 w2 hF2.gr, fun _ w4 hF4 => ⟨ops.length - (k + 1), by omega, k + 1, by rw [w64 (by omega) (by omega)]; rfl, by omega, rfl, fun o ho => ?_⟩⟩⟩⟩⟩
    rw [List.take_succ_eq_append_getElem hk', List.mem_append, List.mem_singleton] at ho
    rcases ho with ho | rfl
    · exact hall o ho
    · exact ⟨by omega, by omega⟩
  · have : k = ops.length := by omega
    subst this
    rw [List.take_length] at hall
    exact hall
end Go.Vc

/-! A part of the proof that two events of one line are one event: the calculus that follows known memory by computing, and its soundness. By an AI agent. -/







namespace Go.Vc
open Go Go.ChangeShapes Go.WideShapes Go.Deep
/-! ## what an argument reads, opened -/
noncomputable def flds (t : TypeId) : Option (List (Nat × Nat)) := match PR.underlying t with
  | some (.struct fs) => some (fs.toList.map fun f => (f.type, f.offset))
  | _ => none
theorem flds_of {t : TypeId} {l : List (Nat × Nat)} (h : flds t = some l) : ∃ fs : Array Field, PR.underlying t = some (.struct fs) ∧ fs.toList.map (fun f => (f.type, f.offset)) = l := by
  unfold flds at h
  split at h
  · rename_i fs hfs
    exact ⟨fs, hfs, Option.some.inj h⟩
  · cases h
theorem flds_at {fs : Array Field} {l : List (Nat × Nat)} (h : fs.toList.map (fun f => (f.type, f.offset)) = l) {i : Nat} {x : Nat × Nat} (hi : l[i]? = some x) : ∃ f, fs[i]? = some f ∧ f.type = x.1 ∧ f.offset = x.2 := by
  rw [← h, List.getElem?_map] at hi
  rw [← Array.getElem?_toList]
  cases hf : fs.toList[i]? with
  | none => rw [hf] at hi; cases hi
  | some f => rw [hf] at hi; cases hi; exact ⟨f, rfl, rfl, rfl⟩
theorem sl_of_cells {w : World} {a : Addr} {xs : List Value} (h : ∀ i, i < xs.length → w.cell? (a.add i) = xs[i]?) : Sl w (some a) xs := by
  cases xs with
  | nil => exact .inl rfl
  | cons x xs =>
    right
    have h0 := h 0 (by simp)
    have h0' : w.cell? a = some x := by simpa [Addr.add] using h0
    have hs := World.cell?_spot h0'
    obtain ⟨b, o, sp⟩ := a
    simp only at hs
    subst hs
    refine ⟨b, o, rfl, ?_⟩
    unfold World.cell? at h0'
    cases hb : w.heap[b]? with
    | none => simp [hb] at h0'
    | some ob =>
      cases ob with
      | cells cs T fz =>
        refine ⟨cs, T, fz, hb, fun i hi => ?_⟩
        have hh := h i hi
        have e : w.cell? ((⟨b, o, none⟩ : Addr).add i) = cs[o + i]? := by
          by_cases hi0 : i = 0
          · subst hi0; simp [Addr.add, World.cell?, hb]
          · simp [Addr.add, hi0, World.cell?, hb]
        rw [← e, hh]
      | _ => simp [hb] at h0'
/-- a slice of elements of s cells, each of which opens -/
theorem slice_of {α : Type} {s : Nat} {f : α → List Value} (hf : ∀ x, (f x).length = s) (hs0 : 0 < s) {t e : TypeId} (ht : PR.underlying t = some (.slice e)) (hc : PR.cellsOf e = s) {G : α → Prop} {H : Type} {enc : TypeId × Value → H} {w : World} {base : Nat} {spare : Nat → Bool} {held : Bool}
    (each : ∀ (n : Nat) (cs : List Value) x, DataW.trod enc PR w base spare held n e cs = some x → cs.length = s → ∃ a : α, cs = f a ∧ G a) {fuel : Nat} {v : Value} {x : DataW H × List MemPlace} (h : DataW.trod enc PR w base spare held fuel t [v] = some x) :
    ∃ (q : Option Addr) (l : List α) (c : Nat), v = .slice q l.length c ∧ Sl w q (l.flatMap f) ∧ (∀ a ∈ l, G a) ∧ l.length ≤ c := by
  rcases open_slice ht h with ⟨e1, _⟩ | ⟨a, len, cap, m, n, D, Pl, e1, _, hlc, _, hm, _, hx⟩
  · cases e1
    exact ⟨none, [], 0, rfl, .inl rfl, (fun a ha => by cases ha), Nat.le_refl _⟩
  · cases e1
    rw [hc] at hx
    have hlm : len ≤ m := by rw [hm]; split <;> omega
    have ea : ∀ i, i < len → ∃ z : α, (∀ j v, (f z)[j]? = some v → w.cell? (a.add (i * s + j)) = some v) ∧ G z := by
      intro i hi
      obtain ⟨cs', h1, h2⟩ := hx i (by omega)
      obtain ⟨_, hlen, hcell⟩ := World.cells?_some h1
      obtain ⟨z, rfl, hz⟩ := each n cs' _ h2 hlen
      refine ⟨z, fun j v hj => ?_, hz⟩
      have hjl : j < s := by
        rcases Nat.lt_or_ge j s with h | h
        · exact h
        · rw [List.getElem?_eq_none (by rw [hf]; exact h)] at hj; cases hj
      have := hcell j hjl
      rw [add_add] at this
      rw [this, hj]
    have hne : len = 0 ∨ Nonempty α := by
      rcases Nat.eq_zero_or_pos len with h | h
      · exact .inl h
      · obtain ⟨z, _⟩ := ea 0 h; exact .inr ⟨z⟩
    rcases hne with h0 | ⟨⟨z0⟩⟩
    · subst h0
      exact ⟨some a, [], cap, rfl, .inl rfl, (fun a ha => by cases ha), Nat.zero_le _⟩
    · have : Inhabited α := ⟨z0⟩
      obtain ⟨g, hg⟩ := choose_lt ea
      refine ⟨some a, (List.range len).map g, cap, by simp, sl_of_cells fun i hi => ?_, fun z hz => ?_, by simpa using hlc⟩
      · rw [flatK_size hf] at hi
        simp only [List.length_map, List.length_range] at hi
        have hk : i / s < len := Nat.div_lt_of_lt_mul (by rw [Nat.mul_comm]; exact hi)
        have hj : i % s < s := Nat.mod_lt _ hs0
        have e2 : i / s * s + i % s = i := by rw [Nat.mul_comm]; exact Nat.div_add_mod i s
        have h3 := flatK_at hf (l := (List.range len).map g) (k := i / s) (j := i % s) (by simpa using hk) hj
        rw [e2] at h3
        rw [h3]
        simp only [List.getElem_map, List.getElem_range]
        have hlt : i % s < (f (g (i / s))).length := by rw [hf]; exact hj
        have := (hg (i / s) hk).1 (i % s) _ (List.getElem?_eq_getElem hlt)
        rw [e2] at this
        rw [this, List.getElem?_eq_getElem hlt]
      · obtain ⟨i, hi, rfl⟩ := List.mem_map.1 hz
        exact (hg i (List.mem_range.1 hi)).2
theorem int_range {n : Int} (h : (Lit.int .i64 n).wf = true) : -9223372036854775808 ≤ n ∧ n ≤ 9223372036854775807 := by
  simp [Lit.wf, IntKind.min, IntKind.max, IntKind.bits, IntKind.signed] at h; omega
theorem fe : flds T.api_Edge = some [(3, 0), (3, 1)] := by kernel_rfl
theorem fo : flds T.ladinglaw22_Op = some [(3, 0), (3, 1), (3, 2), (32, 3), (35, 4)] := by kernel_rfl
theorem fp : flds T.disk_Plan = some [(33, 0), (3, 1)] := by kernel_rfl
theorem u3 : PR.underlying 3 = some (.int .i64) := by kernel_rfl
theorem u32 : PR.underlying 32 = some (.slice 65) := by kernel_rfl
theorem u33 : PR.underlying 33 = some (.slice 4) := by kernel_rfl
theorem u22 : PR.underlying 22 = some (.slice 37) := by kernel_rfl
theorem u4 : PR.underlying 4 = some .bool := by kernel_rfl
theorem c3 : PR.cellsOf 3 = 1 := by kernel_rfl
theorem c32 : PR.cellsOf 32 = 1 := by kernel_rfl
theorem c33 : PR.cellsOf 33 = 1 := by kernel_rfl
theorem c35 : PR.cellsOf 35 = 2 := by kernel_rfl
theorem c37 : PR.cellsOf 37 = 6 := by kernel_rfl
theorem c65 : PR.cellsOf 65 = 2 := by kernel_rfl
section
variable {H : Type} {enc : TypeId × Value → H} {w : World} {base : Nat} {spare : Nat → Bool} {held : Bool}
/-- the fields of a struct -/
theorem struct_of {t : TypeId} {l : List (Nat × Nat)} (hl : flds t = some l) {n : Nat} {cs : List Value} {x : DataW H × List MemPlace} (h : DataW.trod enc PR w base spare held n t cs = some x) :
    ∃ m, ∀ (i : Nat) (p : Nat × Nat), l[i]? = some p → ∃ y, DataW.trod enc PR w base spare held m p.1 ((cs.drop p.2).take (PR.cellsOf p.1)) = some y := by
  obtain ⟨fs, hu, hm⟩ := flds_of hl
  obtain ⟨xs, m, _, _, _, hxl, hg⟩ := DataW.trod_struct hu h
  refine ⟨m, fun i p hi => ?_⟩
  obtain ⟨f, h1, h2, h3⟩ := flds_at hm hi
  have := hg i f h1
  rw [h2, h3] at this
  have hil : i < xs.length := by
    rw [hxl]
    rcases Nat.lt_or_ge i fs.size with h | h
    · exact h
    · rw [Array.getElem?_eq_none h] at h1; cases h1
  exact ⟨_, this.trans (List.getElem?_eq_getElem hil)⟩
theorem edges_of {fuel : Nat} {v : Value} {x : DataW H × List MemPlace} (h : DataW.trod enc PR w base spare held fuel 32 [v] = some x) : ∃ (q : Option Addr) (l : List (Int × Int)) (c : Nat), v = .slice q l.length c ∧ Sl w q (encE l) := by
  obtain ⟨q, l, c, h1, h2, _⟩ := slice_of (α := Int × Int) (s := 2) (f := fun e => [iv e.1, iv e.2]) (fun _ => rfl) (by decide) u32 c65 (G := fun _ => True) (fun n cs x hx hlen => by
    obtain ⟨m, hm⟩ := struct_of fe hx
    obtain ⟨y0, h0⟩ := hm 0 _ rfl
    obtain ⟨y1, h1⟩ := hm 1 _ rfl
    match cs, hlen with
    | [v0, v1], _ =>
      rw [show PR.cellsOf (3, 0).1 = 1 from c3] at h0
      rw [show PR.cellsOf (3, 1).1 = 1 from c3] at h1
      obtain ⟨n0, e0, _, _⟩ := DataW.trod_int u3 h0
      obtain ⟨n1, e1, _, _⟩ := DataW.trod_int u3 h1
      obtain rfl : v0 = .int .i64 n0 := (List.cons.inj e0).1
      obtain rfl : v1 = .int .i64 n1 := (List.cons.inj e1).1
      exact ⟨(n0, n1), rfl, trivial⟩) h
  exact ⟨q, l, c, h1, h2⟩
theorem op_of {n : Nat} {cs : List Value} {x : DataW H × List MemPlace} (hx : DataW.trod enc PR w base spare held n 37 cs = some x) (hlen : cs.length = 6) :
    ∃ o : OpV, cs = opC o ∧ Sl w o.q (encE o.l) ∧ -9223372036854775808 ≤ o.n ∧ o.n ≤ 9223372036854775807 := by
  obtain ⟨m, hm⟩ := struct_of fo hx
  obtain ⟨y0, h0⟩ := hm 0 _ rfl
  obtain ⟨y1, h1⟩ := hm 1 _ rfl
  obtain ⟨y2, h2⟩ := hm 2 _ rfl
  obtain ⟨y3, h3⟩ := hm 3 _ rfl
  obtain ⟨y4, h4⟩ := hm 4 _ rfl
  match cs, hlen with
  | [v0, v1, v2, v3, v4, v5], _ =>
    rw [show PR.cellsOf (3, 0).1 = 1 from c3] at h0
    rw [show PR.cellsOf (3, 1).1 = 1 from c3] at h1
    rw [show PR.cellsOf (3, 2).1 = 1 from c3] at h2
    rw [show PR.cellsOf (32, 3).1 = 1 from c32] at h3
    rw [show PR.cellsOf (35, 4).1 = 2 from c35] at h4
    obtain ⟨n0, e0, _, _⟩ := DataW.trod_int u3 h0
    obtain ⟨n1, e1, _, r1⟩ := DataW.trod_int u3 h1
    obtain ⟨n2, e2, _, _⟩ := DataW.trod_int u3 h2
    obtain ⟨q, l, c, e3, s3⟩ := edges_of (v := v3) h3
    obtain ⟨m', hm'⟩ := struct_of fp h4
    obtain ⟨z0, g0⟩ := hm' 0 _ rfl
    obtain ⟨z1, g1⟩ := hm' 1 _ rfl
    rw [show PR.cellsOf (33, 0).1 = 1 from c33] at g0
    rw [show PR.cellsOf (3, 1).1 = 1 from c3] at g1
    obtain ⟨n5, e5, _, _⟩ := DataW.trod_int u3 g1
    obtain rfl : v0 = .int .i64 n0 := (List.cons.inj e0).1
    obtain rfl : v1 = .int .i64 n1 := (List.cons.inj e1).1
    obtain rfl : v2 = .int .i64 n2 := (List.cons.inj e2).1
    obtain rfl : v5 = .int .i64 n5 := (List.cons.inj e5).1
    subst e3
    have hv4 : ∃ q2 l2 c2, v4 = .slice q2 l2 c2 := by
      rcases open_slice u33 g0 with ⟨e1, _⟩ | ⟨a, len, cap, m, n, D, Pl, e1, _⟩
      · exact ⟨none, 0, 0, (List.cons.inj e1).1⟩
      · exact ⟨some a, len, cap, (List.cons.inj e1).1⟩
    obtain ⟨q2, l2, c2, rfl⟩ := hv4
    exact ⟨⟨n0, n1, n2, q, l, c, q2, l2, c2, n5⟩, rfl, s3, int_range r1⟩
theorem ops_of {fuel : Nat} {v : Value} {x : DataW H × List MemPlace} (h : DataW.trod enc PR w base spare held fuel 22 [v] = some x) : ∃ (q : Option Addr) (ops : List OpV) (c : Nat), v = .slice q ops.length c ∧ OpsAt w q ops := by
  obtain ⟨q, l, c, h1, h2, h3, _⟩ := slice_of opC_len (by decide) u22 c37 (G := fun o : OpV => Sl w o.q (encE o.l) ∧ -9223372036854775808 ≤ o.n ∧ o.n ≤ 9223372036854775807) (fun n cs x hx hlen => op_of hx hlen) h
  exact ⟨q, l, c, h1, h2, fun o ho => (h3 o ho).1, fun o ho => (h3 o ho).2⟩
end
end Go.Vc

/-! A part of the proof that two events of one line are one event: the calculus that follows known memory by computing, and its soundness. By an AI agent. -/














namespace Go.Vc
open Go Go.ChangeShapes Go.WideShapes Go.ChangeAt Go.RowKit Go.Proofs Go.Proofs.YtjfpofjppjaofaaGreat
section
variable {H : Type} {enc : TypeId × Value → H} {P : Program}
theorem post_of_below {f : Func} {s : ChangeSpec} {apart fresh handsOn again : Bool} {W W' : World} {args : Array Value} {v : Value} {ds gs : List (DataW H)} {before pa pv : List MemPlace}
    (hW : DataW.Whole enc P f.params.toList s.vars apart W args.toList ds gs before)
    (hres : ∀ (b : Nat) (sp : Nat → Bool) (hd : Bool), DataW.TrodAll enc P W' b sp hd f.resultTypes.toList (v.resultList f.resultTypes.size) (s.fn H (ds ++ gs)).results [])
    (hargs : ∀ sp : Nat → Bool, (∀ p ∈ before, sp p.block = true) → DataW.TrodAll enc P W' 0 sp true f.params.toList args.toList (s.fn H (ds ++ gs)).args pa)
    (hvars : ∀ sp : Nat → Bool, (∀ p ∈ before, sp p.block = true) → DataW.TrodVars enc P W' sp s.vars (s.fn H (ds ++ gs)).vars pv)
    (hps : before = pa ++ pv) (hb : Below W.heap.size W W')
    (hok : ∀ (j : Nat) (t : TypeId) (r : Value), f.resultTypes[j]? = some t → (v.resultList f.resultTypes.size)[j]? = some r → Value.okWide P W' .any 0 t r) :
    s.post enc P f apart fresh handsOn again W args v W' := by
  have hlt : ∀ p ∈ before, p.block < W.heap.size := fun p hp => hW.lt p hp
  have hold : ∀ p ∈ before, (fun b => decide (b < W.heap.size)) p.block = true := fun p hp => by simpa using hlt p hp
  refine ⟨ds, gs, before, [], pa, pv, hW, hres _ _ _, hargs _ hold, hvars _ hold, World.keptBut_mono (fun p hp => ⟨hp, ?_⟩) (hb.frame (· ∈ before)), fun _ => ?_⟩
  · rw [hps, List.mem_append] at hp
    exact Or.inr hp
  · obtain ⟨_, _, _, _, _, hz, hn⟩ := hW
    refine ⟨hok, _, _, ([] ++ pa) ++ pv, ⟨[] ++ pa, pv, trodAll_append (hargs _ (fun _ _ => rfl)) (hres _ _ _), hvars _ (fun _ _ => rfl), rfl, ?_, ?_⟩, ?_⟩
    · intro b off hp
      have hin : MemPlace.cell b off ∈ before := by rw [hps]; simpa using hp
      rw [hb.frozen (hlt _ hin)]
      exact hz b off hin
    · intro ha
      have := hn ha
      rw [hps] at this
      simpa using this
    · intro p hp _
      rw [hps]
      simpa using hp
end
theorem below_of_grow {w w' : World} (h : Grow w w') : Below w.heap.size w w' := ⟨h.os, h.tape, h.output, h.size, fun k hk => h.block k hk (fun e => e)⟩
theorem own : ownKnob PR.godebug = none := by kernel_rfl
theorem lay : laidOutB PR = true := by kernel_rfl
end Go.Vc

/-! A part of the proof that two events of one line are one event: the calculus that follows known memory by computing, and its soundness. By an AI agent. -/


namespace Go.Vc
open Go
/-! P15: conditions printed by a program of ours, checked by the kernel -/
/-- lading/pub.parse -/
theorem pub_parse' (z0 : ByteArray) (S : Nat → Prop) (K : Value → World → Prop) (w : World) (h : CallV Proofs.Tryz.prog 53 (#[.string z0, .int .i64 1]) w (fun v0 w0 => ∃ n0 : Int, ∃ n1 : Int, ∃ v1 : Value, v0 = .tuple (#[.int .i64 n0, .int .i64 n1, v1]) ∧ Fs S w [] w0 ∧ ((v1 : Value) = .nilIface → (n0 > IntKind.wrap .i64 ((((ByteArray.size z0 : Nat) : Int) - n1)) → K (.tuple (#[.pointer none, .bool false])) w0) ∧ (¬ (n0 > IntKind.wrap .i64 ((((ByteArray.size z0 : Nat) : Int) - n1))) → (0 : Int) ≤ IntKind.wrap .i64 ((n1 + n0)) ∧ IntKind.wrap .i64 ((n1 + n0)) ≤ ((ByteArray.size z0 : Nat) : Int) ∧ (0 : Int) ≤ n1 ∧ n1 ≤ ((Int.toNat (IntKind.wrap .i64 ((n1 + n0))) : Nat) : Int) ∧ CallV Proofs.Tryz.prog 78 (#[.string (ByteArray.extract z0 (Int.toNat n1) (Int.toNat (IntKind.wrap .i64 ((n1 + n0)))))]) w0 (fun v2 w1 => ∃ n2 : Int, ∃ n3 : Int, ∃ n4 : Int, ∃ q0 : Option Addr, ∃ l0 : Nat, ∃ l1 : Nat, ∃ n5 : Int, ∃ s0 : ByteArray, ∃ v3 : Value, v2 = .tuple (#[.agg (#[.int .i64 n2, .int .i64 n3, .int .i64 n4, .slice q0 l0 l1, .int .i64 n5, .string s0]), v3]) ∧ Fs S w [] w1 ∧ ∀ l2 : Nat, w1.heap.size ≤ l2 → ((v3 : Value) = .nilIface → (0 : Int) ≤ IntKind.wrap .i64 ((n1 + n0)) ∧ IntKind.wrap .i64 ((n1 + n0)) ≤ ((ByteArray.size z0 : Nat) : Int) ∧ ∀ l3 : Nat, w1.heap.size ≤ l3 → ∀ w2 : World, Fr S w w1 [l2] ([⟨l2, #[.int .i64 n2, .int .i64 n3, .int .i64 n4, .slice q0 l0 l1, .int .i64 n5, .string s0], 92, true⟩, ⟨l3, #[.string (ByteArray.extract z0 (Int.toNat (IntKind.wrap .i64 ((n1 + n0)))) (ByteArray.size z0))], 9, true⟩]) w2 → CallV Proofs.Tryz.prog 56 (#[.slice (some (⟨l3, 0, none⟩)) 1 1]) w2 (fun v4 w3 => ∃ q1 : Option Addr, ∃ l4 : Nat, ∃ l5 : Nat, v4 = .slice q1 l4 l5 ∧ Fs S w ([⟨l2, #[.int .i64 n2, .int .i64 n3, .int .i64 n4, .slice q0 l0 l1, .int .i64 n5, .string s0], 92, true⟩, ⟨l3, #[.string (ByteArray.extract z0 (Int.toNat (IntKind.wrap .i64 ((n1 + n0)))) (ByteArray.size z0))], 9, true⟩]) w3 ∧ (((l4 : Nat) : Int) = n5 → ∀ w4 : World, Fr S w w3 [] ([⟨l2, #[.int .i64 n2, .int .i64 n3, .int .i64 n4, .slice q0 l0 l1, .int .i64 n5, .string s0], 92, true⟩]) w4 → CallV Proofs.Tryz.prog 59 (#[.slice q1 l4 l5]) w4 (fun v5 w5 => ∃ s1 : ByteArray, v5 = .string s1 ∧ Fs S w ([⟨l2, #[.int .i64 n2, .int .i64 n3, .int .i64 n4, .slice q0 l0 l1, .int .i64 n5, .string s0], 92, true⟩]) w5 ∧ (s1 = s0 → ∀ l6 : Nat, w5.heap.size ≤ l6 → ∀ w6 : World, Fr S w w5 [] ([⟨l6, #[.int .i64 n2, .int .i64 n3, .int .i64 n4, .slice q0 l0 l1, .int .i64 n5, .string s0, .slice q1 l4 l5], 94, true⟩]) w6 → K (.tuple (#[.pointer (some (⟨l6, 0, none⟩)), .bool true])) w6) ∧ (¬ (s1 = s0) → K (.tuple (#[.pointer none, .bool false])) w5))) ∧ (¬ (((l4 : Nat) : Int) = n5) → ∀ w7 : World, Fr S w w3 [] [] w7 → K (.tuple (#[.pointer none, .bool false])) w7))) ∧ (∀ x0 : Nat, ∀ v6 : Value, (v3 : Value) = .iface x0 v6 → ∀ w8 : World, Fr S w w1 [l2] [] w8 → K (.tuple (#[.pointer none, .bool false])) w8) ∧ ((v3 : Value) = .nilIface ∨ ∃ l7 : Nat, ∃ v7 : Value, (v3 : Value) = .iface l7 v7)))) ∧ (∀ x1 : Nat, ∀ v8 : Value, (v1 : Value) = .iface x1 v8 → K (.tuple (#[.pointer none, .bool false])) w0) ∧ ((v1 : Value) = .nilIface ∨ ∃ l8 : Nat, ∃ v9 : Value, (v1 : Value) = .iface l8 v9))) : CallV Go.Proofs.Tryz.prog 52 ⟨[.string z0]⟩ w K :=
  call_of_vc4 (okf := ⟨okL, []⟩) okL_ok (args := [.c (.v (.string z0))]) (H := []) (.s .z (.s (.r ⟨(some []), false, [], []⟩) (.s .z (.s (.r ⟨(some []), false, [], []⟩) (.s .z (.s (.r ⟨(some [7]), false, [], []⟩) (.s (.s (.r ⟨(some [7]), false, [], []⟩) .z) (.s (.r ⟨(some [7]), false, [], []⟩) .z)))))))) Go.Proofs.Tryz.func52 rfl ⟨trivial, trivial⟩ trivial (Fr.init S w) trivial (cast_vc (by kernel_rfl) h)


/-- strings.HasPrefix -/
theorem strings_HasPrefix (z0 : ByteArray) (z1 : ByteArray) (S : Nat → Prop) (K : Value → World → Prop) (w : World) (h : CallV Proofs.Tryz.prog 77 (#[.string z0, .string z1]) w (fun v0 w0 => ∃ b0 : Bool, v0 = .bool b0 ∧ (b0 = true → Fs S w [] w0 ∧ K (.bool true) w0) ∧ (b0 = false → Fs S w [] w0 ∧ K (.bool false) w0))) : CallV Go.Proofs.Tryz.prog 51 ⟨[.string z0, .string z1]⟩ w K :=
  call_of_vc3 (okf := ⟨okL, []⟩) okL_ok (args := [.c (.v (.string z0)), .c (.v (.string z1))]) (H := []) (.s .z (.s (.r ⟨(some []), false, [], []⟩) .z)) Go.Proofs.Tryz.func51 rfl ⟨trivial, trivial, trivial⟩ trivial (Fr.init S w) trivial (cast_vc (by kernel_rfl) h)


/-- internal/stringslite.HasPrefix -/
theorem internal_stringslite_HasPrefix (z0 : ByteArray) (z1 : ByteArray) (S : Nat → Prop) (K : Value → World → Prop) (w : World) (h : (((ByteArray.size z0 : Nat) : Int) ≥ ((ByteArray.size z1 : Nat) : Int) → (0 : Int) ≤ ((ByteArray.size z1 : Nat) : Int) ∧ ((ByteArray.size z1 : Nat) : Int) ≤ ((ByteArray.size z0 : Nat) : Int) ∧ ((ByteArray.extract z0 0 (Int.toNat (((ByteArray.size z1 : Nat) : Int))) : ByteArray) = z1 → K (.bool true) w) ∧ (¬ ((ByteArray.extract z0 0 (Int.toNat (((ByteArray.size z1 : Nat) : Int))) : ByteArray) = z1) → K (.bool false) w)) ∧ (¬ (((ByteArray.size z0 : Nat) : Int) ≥ ((ByteArray.size z1 : Nat) : Int)) → K (.bool false) w)) : CallV Go.Proofs.Tryz.prog 77 ⟨[.string z0, .string z1]⟩ w K :=
  call_of_vc3 (okf := ⟨okL, []⟩) okL_ok (args := [.c (.v (.string z0)), .c (.v (.string z1))]) (H := []) .z Go.Proofs.Tryz.func77 rfl ⟨trivial, trivial, trivial⟩ trivial (Fr.init S w) trivial (cast_vc (by kernel_rfl) h)


/-- (*lading/manifest.reader).short -/
theorem manifest_short (k0 : Nat) (z1 : ByteArray) (m2 : Int) (u3 : Value) (S : Nat → Prop) (K : Value → World → Prop) (w : World) (hF : Fs S w [⟨k0, #[.string z1, .int .i64 m2, u3], 191, true⟩] w) (hS : S k0 ∧ True) (h : ((u3 : Value) = .nilIface → (∀ w0 : World, Fr S w w [] ([⟨k0, #[.string z1, .int .i64 m2, u3], 191, true⟩]) w0 → CallV Proofs.Tryz.prog 53 (#[.string z1, .int .i64 m2]) w0 (fun v0 w1 => ∃ n0 : Int, ∃ n1 : Int, ∃ v1 : Value, v0 = .tuple (#[.int .i64 n0, .int .i64 n1, v1]) ∧ Fs S w ([⟨k0, #[.string z1, .int .i64 m2, u3], 191, true⟩]) w1 ∧ (oneC v1 : Bool) = true ∧ ∀ w2 : World, Fr S w w1 [k0, k0] ([⟨k0, #[.string z1, .int .i64 n1, v1], 191, true⟩]) w2 → K (.int .i64 n0) w2)) ∧ ∀ w3 : World, Fr S w w [] ([⟨k0, #[.string z1, .int .i64 m2, u3], 191, true⟩]) w3 → CallV Proofs.Tryz.prog 53 (#[.string z1, .int .i64 m2]) w3 (fun v2 w4 => ∃ n2 : Int, ∃ n3 : Int, ∃ v3 : Value, v2 = .tuple (#[.int .i64 n2, .int .i64 n3, v3]) ∧ Fs S w ([⟨k0, #[.string z1, .int .i64 m2, u3], 191, true⟩]) w4 ∧ (oneC v3 : Bool) = true ∧ ∀ w5 : World, Fr S w w4 [k0, k0] ([⟨k0, #[.string z1, .int .i64 n3, v3], 191, true⟩]) w5 → K (.int .i64 n2) w5)) ∧ (∀ x0 : Nat, ∀ v4 : Value, (u3 : Value) = .iface x0 v4 → K (.int .i64 0) w) ∧ ((u3 : Value) = .nilIface ∨ ∃ l0 : Nat, ∃ v5 : Value, (u3 : Value) = .iface l0 v5)) : CallV Go.Proofs.Tryz.prog 105 ⟨[.pointer (some ⟨k0, 0, none⟩)]⟩ w K :=
  call_of_vc3 (okf := ⟨okL, []⟩) okL_ok (args := [.c (.p 0 k0 true 0)]) (H := [⟨k0, .l [.v (.string z1), .v (.int .i64 m2), .v u3], 191, true⟩]) (.s .z (.s .z (.s .z (.s (.r ⟨(some [0]), false, [0], [(998, [])]⟩) .z)))) Go.Proofs.Tryz.func105 rfl ⟨rfl, trivial⟩ ⟨⟨trivial, ⟨trivial, ⟨trivial, trivial⟩⟩⟩, trivial⟩ hF hS (cast_vc (by kernel_rfl) h)


end Go.Vc

/-! A part of the proof that two events of one line are one event: the calculus that follows known memory by computing, and its soundness. By an AI agent. -/




namespace Go.Vc
open Go
/-! ## what is read of a manifest's bytes (manifest): contracts -/
theorem ShortAt_spec {l r : List UInt8} {at_ : Nat} {n : Int} (hl : l.length ≤ 1099511627776) (hn : 0 ≤ n ∧ n ≤ 72057594037927935) (hat : at_ ≤ l.length) (hd : l.drop at_ = putShort n.toNat ++ r) {w : World} {K : Value → World → Prop}
    (hK : K (.tuple #[.int .i64 n, .int .i64 ((at_ + (putShort n.toNat).length : Nat) : Int), .nilIface]) w) : CallV PR F.octet_Short ⟨[.string (str l), .int .i64 (at_ : Int)]⟩ w K := by
  refine Short_spec (by rw [str_size]; omega) (fun h => absurd ⟨by omega, by rw [str_size]; omega⟩ h) fun _ => ?_
  rw [str_data, Int.toNat_natCast, hd, getShort_of (by omega)]
  show K (.tuple #[.int .i64 ((n.toNat : Nat) : Int), .int .i64 ((at_ : Int) + ((putShort n.toNat).length : Nat)), .nilIface]) w
  rw [show ((n.toNat : Nat) : Int) = n by omega, show (at_ : Int) + ((putShort n.toNat).length : Nat) = ((at_ + (putShort n.toNat).length : Nat) : Int) by omega]
  exact hK
theorem TextAt_spec {l t r : List UInt8} {at_ : Nat} (hl : l.length ≤ 1099511627776) (hat : at_ ≤ l.length) (hd : l.drop at_ = putShort t.length ++ (t ++ r)) {w : World} {K : Value → World → Prop}
    (hK : K (.tuple #[.string (str t), .int .i64 ((at_ + (putShort t.length).length + t.length : Nat) : Int), .nilIface]) w) : CallV PR F.octet_Text ⟨[.string (str l), .int .i64 (at_ : Int), .int .i64 72057594037927935]⟩ w K := by
  have hlen : l.length - at_ = (putShort t.length).length + (t.length + r.length) := by rw [← List.length_drop, hd, List.length_append, List.length_append]
  refine octet_Text (str l) at_ 72057594037927935 S0 K w (ShortAt_spec (n := ((t.length : Nat) : Int)) hl (by omega) hat hd ⟨_, _, _, rfl, .init _ w, fun _ => ⟨fun h => by omega, fun _ => ⟨fun h => ?_, fun _ => ?_⟩⟩, (fun t x h => by cases h), .inl rfl⟩)
  · rw [str_size, Int.toNat_natCast, w64 (by omega) (by omega)] at h; omega
  · rw [str_size, Int.toNat_natCast, w64 (by omega) (by omega)]
    refine ⟨by omega, by omega, by omega, by omega, ?_⟩
    have ex : ByteArray.extract (str l) (Int.toNat ((at_ + (putShort t.length).length : Nat) : Int)) (Int.toNat (((at_ + (putShort t.length).length : Nat) : Int) + ((t.length : Nat) : Int))) = str t := by
      rw [extract_str, show Int.toNat ((at_ + (putShort t.length).length : Nat) : Int) = at_ + (putShort t.length).length by omega, ← List.drop_drop, hd, List.drop_left' rfl, List.take_left' (by omega)]
    rw [ex, show ((at_ + (putShort t.length).length : Nat) : Int) + ((t.length : Nat) : Int) = ((at_ + (putShort t.length).length + t.length : Nat) : Int) by omega]
    exact hK
def posL (nums : List Int) (k : Nat) : Nat := (shorts (nums.take k)).length
theorem shorts_two (nums : List Int) (k : Nat) : shorts nums = shorts (nums.take k) ++ shorts (nums.drop k) := by
  unfold shorts; rw [← List.flatMap_append, List.take_append_drop]
theorem shorts_split {nums : List Int} {k : Nat} (hk : k < nums.length) (tail : List UInt8) : (shorts nums ++ tail).drop (posL nums k) = putShort nums[k].toNat ++ (shorts (nums.drop (k + 1)) ++ tail) := by
  have e : shorts (nums.drop k) = putShort nums[k].toNat ++ shorts (nums.drop (k + 1)) := by rw [List.drop_eq_getElem_cons hk]; unfold shorts; rw [List.flatMap_cons]
  rw [shorts_two nums k, List.append_assoc, posL, List.drop_left' rfl, e, List.append_assoc]
theorem posL_succ {nums : List Int} {k : Nat} (hk : k < nums.length) : posL nums (k + 1) = posL nums k + (putShort nums[k].toNat).length := by
  unfold posL; rw [shorts_next hk, List.length_append]
theorem posL_le (nums : List Int) (k : Nat) (tail : List UInt8) : posL nums k ≤ (shorts nums ++ tail).length := by
  rw [shorts_two nums k, posL, List.append_assoc, List.length_append]; omega
theorem rshort_spec {nums : List Int} {tail : List UInt8} {k : Nat} (hl : (shorts nums ++ tail).length ≤ 1099511627776) (hn : ∀ n ∈ nums, 0 ≤ n ∧ n ≤ 72057594037927935) (hk : k < nums.length) {w : World} {b : Nat}
    (hb : w.heap[b]? = some (.cells #[.string (str (shorts nums ++ tail)), .int .i64 (posL nums k : Nat), .nilIface] T.manifest_reader (0, 0))) {K : Value → World → Prop}
    (hK : ∀ w', w'.heap[b]? = some (.cells #[.string (str (shorts nums ++ tail)), .int .i64 (posL nums (k + 1) : Nat), .nilIface] T.manifest_reader (0, 0)) → Chg (· = b) w w' → K (.int .i64 nums[k]) w') : CallV PR F.p_manifest_reader_short ⟨[.pointer (some ⟨b, 0, none⟩)]⟩ w K := by
  have one : ∀ w0 : World, Fr (· = b) w w [] [⟨b, #[.string (str (shorts nums ++ tail)), .int .i64 (posL nums k : Nat), .nilIface], T.manifest_reader, true⟩] w0 → CallV PR F.octet_Short #[.string (str (shorts nums ++ tail)), .int .i64 (posL nums k : Nat)] w0 (fun v0 w1 => ∃ n0 : Int, ∃ n1 : Int, ∃ v1 : Value, v0 = .tuple #[.int .i64 n0, .int .i64 n1, v1] ∧ Fs (· = b) w [⟨b, #[.string (str (shorts nums ++ tail)), .int .i64 (posL nums k : Nat), .nilIface], T.manifest_reader, true⟩] w1 ∧ (oneC v1 : Bool) = true ∧ ∀ w2 : World, Fr (· = b) w w1 [b, b] [⟨b, #[.string (str (shorts nums ++ tail)), .int .i64 n1, v1], T.manifest_reader, true⟩] w2 → K (.int .i64 n0) w2) := fun w0 hF0 => by
    refine ShortAt_spec hl (hn _ (List.getElem_mem hk)) (posL_le _ _ _) (shorts_split hk tail) ⟨_, _, _, rfl, hF0.reset, rfl, fun w2 hF2 => ?_⟩
    rw [← posL_succ hk] at hF2
    exact hK w2 (hF2.blk 0 rfl) hF2.chg
  exact manifest_short b _ _ _ (· = b) K w ((Fr.init _ w).entry hb (fun x h => by cases h) fun _ => rfl) ⟨rfl, trivial⟩ ⟨fun _ => ⟨one, one⟩, (fun t x h => by cases h), .inl rfl⟩
end Go.Vc

/-! A part of the proof that two events of one line are one event: the calculus that follows known memory by computing, and its soundness. By an AI agent. -/

namespace Go.Vc
open Go
section
variable {S : Nat → Prop} {w0 wp w : World} {M : List Nat} {L : List Blk}
/-- a step that changes the j-th of the blocks -/
theorem Fr.modAt (h : Fr S w0 wp M L w) (j : Nat) {b : Nat} {cs cs' : Array Value} {T : TypeId} (hj : L[j]? = some ⟨b, cs, T, true⟩) (L' : List Blk) (hL : L' = L.set j ⟨b, cs', T, true⟩) {w' : World} (g : Chg (· = b) w w') (hb : w'.heap[b]? = some (.cells cs' T (0, 0))) : Fs S w0 L' w' := by
  subst hL
  have hm := List.mem_of_getElem? hj
  refine ⟨h.chg.trans g fun k hk e => ?_, .refl _ _, fun y hy => ?_, ?_, fun y hy hwy => ?_⟩
  · have e' : k = b := e
    subst e'
    rcases h.new _ hm rfl with h1 | h1
    · exact h1
    · simp only [] at h1; omega
  · rcases set_mem hy with rfl | ⟨i', hi', he⟩
    · exact hb
    · refine g.get (h.loc y (List.mem_of_getElem? he)) fun e => ?_
      have e' : y.b = b := e
      have h1 : (L.map (·.b))[i']? = some y.b := by simp [he]
      have h2 : (L.map (·.b))[j]? = some b := by simp [hj]
      rw [e'] at h1
      have hl1 : i' < (L.map (·.b)).length := (List.getElem?_eq_some_iff.1 h1).1
      exact hi' ((List.getElem?_inj hl1 h.nodup).1 (h1.trans h2.symm))
  · have : (L.set j ⟨b, cs', T, true⟩).map (·.b) = L.map (·.b) := by
      rw [List.map_set]
      apply List.ext_getElem?
      intro n
      rw [List.getElem?_set]
      split
      · rename_i e; subst e
        simp [hj]
        exact (List.getElem?_eq_some_iff.1 hj).1
      · rfl
    rw [this]; exact h.nodup
  · rcases set_mem hy with rfl | ⟨i', hi', he⟩
    · have := h.new _ hm rfl
      exact this
    · exact h.new y (List.mem_of_getElem? he) hwy
end
theorem pairs_at : ∀ (l : List (Int × Int)) (k : Nat) (hk : k < l.length), (pairsL l)[2 * k]? = some l[k].1 ∧ (pairsL l)[2 * k + 1]? = some l[k].2
  | (a, b) :: l, 0, _ => ⟨rfl, rfl⟩
  | (a, b) :: l, k + 1, hk => by
    have ih := pairs_at l k (by simpa using hk)
    have e : pairsL ((a, b) :: l) = a :: b :: pairsL l := rfl
    rw [e, show 2 * (k + 1) = 2 * k + 1 + 1 by omega, List.getElem?_cons_succ, List.getElem?_cons_succ, List.getElem?_cons_succ, List.getElem?_cons_succ]
    exact ih
theorem nums_len (m : Man) : m.nums.length = 5 + 2 * m.shards.length := by
  unfold Man.nums
  simp only [List.length_append, List.length_cons, List.length_nil, pairsL_len]; omega
theorem nums_fst (m : Man) {k : Nat} (hk : k < m.shards.length) (h : 4 + 2 * k < m.nums.length) : m.nums[4 + 2 * k] = m.shards[k].1 := by
  have h1 := (pairs_at m.shards k hk).1
  have hp := pairsL_len m.shards
  have e : m.nums[4 + 2 * k]? = some m.shards[k].1 := by
    unfold Man.nums
    rw [List.append_assoc, List.getElem?_append_right (by simp), List.getElem?_append_left (by simp; omega), ← h1]
    congr 1
    simp
  rw [List.getElem?_eq_getElem h] at e
  exact Option.some.inj e
theorem nums_snd (m : Man) {k : Nat} (hk : k < m.shards.length) (h : 5 + 2 * k < m.nums.length) : m.nums[5 + 2 * k] = m.shards[k].2 := by
  have h1 := (pairs_at m.shards k hk).2
  have hp := pairsL_len m.shards
  have e : m.nums[5 + 2 * k]? = some m.shards[k].2 := by
    unfold Man.nums
    rw [List.append_assoc, List.getElem?_append_right (by simp; omega), List.getElem?_append_left (by simp; omega), ← h1]
    congr 1
    simp; omega
  rw [List.getElem?_eq_getElem h] at e
  exact Option.some.inj e
theorem nums_last (m : Man) (h : 4 + 2 * m.shards.length < m.nums.length) : m.nums[4 + 2 * m.shards.length] = m.blocks := by
  have hp := pairsL_len m.shards
  have e : m.nums[4 + 2 * m.shards.length]? = some m.blocks := by
    unfold Man.nums
    rw [List.getElem?_append_right (by simp; omega)]
    simp only [List.length_append, List.length_cons, List.length_nil, hp]
    rw [show 4 + 2 * m.shards.length - (0 + 1 + 1 + 1 + 1 + 2 * m.shards.length) = 0 by omega]
    rfl
  rw [List.getElem?_eq_getElem h] at e
  exact Option.some.inj e
theorem MGet_ok {m : Man} (h : m.ok) {w : World} {K : Value → World → Prop}
    (hK : ∀ w' q c, Grow w w' → Own T.api_Shard 2 w' q c (encE m.shards) → m.shards.length ≤ c → Off (fun j => j < w.heap.size) q → K (.tuple #[mval m q c, .nilIface]) w') : CallV PR F.manifest_Get ⟨[.string (str (putMan m))]⟩ w K := by
  have hn := h.nums
  have hlen := putMan_len h
  have hnl := nums_len m
  have hs := h.shards.1
  have e : putMan m = shorts m.nums ++ (putShort m.root.length ++ m.root) := rfl
  rw [e] at hlen ⊢
  refine manifest_Get' _ S0 K w fun l0 hl0 l1 hl1 w0 hF0 => ?_
  have hle : (shorts m.nums ++ (putShort m.root.length ++ m.root)).length ≤ 1099511627776 := by omega
  refine rshort_spec (k := 0) hle hn (by omega) (hF0.blk 1 rfl) fun w1 hb1 g1 => ⟨_, rfl, _, _, _, hF0.modAt 1 rfl _ rfl g1 hb1, ?_⟩
  have hF1 := hF0.modAt 1 rfl _ rfl g1 hb1
  refine rshort_spec (k := 1) hle hn (by omega) (hF1.blk 1 rfl) fun w2 hb2 g2 => ⟨_, rfl, _, _, _, hF1.modAt 1 rfl _ rfl g2 hb2, ?_⟩
  have hF2 := hF1.modAt 1 rfl _ rfl g2 hb2
  refine rshort_spec (k := 2) hle hn (by omega) (hF2.blk 1 rfl) fun w3 hb3 g3 => ⟨_, rfl, _, _, _, hF2.modAt 1 rfl _ rfl g3 hb3, ?_⟩
  have hF3 := hF2.modAt 1 rfl _ rfl g3 hb3
  intro l2 hl2 w4 hF4
  refine rshort_spec (k := 3) hle hn (by omega) (hF4.blk 1 rfl) fun w5 hb5 g5 => ⟨_, rfl, _, _, _, hF4.modAt 1 rfl _ rfl g5 hb5, ?_⟩
  have hF5 := hF4.modAt 1 rfl _ rfl g5 hb5
  have e0 : m.nums[0]'(by omega) = m.version := rfl
  have e1 : m.nums[1]'(by omega) = m.nodes := rfl
  have e2 : m.nums[2]'(by omega) = m.edges := rfl
  have e3 : m.nums[3]'(by omega) = ((m.shards.length : Nat) : Int) := rfl
  rw [e0, e1, e2, e3]
  have b0 : l0 < w5.heap.size := hF5.lt _ (List.mem_of_getElem? (i := 0) rfl)
  have b1 : l1 < w5.heap.size := hF5.lt _ (List.mem_of_getElem? (i := 1) rfl)
  have b2 : l2 < w5.heap.size := hF5.lt _ (List.mem_of_getElem? (i := 2) rfl)
  have hw5 : w.heap.size ≤ w5.heap.size := hF5.gr.size
  refine ⟨fun _ => ⟨fun h64 => by omega, fun _ => ?_⟩, (fun t x h => by cases h), .inl rfl⟩
  refine ⟨fun i s' p er v nn ed q l c bl rt mm w' => ∃ k : Nat, i = k ∧ k ≤ m.shards.length ∧ mm = m.shards.length - k ∧ s' = str (shorts m.nums ++ (putShort m.root.length ++ m.root)) ∧ p = (posL m.nums (4 + 2 * k) : Nat) ∧ er = .nilIface ∧ v = m.version ∧ nn = m.nodes ∧ ed = m.edges ∧
    Own T.api_Shard 2 w' q c (encE (m.shards.take k)) ∧ l = k ∧ l ≤ c ∧ Off (fun j => j < w5.heap.size) q ∧ bl = 0 ∧ rt = ⟨#[]⟩ ∧ w5.heap.size ≤ w'.heap.size, ⟨_, 0, rfl, by omega, rfl, rfl, rfl, rfl, rfl, rfl, rfl, .nil _ _ _, rfl, Nat.le_refl _, .none _, rfl, rfl, Nat.le_refl _⟩, ?_⟩
  rintro i s' p er v nn ed q l c bl rt D mm w6 ⟨k, rfl, hk, rfl, rfl, rfl, rfl, rfl, rfl, rfl, ho, rfl, hlc, hof, rfl, rfl, hsz⟩ hF6
  refine ⟨fun hlt w7 hF7 => ?_, fun hge => ?_⟩
  · have hk' : l < m.shards.length := by omega
    refine ⟨fun w' => w'.cell? ⟨l2, 3, none⟩ = some (.slice q l c), hF7.ld 2 3 rfl rfl rfl, Dr_some.2 ⟨_, _, _, fun w8 h => h, ?_⟩⟩
    refine rshort_spec (k := 4 + 2 * l) hle hn (by omega) (hF7.blk 1 rfl) fun w8 hb8 g8 => ?_
    have hF8 := hF7.modAt 1 rfl _ rfl g8 hb8
    refine ⟨_, rfl, _, _, _, hF8, hF8.ld 2 3 rfl rfl rfl, ?_⟩
    refine rshort_spec (k := 5 + 2 * l) hle hn (by omega) (by rw [show 5 + 2 * l = 4 + 2 * l + 1 by omega]; exact hF8.blk 1 rfl) fun w9 hb9 g9 => ?_
    have hF9 := hF8.modAt 1 rfl _ rfl g9 hb9
    refine ⟨_, rfl, _, _, _, hF9, hF9.ld 2 3 rfl rfl rfl, fun l3 hl3 w10 hF10 => ⟨hF10.ld 2 3 rfl rfl rfl, ?_⟩⟩
    have g17 : Chg (· = l1) w7 w9 := g8.trans g9 fun _ _ e => e
    have ho9 : Own T.api_Shard 2 w9 q c (encE (m.shards.take l)) := (ho.grow hF7.grow).keep g17 fun a ha e => by have := hof a ha; have e' : a.block = l1 := e; omega
    have g10 : Grow w9 w10 := hF10.grow
    have s69 : w6.heap.size ≤ w9.heap.size := Nat.le_trans hF7.grow.size g17.size
    refine app_pair u_shards tyI_shard (ho9.grow g10) (by rw [List.length_take]; omega) hlc (ys := [m.shards[l]]) (by
      have := hF10.sl 3 rfl
      rw [nums_fst m hk', nums_snd m hk'] at this
      exact this) rfl (by omega) fun q2 c2 w11 ho11 hc11 g11 hq11 => ?_
    have hF11 := hF10.app2 g11 w5.heap.size w9.heap.size hof (fun a ha => ho9.lt a ha) (fun y hy => by
      simp only [List.mem_cons, List.not_mem_nil, or_false] at hy
      rcases hy with rfl | rfl | rfl | rfl
      · exact .inl b0
      · exact .inl b1
      · exact .inl b2
      · exact .inr hl3) hw5
    have hof2 : Off (fun j => j < w5.heap.size) q2 := hof.next hq11 (by have := g10.size; omega)
    refine ⟨_, _, _, rfl, hF11, hF11.ld 2 3 rfl rfl rfl, fun w12 hF12 => ⟨m.shards.length - (l + 1), by omega, l + 1, by rw [w64 (by omega) (by omega)]; rfl, by omega, rfl, rfl, by rw [show 4 + 2 * (l + 1) = 5 + 2 * l + 1 by omega], rfl, rfl, rfl, rfl, ?_, rfl, hc11, hof2, rfl, rfl, ?_⟩⟩
    · rw [take_next hk']
      exact ho11.keep hF12.stp fun a ha e => by
        have := hof2 a ha
        have e' : a.block = l2 := by simpa using e
        omega
    · have := hF12.stp.size; have := g11.size; have := g10.size; omega
  · have hkl : l = m.shards.length := by omega
    subst hkl
    rw [List.take_length] at ho
    refine rshort_spec (k := 4 + 2 * m.shards.length) hle hn (by omega) (hF6.blk 1 rfl) fun w7 hb7 g7 => ?_
    have hF7 := hF6.modAt 1 rfl _ rfl g7 hb7
    rw [nums_last m]
    have ho7 : Own T.api_Shard 2 w7 q c (encE m.shards) := ho.keep g7 fun a ha e => by have := hof a ha; have e' : a.block = l1 := e; omega
    refine ⟨_, rfl, _, _, _, hF7, ⟨fun _ w8 hF8 => ?_, (fun t x h => by cases h), .inl rfl⟩⟩
    have ho8 : Own T.api_Shard 2 w8 q c (encE m.shards) := ho7.keep hF8.stp fun a ha e => by have := hof a ha; have e' : a.block = l2 := by simpa using e
                                                                                             omega
    have hps : posL m.nums (4 + 2 * m.shards.length + 1) = (shorts m.nums).length := by
      unfold posL; rw [List.take_of_length_le (by omega)]
    have hat : posL m.nums (4 + 2 * m.shards.length + 1) ≤ (shorts m.nums ++ (putShort m.root.length ++ m.root)).length := posL_le _ _ _
    refine TextAt_spec (t := m.root) (r := []) hle hat (by rw [hps, List.drop_left' rfl, List.append_nil]) ⟨_, _, _, rfl, hF8.reset, rfl, ⟨fun _ => ⟨fun hlt => ?_, fun _ w9 hF9 => ?_⟩, (fun t x h => by cases h), .inl rfl⟩⟩
    · rw [str_size, List.length_append, List.length_append, hps] at hlt; omega
    · have ho9 : Own T.api_Shard 2 w9 q c (encE m.shards) := ho8.keep hF9.stp fun a ha e => by
        have := hof a ha
        have e' : a.block = l1 ∨ a.block = l2 := by simpa using e
        omega
      refine MCheck_ok h ho9.sl fun w10 g10 => ⟨_, rfl, hF9.reset.after g10, ⟨fun _ w11 hF11 => ?_, (fun t x h => by cases h), .inl rfl⟩⟩
      refine hK w11 q c hF11.gr ((ho9.grow g10).keep hF11.stp fun a ha e => ?_) hlc (hof.mono hw5)
      have := hof a ha
      have e' : a.block = l0 := by simpa using e
      omega
end Go.Vc

/-! A part of the proof that two events of one line are one event: the calculus that follows known memory by computing, and its soundness. By an AI agent. -/

namespace Go.Vc
open Go
theorem Fixed_spec {s : ByteArray} {at_ : Int} {k : Nat} (hk : 1 ≤ k ∧ k ≤ 6) (ha : 0 ≤ at_) (hb : at_ + k ≤ s.size) (hs : s.size ≤ 4611686018427387904) {w : World} {K : Value → World → Prop}
    (hK : K (.tuple #[.int .i64 (fixed ((s.data.toList.drop at_.toNat).take k)), .int .i64 (at_ + k), .nilIface]) w) : CallV PR F.octet_Fixed ⟨[.string s, .int .i64 at_, .int .i64 (k : Int)]⟩ w K := by
  have h0 : Fs S0 w [] w := Fr.init _ w
  refine octet_Fixed s at_ k S0 K w (there_spec (fun _ => ⟨true, rfl, (fun _ => ⟨h0, fun h => by omega, fun _ => ⟨fun h => by omega, fun _ => ⟨fun h => ?_, fun _ => ?_⟩⟩⟩), fun h => by cases h⟩) fun h => absurd ⟨ha, by omega⟩ h)
  · rw [w64 (by omega) (by omega)] at h; omega
  · refine ⟨fun n0 n1 m w' => ∃ j : Nat, n1 = j ∧ j ≤ k ∧ m = k - j ∧ n0 = fixed ((s.data.toList.drop at_.toNat).take j) ∧ w' = w, ⟨_, 0, rfl, by omega, rfl, rfl, rfl⟩, ?_⟩
    rintro n0 n1 D m w4 ⟨j, rfl, hj, rfl, rfl, rfl⟩ hF4
    refine ⟨fun hlt => ?_, fun hge => ?_⟩
    · have hj' : j < k := by omega
      have e8 : IntKind.wrap .i64 ((8 : Int) * (j : Int)) = ((8 * j : Nat) : Int) := by rw [w64 (by omega) (by omega)]; omega
      have ea : IntKind.wrap .i64 (at_ + (j : Int)) = at_ + j := w64 (by omega) (by omega)
      have hbl := byteAt_lt s (at_ + j).toNat
      have hby : IntKind.wrap .i64 ((byteAt s (at_ + (j : Int)).toNat : Nat) : Int) = (byteAt s (at_ + j).toNat : Nat) := w64 (by omega) (by omega)
      have hmin : Min.min (Int.toNat ((8 * j : Nat) : Int)) 64 = 8 * j := by rw [Int.toNat_natCast]; omega
      rw [ea, e8, hby, hmin]
      have hlen : ((s.data.toList.drop at_.toNat).take j).length = j := by
        rw [List.length_take, List.length_drop, len_data]; omega
      have hfl := fixed_lt ((s.data.toList.drop at_.toNat).take j)
      rw [hlen] at hfl
      have h256 : (256 : Nat) ^ j = 2 ^ (8 * j) := by rw [Nat.pow_mul]
      have hp : (2 : Nat) ^ (8 * j) ≤ 2 ^ 40 := Nat.pow_le_pow_right (by decide) (by omega)
      have hnext : (s.data.toList.drop at_.toNat).take (j + 1) = (s.data.toList.drop at_.toNat).take j ++ [UInt8.ofNat (byteAt s (at_ + j).toNat)] := by
        rw [List.take_add_one]
        congr 1
        rw [List.getElem?_drop]
        have := byteAt_list (s := s) (i := (at_ + j).toNat) (by omega)
        rw [show at_.toNat + j = (at_ + j).toNat by omega, this]; rfl
      refine ⟨by omega, by omega, by omega, k - (j + 1), by omega, j + 1, by rw [w64 (by omega) (by omega)]; rfl, by omega, rfl, ?_, rfl⟩
      have hp' : ((2 ^ (8 * j) : Nat) : Int) = (2 : Int) ^ (8 * j) := by simp
      have h40 : (2 : Nat) ^ 40 = 1099511627776 := by decide
      have hm : (byteAt s (at_ + j).toNat) * 2 ^ (8 * j) ≤ 255 * 2 ^ 40 := Nat.mul_le_mul (by omega) hp
      have hmc : ((byteAt s (at_ + j).toNat : Nat) : Int) * (2 : Int) ^ (8 * j) = ((byteAt s (at_ + j).toNat * 2 ^ (8 * j) : Nat) : Int) := by rw [← hp']; simp
      have hlt2 : ((fixed ((s.data.toList.drop at_.toNat).take j) : Nat) : Int) < (2 : Int) ^ (8 * j) := by rw [← hp']; rw [h256] at hfl; exact Int.ofNat_lt.2 hfl
      have hroom : ((byteAt s (at_ + j).toNat : Nat) : Int) * (2 : Int) ^ (8 * j) + (2 : Int) ^ (8 * j) ≤ 9223372036854775808 := by rw [hmc, ← hp']; omega
      rw [or_add (by omega) hlt2 (by omega) hroom, hnext, fixed_snoc, hlen, h256]
      have : (UInt8.ofNat (byteAt s (at_ + j).toNat)).toNat = byteAt s (at_ + j).toNat := UInt8.toNat_ofNat_of_lt (by have : UInt8.size = 256 := rfl; omega)
      rw [this, ← hp']; simp
    · have : j = k := by omega
      subst this
      rw [w64 (by omega) (by omega)]
      exact hK
end Go.Vc

/-! A part of the proof that two events of one line are one event: the calculus that follows known memory by computing, and its soundness. By an AI agent. -/

namespace Go.Vc
open Go
theorem nextL_le {S : List UInt8 → Nat} {l t : List UInt8} {n : Nat} (h : nextL S l = some (t, n)) : n ≤ l.length ∧ 6 ≤ n ∧ t.length + 6 = n ∧ t.length ≤ 60000 := by
  unfold nextL at h
  split at h
  · cases h
  · split at h
    · cases h
    · split at h
      · cases h
      · split at h
        · cases h
        · rename_i h1 h2 h3 _
          simp only [Option.some.injEq, Prod.mk.injEq] at h
          obtain ⟨rfl, rfl⟩ := h
          rw [List.length_take, List.length_drop]
          omega
theorem allL_some {S : List UInt8 → Nat} {f : Nat} {l t : List UInt8} {n : Nat} (h : nextL S l = some (t, n)) : allL S (f + 1) l = (t :: (allL S f (l.drop n)).1, n + (allL S f (l.drop n)).2) := by
  rw [allL, h]
theorem allL_none {S : List UInt8 → Nat} {f : Nat} {l : List UInt8} (h : nextL S l = none) : allL S f l = ([], 0) := by
  cases f with
  | zero => rfl
  | succ f => rw [allL, h]
/-- all texts of a log that is whole -/
theorem allL_le (S : List UInt8 → Nat) : ∀ (f : Nat) (l : List UInt8), (allL S f l).2 ≤ l.length ∧ (∀ t ∈ (allL S f l).1, t.length ≤ 60000)
  | 0, l => ⟨Nat.zero_le _, fun t h => by cases h⟩
  | f + 1, l => by
    cases hn : nextL S l with
    | none => rw [allL_none hn]; exact ⟨Nat.zero_le _, fun t h => by cases h⟩
    | some x =>
      obtain ⟨t, n⟩ := x
      have h := nextL_le hn
      have ih := allL_le S f (l.drop n)
      rw [allL_some hn]
      rw [List.length_drop] at ih
      refine ⟨by simp only []; omega, fun t' ht => ?_⟩
      rcases List.mem_cons.1 ht with rfl | ht
      · exact h.2.2.2
      · exact ih.2 t' ht
end Go.Vc

/-! A part of the proof that two events of one line are one event: the calculus that follows known memory by computing, and its soundness. By an AI agent. -/



namespace Go.Vc
open Go
theorem ffail_spec {w : World} {b : Nat} {m : Int} {v : Value} (hb : w.heap[b]? = some (.cells #[.int .i64 m] T.int (0, 0))) (hv : oneC v = true) {K : Value → World → Prop} (hK : ∀ w' e, Grow w w' → isErr e → K (.tuple #[.string ⟨#[]⟩, .int .i64 m, e]) w') : CallV PR F.frame_Next_1 ⟨[v, .pointer (some ⟨b, 0, none⟩)]⟩ w K :=
  frame_fail v b m S0 K w ((Fr.init _ w).entry hb (fun x h => by cases h) fun h => by cases h) ⟨hv, fun w1 hF1 => hK w1 _ hF1.grow ⟨_, _, rfl⟩⟩
theorem Next_spec {l : List UInt8} {at_ : Nat} (hl : l.length ≤ 1099511627776) (ha : at_ ≤ l.length) {w : World} {K : Value → World → Prop}
    (h1 : ∀ w' e, Grow w w' → isErr e → nextL crcN (l.drop at_) = none → K (.tuple #[.string ⟨#[]⟩, .int .i64 at_, e]) w')
    (h2 : ∀ w' t n, Grow w w' → nextL crcN (l.drop at_) = some (t, n) → K (.tuple #[.string (str t), .int .i64 ((at_ + n : Nat) : Int), .nilIface]) w') : CallV PR F.frame_Next ⟨[.string (str l), .int .i64 (at_ : Int)]⟩ w K := by
  have hsz := str_size l
  have hdl : (l.drop at_).length = l.length - at_ := List.length_drop
  refine frame_Next (str l) at_ S0 K w fun b hb => ⟨fun h => by omega, fun _ => ⟨fun h => by rw [hsz] at h; omega, fun _ => ⟨fun h w6 hF6 => ?_, fun hge w6 hF6 => ?_⟩⟩⟩
  · rw [hsz, w64 (by omega) (by omega)] at h
    refine ffail_spec (hF6.blk 0 rfl) rfl fun w7 e g7 he => ⟨_, _, _, rfl, hF6.after g7, h1 w7 e (hF6.grow.trans g7) he ?_⟩
    unfold nextL; rw [if_pos (by omega)]
  rw [hsz, w64 (by omega) (by omega)] at hge
  refine Fixed_spec (k := 4) (by decide) (by omega) (by rw [hsz]; omega) (by rw [hsz]; omega) ⟨_, _, _, rfl, hF6.reset, ?_⟩
  refine Fixed_spec (k := 2) (by decide) (by omega) (by rw [hsz]; omega) (by rw [hsz]; omega) ⟨_, _, _, rfl, hF6.reset, ?_⟩
  have f4 : nextL crcN (l.drop at_) = if fixed ((l.drop (at_ + 4)).take 2) > 60000 then none else
      if fixed ((l.drop (at_ + 4)).take 2) > l.length - at_ - 6 then none else
      if crcN ((l.drop (at_ + 4)).take (2 + fixed ((l.drop (at_ + 4)).take 2))) ≠ fixed ((l.drop at_).take 4) then none else
      some ((l.drop (at_ + 6)).take (fixed ((l.drop (at_ + 4)).take 2)), 6 + fixed ((l.drop (at_ + 4)).take 2)) := by
    unfold nextL
    rw [if_neg (by omega), List.drop_drop, List.drop_drop, hdl]
  rw [str_data, Int.toNat_natCast, show Int.toNat ((at_ : Int) + (4 : Nat)) = at_ + 4 by omega]
  generalize hn : fixed ((l.drop (at_ + 4)).take 2) = n at f4 ⊢
  have hgr : ∀ {w' : World}, Grow w6 w' → Grow w w' := fun g => hF6.grow.trans g
  refine ⟨fun h => ?_, fun hle => ⟨fun h => ?_, fun hfit => ?_⟩⟩
  · refine ffail_spec (hF6.blk 0 rfl) rfl fun w7 e g7 he => ⟨_, _, _, rfl, hF6.after g7, h1 w7 e (hgr g7) he ?_⟩
    rw [f4, if_pos (by omega)]
  · rw [hsz, w64 (by omega) (by omega)] at h
    refine ffail_spec (hF6.blk 0 rfl) rfl fun w7 e g7 he => ⟨_, _, _, rfl, hF6.after g7, h1 w7 e (hgr g7) he ?_⟩
    rw [f4, if_neg (by omega), if_pos (by omega)]
  rw [hsz, w64 (by omega) (by omega)] at hfit
  rw [hsz, w64 (n := (at_ : Int) + (4 : Nat) + (2 : Nat) + (n : Nat)) (by omega) (by omega)]
  have e1 : Int.toNat ((at_ : Int) + (4 : Nat) + (2 : Nat) + (n : Nat)) = at_ + 6 + n := by omega
  have ex1 : ByteArray.extract (str l) (at_ + 4) (at_ + 6 + n) = str ((l.drop (at_ + 4)).take (2 + n)) := by
    rw [extract_str]; congr 2; omega
  have ex2 : ByteArray.extract (str l) (Int.toNat ((at_ : Int) + (4 : Nat) + (2 : Nat))) (at_ + 6 + n) = str ((l.drop (at_ + 6)).take n) := by
    rw [extract_str, show Int.toNat ((at_ : Int) + (4 : Nat) + (2 : Nat)) = at_ + 6 by omega]; congr 2; omega
  rw [e1]
  refine ⟨by omega, by omega, by omega, by omega, fun l1 hl1 w11 hF11 => ?_⟩
  rw [ex1] at hF11 ⊢
  refine Sum_spec (xs := [(l.drop (at_ + 4)).take (2 + n)]) (hF11.sl 1 rfl) rfl (by simp) (fun x hx => by simp at hx; subst hx; rw [List.length_take, List.length_drop]; omega) fun w12 g12 => ?_
  have hF12 := hF11.after g12
  have g02 : Grow w w12 := hgr (hF11.grow.trans g12)
  refine ⟨_, rfl, hF11.reset.after g12, fun heq => ⟨by omega, by omega, by omega, by omega, ?_⟩, fun hne => ?_⟩
  · rw [ex2]
    have := h2 w12 _ _ g02 (by rw [f4, if_neg (by omega), if_neg (by omega), if_neg (by simp at heq; simp; omega)])
    rw [show ((at_ + (6 + n) : Nat) : Int) = (at_ : Int) + (4 : Nat) + (2 : Nat) + (n : Nat) by omega] at this
    exact this
  · refine ffail_spec (hF12.blk 0 rfl) rfl fun w13 e g13 he => ⟨_, _, _, rfl, hF11.reset.after (g12.trans g13), h1 w13 e (g02.trans g13) he ?_⟩
    rw [f4, if_neg (by omega), if_neg (by omega), if_pos (by simp at hne; omega)]
theorem All_spec {l : List UInt8} (hl : l.length ≤ 1000000) {w : World} {K : Value → World → Prop}
    (hK : ∀ w' q c, Grow w w' → Own T.string 1 w' q c ((allL crcN (l.length + 1) l).1.map sv8') → (allL crcN (l.length + 1) l).1.length ≤ c → Off (fun j => j < w.heap.size) q → K (.tuple #[.slice q (allL crcN (l.length + 1) l).1.length c, .int .i64 ((allL crcN (l.length + 1) l).2 : Nat)]) w') : CallV PR F.frame_All ⟨[.string (str l)]⟩ w K := by
  refine frame_All (str l) S0 K w ⟨fun q n c at_ m w' => ∃ (a f : Nat) (ts : List (List UInt8)), at_ = a ∧ n = ts.length ∧ m = f ∧ a ≤ l.length ∧ ts.length ≤ a ∧ l.length < f + a ∧ n ≤ c ∧ allL crcN (l.length + 1) l = (ts ++ (allL crcN f (l.drop a)).1, a + (allL crcN f (l.drop a)).2) ∧ Own T.string 1 w' q c (ts.map sv8') ∧ Off (fun j => j < w.heap.size) q,
    ⟨_, 0, l.length + 1, [], rfl, rfl, rfl, by omega, by simp, by omega, by simp, by simp, .nil _ _ _, .none _⟩, ?_⟩
  rintro q n c at_ D m w1 ⟨a, f, ts, rfl, rfl, rfl, ha, hta, hf, hc, hall, ho, hof⟩ hF1
  refine Next_spec (by omega) ha (fun w2 e g2 he hn => ⟨_, _, _, rfl, hF1.after g2, (fun h => by obtain ⟨t, x, rfl⟩ := he; cases h), fun t x h => ?_, .inr (by obtain ⟨t, x, h⟩ := he; exact ⟨t, x, h⟩)⟩) fun w2 t n g2 hn => ⟨_, _, _, rfl, hF1.after g2, fun _ => fun l4 hl4 w3 hF3 => ?_, (fun t x h => by cases h), .inl rfl⟩
  · rw [allL_none hn] at hall
    simp only [List.append_nil, Nat.add_zero] at hall
    have := hK w2 q c (hF1.gr.trans g2)
    rw [hall] at this
    exact this (ho.grow g2) hc hof
  · have hle := nextL_le hn
    rw [List.length_drop] at hle
    obtain ⟨f', rfl⟩ : ∃ f', m = f' + 1 := ⟨m - 1, by omega⟩
    rw [allL_some hn, List.drop_drop] at hall
    refine app_sv8 ((ho.grow g2).grow hF3.grow) (by simp) hc (ys := [t]) (hF3.sl 0 rfl) rfl (by omega) fun q2 c2 w5 ho5 hc5 g5 hq5 => ?_
    have s1 := hF1.gr.size
    have s2 := g2.size
    have hF5 := hF3.app2 g5 w.heap.size w2.heap.size hof (fun a ha => Nat.lt_of_lt_of_le (ho.lt a ha) s2) (fun y hy => by simp at hy; subst hy; exact .inr hl4) (by omega)
    refine ⟨_, _, _, rfl, hF5, f', by omega, a + n, f', ts ++ [t], rfl, by simp, rfl, by omega, by simp; omega, by omega, by simpa using hc5, ?_, by simpa using ho5, hof.next hq5 (by have := hF3.grow.size; omega)⟩
    rw [hall]; simp [Nat.add_assoc]
end Go.Vc

/-! A part of the proof that two events of one line are one event: the calculus that follows known memory by computing, and its soundness. By an AI agent. -/


namespace Go.Vc
open Go
/-! ## a journal opened on a log that is whole -/
theorem allL_log {recs : List (List UInt8)} (hr : ∀ s ∈ recs, s.length ≤ 60000) : allL crcN ((logL recs).length + 1) (logL recs) = (recs, (logL recs).length) :=
  allL_seals crcN_lt _ recs hr (by have := logL_ge recs; omega)
theorem JOpen_spec {w : World} {bd : Nat} {recs : List (List UInt8)} (h : DskAt w bd (str (logL recs))) (hr : ∀ s ∈ recs, s.length ≤ 60000) (hl : (logL recs).length ≤ 200000) {K : Value → World → Prop} (hK : ∀ w' bj q c, Grow w w' → w.heap.size ≤ bj → JrnAt w' bj bd q c recs → Off (fun j => j < w.heap.size) q → K (.tuple #[.pointer (some ⟨bj, 0, none⟩), .nilIface]) w') : CallV PR F.journal_Open ⟨[.pointer (some ⟨bd, 0, none⟩)]⟩ w K := by
  have hfr : ∀ {w' : World}, Grow w w' → Fs S0 w [] w' := fun g => (Fr.init _ w).after g
  have hlt : bd < w.heap.size := by obtain ⟨_, _, _, _, _, hh⟩ := h; exact heap_lt hh
  refine journal_Open' (some ⟨bd, 0, none⟩) S0 K w ?_
  refine Log_spec h ⟨_, _, rfl, .init _ w, fun _ => ?_, (fun t x h => by cases h), .inl rfl⟩
  refine All_spec (by omega) fun w1 q c g1 ho hc hof => ?_
  rw [allL_log hr] at ho hc ⊢
  refine ⟨_, _, _, _, rfl, hfr g1, fun h => by rw [str_size] at h; omega, fun _ => ⟨fun _ => ?_, (fun t x h => by cases h), .inl rfl⟩⟩
  refine Waits_spec (h.keep g1 id) ⟨_, rfl, hfr g1, fun h => by omega, fun _ => ⟨fun _ b hb w2 hF2 => ?_, (fun t x h => by cases h), .inl rfl⟩⟩
  have s1 := g1.size
  have g2 : Grow w1 w2 := hF2.grow
  refine hK w2 b q c hF2.chg (by omega) ⟨hF2.blk 0 rfl, ho.grow g2, hc, (h.keep g1 id).keep g2 id, by omega, fun a ha => ⟨by have := ho.lt a ha; omega, by have := hof a ha; omega⟩⟩ hof
end Go.Vc
