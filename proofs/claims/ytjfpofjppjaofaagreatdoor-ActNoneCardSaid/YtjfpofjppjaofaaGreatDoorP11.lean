/-
  A part of the proof of the statement ActNoneCardSaid, in Lean: Pb1, Pb2, Pb3, Rdn, RoG, Msa, RoM, MirP13, Ac1, Ac2, Ac3. By an AI agent.
-/
import Derived.Test.YtjfpofjppjaofaaGreatDoorP08
import Derived.Test.YtjfpofjppjaofaaGreatDoorP10
import Derived.Test.YtjfpofjppjaofaaGreatDoorP07
import Derived.OpenShut
import Derived.KernelRfl
import Derived.WalkKit
import Derived.ProofKit
import Derived.Below
import Derived.ChangeSame
import Derived.Carry
import Derived.Deep.SlicePairs
import Derived.Deep.Grids
import Derived.ChangeArms
import Derived.WideShapes
import Derived.Test.YtjfpofjppjaofaaGreatDoorP02
import Derived.Test.YtjfpofjppjaofaaGreatDoorP09
set_option linter.unusedSimpArgs false
set_option linter.unusedVariables false
set_option maxRecDepth 100000
/-! A part of the proof that two events of one line are one event: the calculus that follows known memory by computing, and its soundness. By an AI agent. -/





namespace Go.Vc
open Go Go.MapKept
/-! ## what is published: the parts -/
theorem cellsNe {w : World} {a b : Nat} {cs ds : Array Value} {T U : TypeId} {f g : Nat × Nat} (h1 : w.heap[a]? = some (.cells cs T f)) (h2 : w.heap[b]? = some (.cells ds U g)) (h : T ≠ U) : a ≠ b := by
  rintro rfl
  rw [h1] at h2
  cases h2
  exact h rfl
theorem Own.ty {e : TypeId} {k : Nat} {w : World} {q : Option Addr} {c : Nat} {xs : List Value} (h : Own e k w q c xs) {a : Addr} (ha : q = some a) : ∃ cs, w.heap[a.block]? = some (.cells cs e (0, 0)) := by
  rcases h with ⟨h, _⟩ | ⟨b, o, cs, h, hb, _⟩
  · rw [h] at ha; cases ha
  · rw [h] at ha; cases ha; exact ⟨cs, hb⟩
theorem JrnAt.lt {w : World} {bj bd : Nat} {q : Option Addr} {c : Nat} {recs : List (List UInt8)} (h : JrnAt w bj bd q c recs) : ∀ k, jrnS bj bd q k → k < w.heap.size := by
  rintro k (rfl | rfl | ⟨a, ha, rfl⟩)
  · exact heap_lt h.blk
  · obtain ⟨_, _, _, _, _, hh⟩ := h.dsk; exact heap_lt hh
  · exact h.own.lt a ha
theorem JrnAt.pub {w : World} {bj bd p : Nat} {q : Option Addr} {c : Nat} {recs : List (List UInt8)} {cs : Array Value} {f : Nat × Nat} (h : JrnAt w bj bd q c recs) (hp : w.heap[p]? = some (.cells cs T.pub_Pub f)) : ¬ jrnS bj bd q p := by
  rintro (rfl | rfl | ⟨a, ha, rfl⟩)
  · exact cellsNe hp h.blk (by decide) rfl
  · obtain ⟨_, _, _, _, _, hh⟩ := h.dsk; exact cellsNe hp hh (by decide) rfl
  · obtain ⟨cs, hh⟩ := h.own.ty ha
    exact cellsNe hp hh (by decide) rfl
theorem JrnAt.mapb {w : World} {bj bd m : Nat} {q : Option Addr} {c : Nat} {recs : List (List UInt8)} {k : TypeId} {n : Nat} {R : Value → Value → Prop} (h : JrnAt w bj bd q c recs) (hm : MapP w k m n R) : ¬ jrnS bj bd q m := by
  rintro (rfl | rfl | ⟨a, ha, rfl⟩)
  · exact mapNe h.blk hm rfl
  · obtain ⟨_, _, _, _, _, hh⟩ := h.dsk; exact mapNe hh hm rfl
  · obtain ⟨cs, hh⟩ := h.own.ty ha
    exact mapNe hh hm rfl
theorem Room_in {w : World} {p bj bd m : Nat} {each last com : Int} {q : Option Addr} {c : Nat} {recs : List (List UInt8)} (hb : w.heap[p]? = some (.cells (pubC bj each last com m) T.pub_Pub (0, 0))) (hj : JrnAt w bj bd q c recs) (hr : (logL recs).length ≤ 200000) {K : Value → World → Prop} (hK : K (.int .i64 (200000 - (logL recs).length : Nat)) w) : CallV PR F.p_pub_Pub_Room ⟨[.pointer (some ⟨p, 0, none⟩)]⟩ w K := by
  refine pub_Pub_Room p (some ⟨bj, 0, none⟩) each last com (some m) (· = p) K w ((Fr.init _ w).entry hb (fun x h => by cases h) fun _ => rfl) ⟨rfl, trivial⟩ ?_
  refine JBytes_spec hj ⟨_, rfl, (Fr.init _ w).entry hb (fun x h => by cases h) (fun _ => rfl), ?_⟩
  rw [w64 (by omega) (by omega)]
  have e : (200000 : Int) - ((logL recs).length : Nat) = ((200000 - (logL recs).length : Nat) : Int) := by omega
  rw [e]; exact hK
theorem write_spec {w : World} {p bj bd m : Nat} {each last com : Int} {q : Option Addr} {c : Nat} {recs : List (List UInt8)} {s : List UInt8} (hb : w.heap[p]? = some (.cells (pubC bj each last com m) T.pub_Pub (0, 0))) (hj : JrnAt w bj bd q c recs) (hr : (logL recs).length ≤ 200000) (hrl : recs.length ≤ 200000) (hs : s.length ≤ 1000000) {K : Value → World → Prop}
    (h1 : s.length ≤ 60000 → s.length + 6 + (logL recs).length ≤ 200000 → ∀ w' q' c', JrnAt w' bj bd q' c' (recs ++ [s]) → Chg (jrnS bj bd q) w w' → (∀ a, q' = some a → q = some a ∨ w.heap.size ≤ a.block) → K .nilIface w')
    (h2 : ¬ (s.length ≤ 60000 ∧ s.length + 6 + (logL recs).length ≤ 200000) → K (.iface T.api_Errno (.int .i64 7)) w) : CallV PR F.p_pub_Pub_write ⟨[.pointer (some ⟨p, 0, none⟩), .string (str s)]⟩ w K := by
  have hpj := hj.pub hb
  have hpl := heap_lt hb
  have h0 : Fs (fun k => k = p ∨ jrnS bj bd q k) w [⟨p, pubC bj each last com m, T.pub_Pub, true⟩] w := (Fr.init _ w).entry hb (fun x h => by cases h) fun _ => .inl rfl
  refine pub_Pub_write p (some ⟨bj, 0, none⟩) each last com (some m) (str s) (fun k => k = p ∨ jrnS bj bd q k) K w h0 ⟨.inl rfl, trivial⟩ ⟨fun h => h2 (fun hh => ?_), fun h => ?_⟩
  · rw [str_size] at h; omega
  · rw [str_size] at h
    refine Room_in hb hj hr ⟨_, rfl, h0, fun h' => h2 (fun hh => ?_), fun h' l0 hl0 w1 hF1 => ?_⟩
    · rw [str_size, w64 (by omega) (by omega)] at h'; omega
    · rw [str_size, w64 (by omega) (by omega)] at h'
      have g1 : Grow w w1 := hF1.grow
      have hjw := hj.grow g1
      have hjl := hj.lt
      refine JWrite_spec (s := s) (y := some ⟨l0, 0, none⟩) (cy := 1) hjw (.inr ⟨l0, 0, rfl, ?_⟩) (fun a ha e => by cases ha; have := hjl _ e; simp only [] at this; omega) (by omega) (by omega) (by omega) fun w2 q' c' hj2 g2 hq' => ?_
      · refine ⟨_, _, _, hF1.blk 1 rfl, fun i hi => ?_⟩
        have : i = 0 := by simpa using hi
        subst this; rfl
      · refine ⟨_, rfl, _, hF1.step g2 (fun x hx => ?_) (fun k _ e => .inr e), h1 (by omega) (by omega) w2 q' c' hj2 (g1.then g2) fun a ha => (hq' a ha).imp id fun h => Nat.le_trans g1.size h⟩
        rcases List.mem_cons.1 hx with rfl | hx
        · exact hpj
        · simp at hx; subst hx
          exact fun e => by have := hjl _ e; simp only [] at this; omega
theorem VerTree {D : Nat → Prop} {w : World} {b : Nat} {mn : Man} {list : List (List UInt8)} (hv : VerO D w b mn list) (hL : VerL mn list) {K : Value → World → Prop} (hK : ∀ w' c, Grow w w' → K (.pointer (some ⟨c, 0, none⟩)) w') : CallV PR F.p_manifest_Version_Tree ⟨[.pointer (some ⟨b, 0, none⟩)]⟩ w K := by
  obtain ⟨q, c, ql, cl, h1, h0, h2, h3, h4⟩ := hv
  have hf : Fs S0 w [⟨b, verC mn q c list ql cl, T.manifest_Version, false⟩] w := (Fr.init _ w).entry h1 (fun x h => by cases h) (fun h => by cases h)
  have hbl := hL.ok.blocks.2
  have hb2 := hL.blocks
  refine manifest_Version_Tree b mn.version mn.nodes mn.edges q mn.shards.length c mn.blocks (str mn.root) ql list.length cl S0 K w hf ?_
  refine Tree_new h3.sl rfl (by omega) (fun x hx => by have := hL.small x hx; omega) fun w1 t q' c' m R g1 _ _ _ _ _ => ⟨_, rfl, hf.after g1, hK w1 t g1⟩
theorem show_spec {w : World} {p bj m n b : Nat} {each last com : Int} {ver : Nat} {R : Value → Value → Prop} {mn : Man} {list : List (List UInt8)} (hb : w.heap[p]? = some (.cells (pubC bj each last com m) T.pub_Pub (0, 0))) (hm : MapP w T.int m n R) (hR : shownR R) (hv : VerO (fun k => k = p ∨ k = m) w b mn list) (hL : VerL mn list) (he : mn.version = ver) (hver : ver ≤ 1099511627776) {K : Value → World → Prop}
    (hK : ∀ w' c n', Chg (fun k => k = p ∨ k = m) w w' → w'.heap[p]? = some (.cells (pubC bj each ver com m) T.pub_Pub (0, 0)) → MapP w' T.int m n' (fun k v => updR R (.int .i64 (ver : Int)) (.agg #[.pointer (some ⟨b, 0, none⟩), .pointer (some ⟨c, 0, none⟩)]) k v ∧ ¬ delP ver com k) → K (.tuple #[]) w') :
    CallV PR F.p_pub_Pub_show ⟨[.pointer (some ⟨p, 0, none⟩), .pointer (some ⟨b, 0, none⟩)]⟩ w K := by
  have hpm := mapNe hb hm
  have hc : ∀ {w' : World}, VerO (fun k => k = p ∨ k = m) w' b mn list → w'.cell? ⟨b, 0, none⟩ = some (.int .i64 (ver : Int)) := by
    rintro w' ⟨q, c, ql, cl, h1, _⟩
    rw [cell_blk h1, ← he]; rfl
  refine pub_Pub_show p (some ⟨bj, 0, none⟩) each last com (some m) (some ⟨b, 0, none⟩) (fun k => k = p ∨ k = m) K w ((Fr.init _ w).entry hb (fun x h => by cases h) fun _ => .inl rfl) ⟨.inl rfl, trivial⟩ ?_
  refine Dr_some.2 (Dr_some.2 (Dr_some.2 (Dr_some.2 ⟨_, hc hv, fun w0 hF0 => ⟨fun w' => w'.cell? ⟨b, 0, none⟩ = some (.int .i64 (ver : Int)), ?_, Dr_some.2 (Dr_some.2 (Dr_some.2 (Dr_some.2 ⟨_, fun w1 h => h, ?_⟩)))⟩⟩)))
  · exact hc (hv.keep hF0.chg (fun _ _ e => e) (fun _ _ e => e))
  · have g0 : Chg (· = p) w w0 := hF0.stp.mono fun i _ hi => by simpa using hi
    have hv0 := hv.keep (D' := fun k => k = p ∨ k = m) hF0.chg (fun _ _ e => e) (fun _ _ e => e)
    refine VerTree hv0 hL fun w2 c g2 => ?_
    have hv2 := hv0.keep (D' := fun k => k = p ∨ k = m) g2 (fun _ _ e => e.elim) (fun _ _ e => e)
    have hF2 := hF0.after g2
    have hm2 := (hm.keep g0 hpm.symm).grow g2
    refine ⟨_, rfl, hF2, hc hv2, ?_⟩
    refine update_rn keyedI map_shown hm2 (key_int (i := (ver : Int)) (by omega) (by omega)) fun w3 hm3 g3 _ => ?_
    have hF3 := hF2.step g3 (fun x hx => by simp at hx; subst hx; exact hpm) fun k _ e => .inr e
    refine ⟨hF3, ?_⟩
    have hR3 : shownR (updR R (.int .i64 (ver : Int)) (.agg #[.pointer (some ⟨b, 0, none⟩), .pointer (some ⟨c, 0, none⟩)])) := by
      rintro k v (⟨rfl, rfl⟩ | ⟨_, hr⟩)
      · exact ⟨ver, b, c, hver, rfl, rfl⟩
      · exact hR k v hr
    refine trim_spec (hF3.blk 0 rfl) hm3 hR3 (by omega) fun w4 g4 hm4 => ?_
    have hF4 := hF3.step g4 (fun x hx => by simp at hx; subst hx; exact hpm) fun k _ e => .inr e
    exact ⟨rfl, _, _, _, _, _, hF4, hK w4 c _ hF4.chg (hF4.blk 0 rfl) hm4⟩
end Go.Vc

/-! A part of the proof that two events of one line are one event: the calculus that follows known memory by computing, and its soundness. By an AI agent. -/

namespace Go.Vc
open Go Go.MapKept
/-! ## what is published: contracts -/
structure PubS where
  p : Nat
  bj : Nat
  bd : Nat
  m : Nat
  each : Nat
  q : Option Addr
  c : Nat
  last : Nat
  com : Nat
  recs : List (List UInt8)
  R : Value → Value → Prop
  man : Nat → Man
  ex : Nat → Prop
def PubS.reg (x : PubS) : Nat → Prop := fun k => k = x.p ∨ k = x.m ∨ jrnS x.bj x.bd x.q k
/-- what is written, here or elsewhere -/
def PubS.dom (x : PubS) : Nat → Prop := fun k => x.reg k ∨ x.ex k
def PubS.room (x : PubS) : Nat := 200000 - (logL x.recs).length
/-- one that is kept -/
def KeptAt (D : Nat → Prop) (w : World) (last : Nat) (man : Nat → Man) (k v : Value) : Prop :=
  ∃ (i b c : Nat) (mn : Man) (list : List (List UInt8)), 1 ≤ i ∧ i ≤ last ∧ k = .int .i64 (i : Int) ∧ v = .agg #[.pointer (some ⟨b, 0, none⟩), .pointer (some ⟨c, 0, none⟩)] ∧ VerO D w b mn list ∧ VerL mn list ∧ mn.version = i ∧ mn = man i
structure PubAt (N : Nat) (w : World) (x : PubS) : Prop where
  blk : w.heap[x.p]? = some (.cells (pubC x.bj x.each x.last x.com x.m) T.pub_Pub (0, 0))
  jrn : JrnAt w x.bj x.bd x.q x.c x.recs
  map : ∃ n, MapP w T.int x.m n x.R
  kept : ∀ k v, x.R k v → KeptAt x.dom w x.last x.man k v
  has : ∀ i : Nat, 1 ≤ i → i ≤ x.last → x.last < i + 3 ∨ i = x.com → ∃ v, x.R (.int .i64 (i : Int)) v
  com_le : x.com ≤ x.last
  last_le : x.last ≤ x.recs.length
  room : (logL x.recs).length ≤ 200000
  each1 : 1 ≤ x.each
  each2 : x.each < 4096
  lo : ∀ k, x.reg k → N ≤ k
  exlt : ∀ k, x.ex k → k < w.heap.size
  only : ∀ (i : Nat) v, x.R (.int .i64 (i : Int)) v → x.last < i + 3 ∨ i = x.com
  rep : Rep x.recs x.last x.com x.man
theorem KeptAt.keep {D D' S : Nat → Prop} {w w' : World} {last last' : Nat} {man : Nat → Man} {k v : Value} (h : KeptAt D w last man k v) (g : Chg S w w') (hS : ∀ k, k < w.heap.size → S k → D k) (hD : ∀ k, k < w.heap.size → D' k → D k) (hl : last ≤ last') : KeptAt D' w' last' man k v := by
  obtain ⟨i, b, c, mn, list, h1, h2, h3, h4, h5, h6⟩ := h
  exact ⟨i, b, c, mn, list, h1, by omega, h3, h4, h5.keep g hS hD, h6⟩
theorem PubAt.lt {N : Nat} {w : World} {x : PubS} (h : PubAt N w x) : ∀ k, x.reg k → k < w.heap.size := by
  rintro k (rfl | rfl | hk)
  · exact heap_lt h.blk
  · obtain ⟨n, hm⟩ := h.map; exact hm.lt
  · exact h.jrn.lt k hk
theorem PubAt.keep {S : Nat → Prop} {N : Nat} {w w' : World} {x : PubS} (h : PubAt N w x) (g : Chg S w w') (hS : ∀ k, k < w.heap.size → ¬ S k) : PubAt N w' x := by
  have g' : Grow w w' := g.mono fun i hi hs => hS i hi hs
  obtain ⟨n, hm⟩ := h.map
  exact ⟨Grow.get g' h.blk, h.jrn.grow g', ⟨n, hm.grow g'⟩, fun k v hr => (h.kept k v hr).keep g' (fun _ _ e => e.elim) (fun _ _ e => e) (Nat.le_refl _), h.has, h.com_le, h.last_le, h.room, h.each1, h.each2, h.lo, fun k hk => Nat.lt_of_lt_of_le (h.exlt k hk) g.size, h.only, h.rep⟩
theorem PubAt.keepEx {S : Nat → Prop} {N : Nat} {w w' : World} {x : PubS} (h : PubAt N w x) (g : Chg S w w') (hS : ∀ k, S k → x.ex k) (hn : ∀ k, S k → ¬ x.reg k) : PubAt N w' x := by
  obtain ⟨n, hm⟩ := h.map
  exact ⟨g.get h.blk fun e => hn _ e (.inl rfl), h.jrn.keep g fun k e hk => hn k e (.inr (.inr hk)), ⟨n, hm.keep g fun e => hn _ e (.inr (.inl rfl))⟩, fun k v hr => (h.kept k v hr).keep g (fun k _ e => .inr (hS k e)) (fun _ _ e => e) (Nat.le_refl _), h.has, h.com_le, h.last_le, h.room, h.each1, h.each2, h.lo, fun k hk => Nat.lt_of_lt_of_le (h.exlt k hk) g.size, h.only, h.rep⟩
theorem PubAt.grow {N : Nat} {w w' : World} {x : PubS} (h : PubAt N w x) (g : Grow w w') : PubAt N w' x := h.keep g fun _ _ e => e
theorem sealL_pos (f : List UInt8 → Nat) (s : List UInt8) : s.length + 1 ≤ (sealL f s).length := by rw [sealL_len]; omega
theorem logL_ge (recs : List (List UInt8)) : recs.length ≤ (logL recs).length := by
  induction recs with
  | nil => simp [logL]
  | cons a l ih =>
    have h1 := sealL_pos crcN a
    have e : logL (a :: l) = sealL crcN a ++ logL l := rfl
    rw [e, List.length_append, List.length_cons]; omega
theorem PubAt.shown {N : Nat} {w : World} {x : PubS} (h : PubAt N w x) : shownR x.R := by
  intro k v hr
  obtain ⟨i, b, c, mn, list, h1, h2, h3, h4, _⟩ := h.kept k v hr
  have := h.last_le
  have := h.room
  have := logL_ge x.recs
  exact ⟨i, b, c, by omega, h3, h4⟩
theorem PubAt.small {N : Nat} {w : World} {x : PubS} (h : PubAt N w x) : x.last ≤ 200000 ∧ x.com ≤ 200000 ∧ x.recs.length ≤ 200000 := by
  have := h.last_le
  have := h.room
  have := logL_ge x.recs
  have := h.com_le
  omega
theorem Last_spec {N : Nat} {w : World} {x : PubS} (h : PubAt N w x) {K : Value → World → Prop} (hK : K (.int .i64 x.last) w) : CallV PR F.p_pub_Pub_Last ⟨[.pointer (some ⟨x.p, 0, none⟩)]⟩ w K :=
  pub_Pub_Last x.p (some ⟨x.bj, 0, none⟩) x.each x.last x.com (some x.m) (· = x.p) K w ((Fr.init _ w).entry h.blk (fun x h => by cases h) fun _ => rfl) ⟨rfl, trivial⟩ hK
theorem Committed_spec {N : Nat} {w : World} {x : PubS} (h : PubAt N w x) {K : Value → World → Prop} (hK : K (.int .i64 x.com) w) : CallV PR F.p_pub_Pub_Committed ⟨[.pointer (some ⟨x.p, 0, none⟩)]⟩ w K :=
  pub_Pub_Committed x.p (some ⟨x.bj, 0, none⟩) x.each x.last x.com (some x.m) (· = x.p) K w ((Fr.init _ w).entry h.blk (fun x h => by cases h) fun _ => rfl) ⟨rfl, trivial⟩ hK
/-- opened on a disk that is empty -/
theorem Open0_spec {N : Nat} {w : World} {bd each : Nat} (hd : DskAt w bd ⟨#[]⟩) (hN : N ≤ bd) (hN2 : N ≤ w.heap.size) (he : 1 ≤ each) (he2 : each < 4096) {K : Value → World → Prop}
    (hK : ∀ w' x, Grow w w' → PubAt N w' x → x.bd = bd → x.each = each → x.last = 0 → x.com = 0 → x.recs = [] → w.heap.size ≤ x.p → K (.tuple #[.pointer (some ⟨x.p, 0, none⟩), .nilIface]) w') : CallV PR F.pub_Open ⟨[.pointer (some ⟨bd, 0, none⟩), .int .i64 each]⟩ w K := by
  have hf : ∀ {w' : World}, Grow w w' → Fs S0 w [] w' := fun g => (Fr.init _ w).after g
  refine pub_Open' (some ⟨bd, 0, none⟩) each S0 K w ⟨fun h => by omega, fun _ => ⟨fun h => by omega, fun _ => ?_⟩⟩
  refine JOpen0_spec hd fun w1 bj g1 hbj hj => ⟨_, _, rfl, hf g1, fun _ => ?_, (fun t x h => by cases h), .inl rfl⟩
  refine make_rn (k := T.int) fun w2 m hme hm g2 => ⟨_, rfl, hf (g1.trans g2), fun p hp w3 hF3 => ?_⟩
  have g3 : Grow w2 w3 := hF3.grow
  have hj3 := (hj.grow g2).grow g3
  refine JAll_spec hj3 (by simp) fun w4 q' c' g4 _ => ⟨_, _, _, rfl, hF3.after g4, ?_⟩
  have hF4 := hF3.after g4
  refine ⟨fun i q n1 n2 n3 q4 l w' => i = 0 ∧ q = some ⟨bj, 0, none⟩ ∧ n1 = each ∧ n2 = 0 ∧ n3 = 0 ∧ q4 = some m ∧ w' = w4, ⟨0, rfl, rfl, rfl, rfl, rfl, rfl, rfl⟩, ?_⟩
  rintro i q n1 n2 n3 q4 D l w5 ⟨rfl, rfl, rfl, rfl, rfl, rfl, rfl⟩ hF5
  refine ⟨fun h => by simp at h, fun _ => ?_⟩
  have s1 := g1.size
  have s2 := g2.size
  have hml := hm.lt
  have gg : Grow w w5 := ((g1.trans g2).trans g3).trans g4
  refine hK w5 ⟨p, bj, bd, m, each, none, 0, 0, 0, [], (fun _ _ => False), (fun _ => ⟨0, 0, 0, [], 0, []⟩), fun _ => False⟩ gg ⟨hF4.blk 0 rfl, hj3.grow g4, ⟨0, (hm.grow g3).grow g4⟩, fun k v h => h.elim, fun i h1 h2 _ => absurd (Nat.le_trans h1 h2) (by simp), Nat.le_refl _, Nat.le_refl _, by simp [logL], he, he2, ?_, fun k hk => hk.elim, fun i v h => h.elim, Rep.nil⟩ rfl rfl rfl rfl rfl (by simp only []; omega)
  rintro k (rfl | rfl | rfl | rfl | ⟨a, ha, _⟩)
  · omega
  · omega
  · omega
  · exact hN
  · cases ha
end Go.Vc

/-! A part of the proof that two events of one line are one event: the calculus that follows known memory by computing, and its soundness. By an AI agent. -/

namespace Go.Vc
open Go Go.MapKept
/-! ## a graph is published, a version committed -/
theorem sum_le_len (l : List (List UInt8)) (k : Nat) (h : ∀ x ∈ l, x.length ≤ k) : l.flatten.length ≤ k * l.length := by
  induction l with
  | nil => simp
  | cons a l ih =>
    have h1 := ih fun x hx => h x (List.mem_cons_of_mem _ hx)
    have h2 := h a List.mem_cons_self
    rw [List.flatten_cons, List.length_append, List.length_cons, Nat.mul_add]; omega
theorem putText1 (s : List UInt8) : putTextL [s] = putShort s.length ++ s := by simp [putTextL]
theorem str86 : (⟨#[86]⟩ : ByteArray) = str [86] := rfl
theorem str67 : (⟨#[67]⟩ : ByteArray) = str [67] := rfl
theorem putShort_le (n : Nat) (h : n ≤ 72057594037927935) : (putShort n).length ≤ 8 := by
  have := shorts_len (l := [(n : Int)]) (by simp; omega)
  simpa [shorts] using this
theorem only_of {last com i : Nat} (h : ¬ delP last com (.int .i64 (i : Int))) : last < i + 3 ∨ i = com := by
  by_cases h1 : last < i + 3
  · exact .inl h1
  · by_cases h2 : i = com
    · exact .inr h2
    · exact absurd ⟨i, rfl, by omega, by omega⟩ h
/-- there is surely room for it -/
def snug (x : PubS) (nodes : Int) (l : List (Int × Int)) : Prop := roomy nodes x.each l ∧ 2700 + 9 * nodes + 8 * l.length ≤ 60000 ∧ 2700 + 9 * nodes + 8 * l.length ≤ x.room
theorem jrn_next {w w' : World} {x : PubS} {q' : Option Addr} (hq : ∀ a, q' = some a → x.q = some a ∨ w.heap.size ≤ a.block) : ∀ k, (k = x.p ∨ k = x.m ∨ jrnS x.bj x.bd q' k) → x.reg k ∨ w.heap.size ≤ k := by
  rintro k (rfl | rfl | rfl | rfl | ⟨a, ha, rfl⟩)
  · exact .inl (.inl rfl)
  · exact .inl (.inr (.inl rfl))
  · exact .inl (.inr (.inr (.inl rfl)))
  · exact .inl (.inr (.inr (.inr (.inl rfl))))
  · rcases hq a ha with h | h
    · exact .inl (.inr (.inr (.inr (.inr ⟨a, h, rfl⟩))))
    · exact .inr h
theorem Publish_spec {N : Nat} {w : World} {x : PubS} (h : PubAt N w x) (hN : N ≤ w.heap.size) {nodes : Int} {l : List (Int × Int)} {y : Option Addr} {n cy : Nat} (hs : Sl w y (encE l)) (hl : n = l.length) (hn : n ≤ 100000) {K : Value → World → Prop}
    (h1 : ∀ w' x', PubAt N w' x' → Chg x.reg w w' → x'.p = x.p → x'.bd = x.bd → x'.each = x.each → x'.last = x.last + 1 → x'.com = x.com → x'.room < x.room → (x.room : Int) ≤ x'.room + 2700 + 9 * nodes + 8 * l.length → x'.ex = x.ex → (∀ k, x'.reg k → x.reg k ∨ w.heap.size ≤ k) → goodG nodes l → K (.tuple #[.int .i64 x'.last, .nilIface]) w')
    (h2 : ∀ w' v, Grow w w' → PubAt N w' x → isErr v → ¬ snug x nodes l → K (.tuple #[.int .i64 0, v]) w') :
    CallV PR F.p_pub_Pub_Publish ⟨[.pointer (some ⟨x.p, 0, none⟩), .int .i64 nodes, .slice y n cy]⟩ w K := by
  obtain ⟨hsl, hsc, hsr⟩ := h.small
  have hlt := h.lt
  have h0 : Fs x.reg w [⟨x.p, pubC x.bj x.each x.last x.com x.m, T.pub_Pub, true⟩] w := (Fr.init _ w).entry h.blk (fun x h => by cases h) fun _ => .inl rfl
  refine pub_Pub_Publish x.p (some ⟨x.bj, 0, none⟩) x.each x.last x.com (some x.m) nodes y n cy x.reg K w h0 ⟨.inl rfl, trivial⟩ fun w0 hF0 => ?_
  have g0 : Grow w w0 := hF0.grow
  refine ⟨fun _ => True, trivial, ?_⟩
  have e1 : IntKind.wrap .i64 ((x.last : Int) + 1) = ((x.last + 1 : Nat) : Int) := by rw [w64 (by omega) (by omega)]; omega
  rw [e1]
  refine Make_spec (version := ((x.last + 1 : Nat) : Int)) h.each1 h.each2 (hs.grow g0) hl hn (fun w1 b mn list g1 hbl hv hL hmv hfl hgg => ?_) fun w1 v g1 hv hbad => ?_
  · have g01 := g0.trans g1
    have hF1 := hF0.reset.after g1
    refine ⟨_, _, rfl, hF1, trivial, fun _ => ?_, (fun t x h => by cases h), .inl rfl⟩
    have hv1 : VerO x.dom w1 b mn list := hv.keep (.refl (fun _ => False) _) (fun _ _ e => e.elim) fun k _ e => by
      have := g0.size
      rcases e with e | e
      · have := hlt k e; omega
      · have := h.exlt k e; omega
    obtain ⟨qm, cm, ql, cl, hb1, hb0, hq1, hq2, hlc⟩ := id hv1
    have hcell : ∀ {w' : World}, Grow w1 w' → ∀ k v, (verC mn qm cm list ql cl)[k]? = some v → w'.cell? ⟨b, k, none⟩ = some v := fun g k v hv => by
      rw [cell_blk (Grow.get g hb1)]; exact hv
    have hmn := putMan_len hL.ok
    have hbl2 := hL.ok.blocks.2
    have hbe := hL.blocks
    have hps : (putShort (putMan mn).length).length ≤ 8 := putShort_le _ (by omega)
    have hfl2 : list.flatten.length ≤ 200000 := by
      have := sum_le_len list 64 hL.small
      omega
    refine Dr_some.2 (Dr_some.2 (Dr_some.2 ⟨mn.version, by rw [add_mk, add_mk]; exact hcell (.refl _ _) 0 _ rfl, mn.nodes, by rw [add_mk, add_mk]; exact hcell (.refl _ _) 1 _ rfl, mn.edges, by rw [add_mk, add_mk]; exact hcell (.refl _ _) 2 _ rfl, qm, mn.shards.length, cm, by rw [add_mk, add_mk]; exact hcell (.refl _ _) 3 _ rfl, mn.blocks, by rw [add_mk, add_mk]; exact hcell (.refl _ _) 4 _ rfl, str mn.root, by rw [add_mk, add_mk]; exact hcell (.refl _ _) 5 _ rfl, ?_⟩))
    refine MPut_ok hL.ok hq1.sl fun w2 g2 => ⟨_, _, rfl, hF1.after g2, fun w3 hF3 => ?_⟩
    have g3 : Grow w2 w3 := hF3.grow
    refine ⟨fun w' => w'.cell? ⟨b, 6, none⟩ = some (.slice ql list.length cl), hcell (g2.trans g3) 6 _ rfl, Dr_some.2 (Dr_some.2 (Dr_some.2 ⟨_, _, _, fun w4 h => by rw [add_mk]; exact h, fun l4 hl4 w5 hF5 => ?_⟩))⟩
    have g5 : Grow w3 w5 := hF5.grow
    have g15 : Grow w1 w5 := (g2.trans g3).trans g5
    refine ⟨hcell g15 6 _ rfl, ?_⟩
    have hsl5 : Sl w5 (some ⟨l4, 0, none⟩) ([putMan mn].map sv8') := .inr ⟨l4, 0, rfl, _, _, _, hF5.blk 1 rfl, fun i hi => by
      have : i = 0 := by simpa using hi
      subst this; rfl⟩
    have hptl : (putTextL [putMan mn]).length ≤ 1208 := by rw [putText1, List.length_append]; omega
    refine PutText_spec hsl5 rfl (by simp) (by omega) fun w6 g6 => ⟨_, rfl, hF5.after g6, hcell (g15.trans g6) 6 _ rfl, by rw [str_size]; omega, ?_⟩
    refine Join0_spec (hq2.sl.grow (g15.trans g6)) rfl hlc (by omega) (by omega) fun w7 g7 => ⟨_, rfl, (hF5.after g6).after g7, hcell ((g15.trans g6).trans g7) 6 _ rfl, by rw [str86, str_append, str_size, str_size, List.length_append, List.length_singleton]; omega, ?_⟩
    rw [str86, str_append, str_append]
    have g17 := (g15.trans g6).trans g7
    have g07 := g01.trans g17
    have hF7 := (hF5.after g6).after g7
    have hp7 := h.grow g07
    have hrl : (recV mn list).length = 1 + (putTextL [putMan mn]).length + list.flatten.length := by simp [recV]; omega
    have hF7' : Fs x.reg w [⟨x.p, pubC x.bj x.each x.last x.com x.m, T.pub_Pub, true⟩] w7 := hF7.sub (List.Sublist.cons_cons _ (List.nil_sublist _))
    have hl4 : w.heap.size ≤ l4 := by have := g01.size; have := g2.size; have := g3.size; omega
    refine write_spec (s := recV mn list) hp7.blk hp7.jrn h.room hsr (by omega) (fun hs1 hs2 w8 q' c' hj8 g8 hq' => ?_) fun hno => ?_
    · have hpub := hp7.jrn.pub hp7.blk
      obtain ⟨nm, hm⟩ := hp7.map
      have hmj := hp7.jrn.mapb hm
      have hF8 := hF7.step g8 (fun z hz => by
        rcases List.mem_cons.1 hz with rfl | hz
        · exact hpub
        · simp at hz; subst hz
          exact fun e => by have := hlt _ (.inr (.inr e)); simp only [] at this; omega) (fun k _ e => .inr (.inr e))
      have hb8 : ¬ jrnS x.bj x.bd x.q b := fun e => hb0 (.inl (.inr (.inr e)))
      have hv7 : VerO x.dom w7 b mn list := hv1.keep g17 (fun _ _ e => e.elim) (fun _ _ e => e)
      have hv8 : VerO x.dom w8 b mn list := hv7.keep g8 (fun _ _ e => .inl (.inr (.inr e))) (fun _ _ e => e)
      have hc8 : w8.cell? ⟨b, 6, none⟩ = some (.slice ql list.length cl) := by
        rw [cell_blk (g8.get (Grow.get g17 hb1) hb8)]; rfl
      refine ⟨_, rfl, _, _, _, _, _, hF8, hc8, fun _ => ?_, (fun t x h => by cases h), .inl rfl⟩
      have hb8' := g8.get hp7.blk hpub
      have hm8 := hm.keep g8 hmj
      refine show_spec (ver := x.last + 1) (mn := mn) (list := list) hb8' hm8 h.shown (hv8.keep (.refl (fun _ => False) _) (fun _ _ e => e.elim) (fun k _ e => .inl (e.elim .inl fun e => .inr (.inl e)))) hL hmv (by omega) fun w9 cc n9 g9 hb9 hm9 => ?_
      have hF8' : Fs x.reg w [⟨x.p, pubC x.bj x.each x.last x.com x.m, T.pub_Pub, true⟩] w8 := hF8.sub (List.Sublist.cons_cons _ (List.nil_sublist _))
      have hF9 : Fs x.reg w [⟨x.p, pubC x.bj x.each ((x.last + 1 : Nat) : Int) x.com x.m, T.pub_Pub, true⟩] w9 := hF8'.mod g9 hb9 (fun z hz => by cases hz) fun k _ e => e.elim .inl fun e => .inr (.inl e)
      refine ⟨rfl, _, _, _, _, _, hF9, ?_⟩
      have hv9 : VerO x.dom w9 b mn list := hv8.keep g9 (fun k _ e => .inl (e.elim .inl fun e => .inr (.inl e))) (fun _ _ e => e)
      have hc9 : w9.cell? ⟨b, 0, none⟩ = some (.int .i64 ((x.last + 1 : Nat) : Int)) := by
        obtain ⟨q9, c9, ql9, cl9, h9, _⟩ := hv9
        rw [cell_blk h9, ← hmv]; rfl
      refine Dr_some.2 (Dr_some.2 (Dr_some.2 (Dr_some.2 ⟨_, hc9, ?_⟩)))
      have hqn : ∀ a, q' = some a → x.q = some a ∨ w.heap.size ≤ a.block := fun a ha => (hq' a ha).imp id fun h => Nat.le_trans g07.size h
      have hreg := jrn_next (w' := w9) hqn
      have hmj8 : ¬ (fun k => k = x.p ∨ k = x.m) x.bj := by
        rintro (e | e)
        · exact hpub (.inl e.symm)
        · exact hmj (.inl e.symm)
      have hj9 : JrnAt w9 x.bj x.bd q' c' (x.recs ++ [recV mn list]) := hj8.keep g9 fun k e hk => by
        rcases e with rfl | rfl
        · exact hj8.pub hb8' hk
        · exact hj8.mapb hm8 hk
      let x' : PubS := ⟨x.p, x.bj, x.bd, x.m, x.each, q', c', x.last + 1, x.com, x.recs ++ [recV mn list], fun k v => updR x.R (.int .i64 ((x.last + 1 : Nat) : Int)) (.agg #[.pointer (some ⟨b, 0, none⟩), .pointer (some ⟨cc, 0, none⟩)]) k v ∧ ¬ delP ((x.last + 1 : Nat) : Int) x.com k, (fun i => if i = x.last + 1 then mn else x.man i), x.ex⟩
      have hlog : (logL (x.recs ++ [recV mn list])).length = (logL x.recs).length + (recV mn list).length + 6 := by
        rw [logL_snoc, List.length_append, sealL_len]; omega
      have hreg8 : ∀ k, k < w8.heap.size → x'.reg k → x.reg k ∨ w7.heap.size ≤ k := fun k _ e => by
        rcases jrn_next (w := w7) (w' := w9) hq' k e with h | h
        · exact .inl h
        · exact .inr h
      -- versions that were known lie in blocks of before
      have kept7 : ∀ k v, x.R k v → KeptAt x.dom w7 x.last x.man k v := hp7.kept
      have keep9 : ∀ {b mn list}, VerO x.dom w7 b mn list → VerO x'.dom w9 b mn list := fun hv => by
        have a8 : VerO (fun k => (k = x.p ∨ k = x.m ∨ jrnS x.bj x.bd q' k) ∨ x.ex k) w8 _ _ _ := hv.keep g8 (fun _ _ e => .inl (.inr (.inr e))) (fun k hk e => e.elim (fun e => .inl ((jrn_next (w := w7) (w' := w8) hq' k e).elim id fun h => by omega)) .inr)
        exact a8.keep g9 (fun k _ e => .inl (e.elim .inl fun e => .inr (.inl e))) (fun _ _ e => e)
      refine h1 w9 x' ⟨hb9, hj9, ⟨n9, hm9⟩, ?_, ?_, by show x.com ≤ x.last + 1; have := h.com_le; omega, by show x.last + 1 ≤ _; rw [List.length_append, List.length_singleton]; have := h.last_le; omega, by show (logL _).length ≤ _; rw [hlog]; omega, h.each1, h.each2, fun k hk => ?_, fun k hk => Nat.lt_of_lt_of_le (h.exlt k hk) hF9.chg.size, fun j v hr => only_of hr.2, h.rep.snoc (.ver mn list) ⟨hL, hmv⟩ hs1 rfl⟩ hF9.chg rfl rfl rfl rfl rfl ?_ ?_ rfl hreg hgg
      · rintro k v ⟨hr, _⟩
        rcases hr with ⟨rfl, rfl⟩ | ⟨hne, hr⟩
        · exact ⟨x.last + 1, b, cc, mn, list, by omega, Nat.le_refl _, rfl, rfl, keep9 hv7, hL, hmv, by show mn = if x.last + 1 = x.last + 1 then mn else x.man (x.last + 1); rw [if_pos rfl]⟩
        · obtain ⟨i, b', c', mn', list', k1, k2, k3, k4, k5, k6⟩ := kept7 k v hr
          exact ⟨i, b', c', mn', list', k1, by show i ≤ x.last + 1; omega, k3, k4, keep9 k5, k6.1, k6.2.1, by show mn' = if i = x.last + 1 then mn else x.man i; rw [if_neg (by omega)]; exact k6.2.2⟩
      · intro i hi1 hi2 hi3
        have hi2' : i ≤ x.last + 1 := hi2
        have hi3' : x.last + 1 < i + 3 ∨ i = x.com := hi3
        have hnd : ¬ delP ((x.last + 1 : Nat) : Int) x.com (.int .i64 (i : Int)) := by
          rintro ⟨j, hj, k1, k2⟩
          have e2 : (i : Int) = j := by injection hj
          subst e2
          rcases hi3' with h' | h'
          · omega
          · exact k2 (by rw [h'])
        by_cases hi : i = x.last + 1
        · subst hi; exact ⟨_, .inl ⟨rfl, rfl⟩, hnd⟩
        · obtain ⟨v, hv⟩ := h.has i hi1 (by omega) (hi3'.imp (fun h => by omega) id)
          refine ⟨v, .inr ⟨fun e => hi ?_, hv⟩, hnd⟩
          have e2 : (i : Int) = ((x.last + 1 : Nat) : Int) := by injection e
          omega
      · rcases hreg k hk with e | e
        · exact h.lo k e
        · omega
      · show 200000 - (logL (x.recs ++ [recV mn list])).length < 200000 - (logL x.recs).length
        rw [hlog]; omega
      · show ((200000 - (logL x.recs).length : Nat) : Int) ≤ ((200000 - (logL (x.recs ++ [recV mn list])).length : Nat) : Int) + 2700 + 9 * nodes + 8 * l.length
        rw [hlog]; omega
    · refine ⟨_, rfl, _, _, _, _, _, hF7, hcell g17 6 _ rfl, (fun h => by cases h), fun t v he => ?_, .inr ⟨_, _, rfl⟩⟩
      refine h2 w7 _ g07 hp7 ⟨_, _, rfl⟩ fun hh => hno ?_
      have hr := h.room
      have h3 := hh.2.1
      have h4 := hh.2.2
      unfold PubS.room at h4
      omega
  · have g01 := g0.trans g1
    refine ⟨_, _, rfl, hF0.reset.after g1, trivial, (fun h => by obtain ⟨t, x, rfl⟩ := hv; cases h), fun t v he => ?_, .inr (by obtain ⟨t, x, h⟩ := hv; exact ⟨t, x, h⟩)⟩
    exact h2 w1 _ g01 (h.grow g01) hv fun hh => hbad ⟨by omega, by omega, hh.1⟩

theorem tyI_shown : ∃ i, PR.info? T.pub_shown = some i ∧ i.zero = some (.agg #[.pointer none, .pointer none]) := by
  have h : (match PR.info? T.pub_shown with | some i => (match i.zero with | some (.agg ⟨[.pointer none, .pointer none]⟩) => true | _ => false) | none => false) = true := by kernel_rfl
  split at h
  · rename_i i hi
    refine ⟨i, hi, ?_⟩
    split at h
    · assumption
    · cases h
  · cases h
theorem map_zero : ∀ w : World, (zeroValue T.pub_shown).run PR w = .ok (.agg #[.pointer none, .pointer none]) w := fun w => by
  obtain ⟨i, hi, hz⟩ := tyI_shown
  simp [zeroValue, typeInfo, hi, hz]
theorem commit_spec {w : World} {p bj m n each last com ver : Nat} {R : Value → Value → Prop} {v : Value} (hb : w.heap[p]? = some (.cells (pubC bj each last com m) T.pub_Pub (0, 0))) (hm : MapP w T.int m n R) (hsh : shownR R) (hlast : last ≤ 1000000) (hR : R (.int .i64 (ver : Int)) v) (hlt : com < ver) {K : Value → World → Prop}
    (hK : ∀ w' n', Chg (fun k => k = p ∨ k = m) w w' → w'.heap[p]? = some (.cells (pubC bj each last ver m) T.pub_Pub (0, 0)) → MapP w' T.int m n' (fun k v => R k v ∧ ¬ delP last ver k) → K (.tuple #[]) w') :
    CallV PR F.p_pub_Pub_commit ⟨[.pointer (some ⟨p, 0, none⟩), .int .i64 (ver : Int)]⟩ w K := by
  have hpm := mapNe hb hm
  obtain ⟨i, b, c, k2, k3, k4⟩ := hsh _ _ hR
  have hvi : ver = i := by
    have e2 : (ver : Int) = (i : Int) := by injection k3
    omega
  subst hvi
  refine pub_Pub_commit p (some ⟨bj, 0, none⟩) each last com (some m) ver (fun k => k = p ∨ k = m) K w ((Fr.init _ w).entry hb (fun x h => by cases h) fun _ => .inl rfl) ⟨.inl rfl, trivial⟩ ?_
  refine lookup_rn keyedI map_shown hm (key_int (i := (ver : Int)) (by omega) (by omega)) true map_zero (fun v' hv' => ?_) fun hno => absurd hR (hno v)
  have : v' = v := hm.inj hv' hR
  subst this
  subst k4
  refine ⟨_, _, true, rfl, (fun _ => ⟨(Fr.init _ w).entry hb (fun x h => by cases h) fun _ => .inl rfl, fun l0 hl0 => ⟨fun _ w1 hF1 => ?_, fun hh => absurd hlt (by omega)⟩⟩), fun h => by cases h⟩
  have g1 : Chg (· = p) w w1 := hF1.stp.mono fun i hi he => by simp at he; rcases he with e | e; exact e; omega
  have hm1 := hm.keep g1 hpm.symm
  refine trim_spec (hF1.blk 0 rfl) hm1 hsh (by omega) fun w2 g2 hm2 => ?_
  have hF2 := hF1.reset.step g2 (fun z hz => by simp at hz; subst hz; exact hpm) fun k _ e => .inr e
  exact ⟨rfl, _, _, _, _, _, hF2, hK w2 _ hF2.chg (hF2.blk 0 rfl) hm2⟩
theorem Commit_spec {N : Nat} {w : World} {x : PubS} (h : PubAt N w x) (hN : N ≤ w.heap.size) {ver : Int} (hi : -9223372036854775808 ≤ ver ∧ ver ≤ 9223372036854775807) {K : Value → World → Prop}
    (h1 : ∀ w' x', PubAt N w' x' → Chg x.reg w w' → x'.p = x.p → x'.bd = x.bd → x'.each = x.each → x'.last = x.last → ver = x'.com → x.com < x'.com → x'.room < x.room → x.room ≤ x'.room + 20 → x'.man = x.man → x'.com ≤ x'.last → x'.ex = x.ex → (∀ k, x'.reg k → x.reg k ∨ w.heap.size ≤ k) → K .nilIface w')
    (h2 : ∀ w' v, Grow w w' → PubAt N w' x → isErr v → ¬ (x.com < ver ∧ ver ≤ x.last ∧ x.last < ver + 3 ∧ 20 ≤ x.room) → K v w') :
    CallV PR F.p_pub_Pub_Commit ⟨[.pointer (some ⟨x.p, 0, none⟩), .int .i64 ver]⟩ w K := by
  obtain ⟨hsl, hsc, hsr⟩ := h.small
  obtain ⟨n, hm⟩ := h.map
  have hpm := mapNe h.blk hm
  have hlt := h.lt
  have h0 : Fs x.reg w [⟨x.p, pubC x.bj x.each x.last x.com x.m, T.pub_Pub, true⟩] w := (Fr.init _ w).entry h.blk (fun x h => by cases h) fun _ => .inl rfl
  refine pub_Pub_Commit x.p (some ⟨x.bj, 0, none⟩) x.each x.last x.com (some x.m) ver x.reg K w h0 ⟨.inl rfl, trivial⟩ ?_
  refine lookup_rn keyedI map_shown hm (key_int hi.1 hi.2) true map_zero (fun v hv => ?_) fun hno => ?_
  · obtain ⟨i, b, c, mn, list, k1, k2, k3, k4, k5⟩ := h.kept _ _ hv
    have hvi : ver = i := by injection k3
    subst hvi
    subst k4
    refine ⟨_, _, true, rfl, (fun _ => ⟨h0, fun l0 hl0 => ⟨fun hle w1 hF1 => ?_, fun hgt w1 hF1 => ?_⟩⟩), fun h => by cases h⟩
    · have g1 : Grow w w1 := (hF1.unM hl0).grow
      exact h2 w1 _ g1 (h.grow g1) ⟨_, _, rfl⟩ fun hh => by omega
    · have g1 : Grow w w1 := (hF1.unM hl0).grow
      have hF1' := (hF1.unM hl0).reset
      refine PutShort_spec (n := (i : Int)) (by omega) fun w2 g2 => ⟨_, _, rfl, hF1'.after g2, ?_⟩
      have hF2 := hF1'.after g2
      have g02 := g1.trans g2
      have hpl := putShort_le i (by omega)
      rw [Int.toNat_natCast] at *
      refine ⟨by rw [str_size]; omega, ?_⟩
      rw [str67, str_append]
      have hp2 := h.grow g02
      obtain ⟨n2, hm2⟩ := hp2.map
      have hrl : (recC i).length = 1 + (putShort i).length := by simp [recC]; omega
      refine write_spec (s := recC i) hp2.blk hp2.jrn h.room hsr (by omega) (fun hs1 hs2 w3 q' c' hj3 g3 hq' => ?_) fun hno => ?_
      · have hpub := hp2.jrn.pub hp2.blk
        have hmj := hp2.jrn.mapb hm2
        have hF3 := hF2.step g3 (fun z hz => by simp at hz; subst hz; exact hpub) (fun k _ e => .inr (.inr e))
        refine ⟨_, rfl, _, _, _, _, _, hF3, fun _ => ?_, (fun t x h => by cases h), .inl rfl⟩
        have hb3 := g3.get hp2.blk hpub
        have hm3 := hm2.keep g3 hmj
        have hlog : (logL (x.recs ++ [recC i])).length = (logL x.recs).length + (recC i).length + 6 := by
          rw [logL_snoc, List.length_append, sealL_len]; omega
        let x1 : PubS := ⟨x.p, x.bj, x.bd, x.m, x.each, q', c', x.last, x.com, x.recs ++ [recC i], x.R, x.man, x.ex⟩
        have hqn : ∀ a, q' = some a → x.q = some a ∨ w.heap.size ≤ a.block := fun a ha => (hq' a ha).imp id fun h => Nat.le_trans g02.size h
        have hreg := jrn_next (w' := w3) hqn
        have k3' : ∀ k v, x.R k v → KeptAt x1.dom w3 x.last x.man k v := fun k v hr => (hp2.kept k v hr).keep g3 (fun _ _ e => .inl (.inr (.inr e))) (fun k hk e => e.elim (fun e => .inl ((jrn_next (w := w2) (w' := w3) hq' k e).elim id fun h => by omega)) .inr) (Nat.le_refl _)
        have room3 : (logL x1.recs).length ≤ 200000 := by show (logL _).length ≤ _; rw [hlog]; omega
        refine commit_spec hb3 hm3 h.shown (by omega) (ver := i) hv (by omega) fun w4 n4 g4 hb4 hm4 => ?_
        have hF4 := hF3.mod g4 hb4 (fun z hz => by cases hz) fun k _ e => e.elim .inl fun e => .inr (.inl e)
        refine ⟨rfl, _, _, _, _, _, hF4, ?_⟩
        have g4' : ∀ k, (k = x1.p ∨ k = x1.m) → x1.reg k := fun k e => e.elim .inl fun e => .inr (.inl e)
        let x2 : PubS := ⟨x.p, x.bj, x.bd, x.m, x.each, q', c', x.last, i, x.recs ++ [recC i], fun k v => x.R k v ∧ ¬ delP x.last i k, x.man, x.ex⟩
        have hro : (RecO.com i).ok ⟨x.last, x.com, x.man⟩ := ⟨by show x.com < i; omega, k2, by
          show x.last < i + 3
          rcases h.only i _ hv with h' | h'
          · exact h'
          · omega⟩
        refine h1 w4 x2 ⟨hb4, hj3.keep g4 fun k e hk => ?_, ⟨n4, hm4⟩, fun k v hr => (k3' k v hr.1).keep g4 (fun k _ e => .inl (g4' k e)) (fun _ _ e => e) (Nat.le_refl _), fun j hj1 hj2 hj3 => ?_, k2, (by show x.last ≤ _; rw [List.length_append]; have := h.last_le; omega), room3, h.each1, h.each2, fun k hk => (hreg k hk).elim (h.lo k) fun e => by omega, fun k hk => Nat.lt_of_lt_of_le (Nat.lt_of_lt_of_le (hp2.exlt k hk) g3.size) g4.size, fun j v hr => ?_, h.rep.snoc (.com i) hro hs1 rfl⟩ hF4.chg rfl rfl rfl rfl rfl (by show x.com < i; omega) ?_ ?_ rfl k2 rfl hreg
        · rcases e with rfl | rfl
          · exact hj3.pub hb3 hk
          · exact hj3.mapb hm3 hk
        · have hj3' : x.last < j + 3 ∨ j = i := hj3
          have hnd : ¬ delP x.last i (.int .i64 (j : Int)) := by
            rintro ⟨j', hj', a1, a2⟩
            have e2 : (j : Int) = j' := by injection hj'
            subst e2
            rcases hj3' with h' | h'
            · omega
            · exact a2 (by rw [h'])
          rcases hj3' with h' | rfl
          · obtain ⟨v, hv⟩ := h.has j hj1 hj2 (.inl h')
            exact ⟨v, hv, hnd⟩
          · exact ⟨_, hv, hnd⟩
        · exact only_of hr.2
        · show 200000 - (logL (x.recs ++ [recC i])).length < 200000 - (logL x.recs).length
          rw [hlog]; omega
        · show 200000 - (logL x.recs).length ≤ 200000 - (logL (x.recs ++ [recC i])).length + 20
          rw [hlog]; omega
      · refine ⟨_, rfl, _, _, _, _, _, hF2, (fun h => by cases h), fun t v he => ?_, .inr ⟨_, _, rfl⟩⟩
        refine h2 w2 _ g02 hp2 ⟨_, _, rfl⟩ fun hh => hno ?_
        have h4 := hh.2.2.2
        have hr := h.room
        unfold PubS.room at h4
        omega
  · refine ⟨_, _, false, rfl, (fun h => by cases h), fun _ => ⟨h0, fun l2 hl2 w1 hF1 => ?_⟩⟩
    have g1 : Grow w w1 := (hF1.unM hl2).grow
    refine h2 w1 _ g1 (h.grow g1) ⟨_, _, rfl⟩ fun hh => ?_
    obtain ⟨i, rfl⟩ := Int.eq_ofNat_of_zero_le (a := ver) (by omega)
    obtain ⟨v, hv⟩ := h.has i (by omega) (by omega) (.inl (by omega))
    exact hno v hv
end Go.Vc

/-! A part of the proof that two events of one line are one event: the calculus that follows known memory by computing, and its soundness. By an AI agent. -/

namespace Go.Vc
open Go
/-! ## elements of several cells -/
theorem flatK_at {α : Type} {s : Nat} {f : α → List Value} (hf : ∀ x, (f x).length = s) : ∀ {l : List α} {k j : Nat}, (h : k < l.length) → j < s → (l.flatMap f)[k * s + j]? = (f l[k])[j]?
  | a :: l, 0, j, h, hj => by
    rw [List.flatMap_cons, List.getElem?_append_left (by rw [hf]; omega)]; simp
  | a :: l, k + 1, j, h, hj => by
    have e : (k + 1) * s + j = s + (k * s + j) := by rw [Nat.add_mul]; omega
    rw [List.flatMap_cons, List.getElem?_append_right (by rw [hf]; omega), hf, e, Nat.add_sub_cancel_left, flatK_at hf (l := l) (k := k) (by simpa using h) hj]; rfl
theorem flatK_size {α : Type} {s : Nat} {f : α → List Value} (hf : ∀ x, (f x).length = s) : ∀ l : List α, (l.flatMap f).length = l.length * s
  | [] => by simp
  | a :: l => by rw [List.flatMap_cons, List.length_append, hf, flatK_size hf l, List.length_cons, Nat.add_mul]; omega
theorem Sl.rdN {α : Type} {s : Nat} {f : α → List Value} (hf : ∀ x, (f x).length = s) (h0 : 0 < s) {w : World} {q : Option Addr} {l : List α} (h : Sl w q (l.flatMap f)) {n : Int} {k m : Nat} {K : Addr → Prop} (hn : n = k) (hk : k < l.length) (hm : k < m)
    (hK : ∀ a, (∀ j v, (f l[k])[j]? = some v → w.cell? (a.add j) = some v) → K a) : Dr q (fun a => 0 ≤ n ∧ n < ((m : Nat) : Int) ∧ Dr (some (Addr.add a (n.toNat * s))) K) := by
  subst hn
  have hel := flatK_size hf l
  have hpos : k * s < l.length * s := Nat.mul_lt_mul_of_pos_right hk h0
  obtain ⟨b, o, rfl, hc⟩ := h.ex (by intro e; rw [e] at hel; simp at hel; omega)
  refine Dr_some.2 ⟨by omega, by omega, Dr_some.2 ?_⟩
  rw [add_mk, Int.toNat_natCast]
  refine hK _ fun j v hv => ?_
  have hj : j < s := by
    rcases Nat.lt_or_ge j s with h | h
    · exact h
    · rw [List.getElem?_eq_none (by rw [hf]; exact h)] at hv; cases hv
  have hb : k * s + j < (l.flatMap f).length := by
    rw [hel]
    have : (k + 1) * s ≤ l.length * s := Nat.mul_le_mul_right s hk
    rw [Nat.add_mul] at this; omega
  have := hc (k * s + j) hb
  rw [flatK_at hf hk hj, hv] at this
  rw [add_mk, Nat.add_assoc]; exact this
end Go.Vc

/-! A part of the proof that two events of one line are one event: the calculus that follows known memory by computing, and its soundness. By an AI agent. -/












namespace Go.Vc
open Go Go.ChangeShapes Go.WideShapes Go.Deep Go.ChangeAt Go.RowKit
/-! ## what an argument reads, opened; what is left behind a call -/
noncomputable def flds (t : TypeId) : Option (List (Nat × Nat)) := match PR.underlying t with
  | some (.struct fs) => some (fs.toList.map fun f => (f.type, f.offset))
  | _ => none
theorem flds_of {t : TypeId} {l : List (Nat × Nat)} (h : flds t = some l) : ∃ fs : Array Field, PR.underlying t = some (.struct fs) ∧ fs.toList.map (fun f => (f.type, f.offset)) = l := by
  unfold flds at h
  split at h
  · rename_i fs hfs
    exact ⟨fs, hfs, Option.some.inj h⟩
  · cases h
theorem flds_at {fs : Array Field} {l : List (Nat × Nat)} (h : fs.toList.map (fun f => (f.type, f.offset)) = l) {i : Nat} {x : Nat × Nat} (hi : l[i]? = some x) : ∃ f, fs[i]? = some f ∧ f.type = x.1 ∧ f.offset = x.2 := by
  rw [← h, List.getElem?_map] at hi
  rw [← Array.getElem?_toList]
  cases hf : fs.toList[i]? with
  | none => rw [hf] at hi; cases hi
  | some f => rw [hf] at hi; cases hi; exact ⟨f, rfl, rfl, rfl⟩
theorem sl_of_cells {w : World} {a : Addr} {xs : List Value} (h : ∀ i, i < xs.length → w.cell? (a.add i) = xs[i]?) : Sl w (some a) xs := by
  cases xs with
  | nil => exact .inl rfl
  | cons x xs =>
    right
    have h0 := h 0 (by simp)
    have h0' : w.cell? a = some x := by simpa [Addr.add] using h0
    have hs := World.cell?_spot h0'
    obtain ⟨b, o, sp⟩ := a
    simp only at hs
    subst hs
    refine ⟨b, o, rfl, ?_⟩
    unfold World.cell? at h0'
    cases hb : w.heap[b]? with
    | none => simp [hb] at h0'
    | some ob =>
      cases ob with
      | cells cs T fz =>
        refine ⟨cs, T, fz, hb, fun i hi => ?_⟩
        have hh := h i hi
        have e : w.cell? ((⟨b, o, none⟩ : Addr).add i) = cs[o + i]? := by
          by_cases hi0 : i = 0
          · subst hi0; simp [Addr.add, World.cell?, hb]
          · simp [Addr.add, hi0, World.cell?, hb]
        rw [← e, hh]
      | _ => simp [hb] at h0'
/-- a slice of elements of s cells, each of which opens -/
theorem slice_of {α : Type} {s : Nat} {f : α → List Value} (hf : ∀ x, (f x).length = s) (hs0 : 0 < s) {t e : TypeId} (ht : PR.underlying t = some (.slice e)) (hc : PR.cellsOf e = s) {G : α → Prop} {H : Type} {enc : TypeId × Value → H} {w : World} {base : Nat} {spare : Nat → Bool} {held : Bool}
    (each : ∀ (n : Nat) (cs : List Value) x, DataW.trod enc PR w base spare held n e cs = some x → cs.length = s → ∃ a : α, cs = f a ∧ G a) {fuel : Nat} {v : Value} {x : DataW H × List MemPlace} (h : DataW.trod enc PR w base spare held fuel t [v] = some x) :
    ∃ (q : Option Addr) (l : List α) (c : Nat), v = .slice q l.length c ∧ Sl w q (l.flatMap f) ∧ (∀ a ∈ l, G a) ∧ l.length ≤ c := by
  rcases open_slice ht h with ⟨e1, _⟩ | ⟨a, len, cap, m, n, D, Pl, e1, _, hlc, _, hm, _, hx⟩
  · cases e1
    exact ⟨none, [], 0, rfl, .inl rfl, (fun a ha => by cases ha), Nat.le_refl _⟩
  · cases e1
    rw [hc] at hx
    have hlm : len ≤ m := by rw [hm]; split <;> omega
    have ea : ∀ i, i < len → ∃ z : α, (∀ j v, (f z)[j]? = some v → w.cell? (a.add (i * s + j)) = some v) ∧ G z := by
      intro i hi
      obtain ⟨cs', h1, h2⟩ := hx i (by omega)
      obtain ⟨_, hlen, hcell⟩ := World.cells?_some h1
      obtain ⟨z, rfl, hz⟩ := each n cs' _ h2 hlen
      refine ⟨z, fun j v hj => ?_, hz⟩
      have hjl : j < s := by
        rcases Nat.lt_or_ge j s with h | h
        · exact h
        · rw [List.getElem?_eq_none (by rw [hf]; exact h)] at hj; cases hj
      have := hcell j hjl
      rw [add_add] at this
      rw [this, hj]
    have hne : len = 0 ∨ Nonempty α := by
      rcases Nat.eq_zero_or_pos len with h | h
      · exact .inl h
      · obtain ⟨z, _⟩ := ea 0 h; exact .inr ⟨z⟩
    rcases hne with h0 | ⟨⟨z0⟩⟩
    · subst h0
      exact ⟨some a, [], cap, rfl, .inl rfl, (fun a ha => by cases ha), Nat.zero_le _⟩
    · have : Inhabited α := ⟨z0⟩
      obtain ⟨g, hg⟩ := choose_lt ea
      refine ⟨some a, (List.range len).map g, cap, by simp, sl_of_cells fun i hi => ?_, fun z hz => ?_, by simpa using hlc⟩
      · rw [flatK_size hf] at hi
        simp only [List.length_map, List.length_range] at hi
        have hk : i / s < len := Nat.div_lt_of_lt_mul (by rw [Nat.mul_comm]; exact hi)
        have hj : i % s < s := Nat.mod_lt _ hs0
        have e2 : i / s * s + i % s = i := by rw [Nat.mul_comm]; exact Nat.div_add_mod i s
        have h3 := flatK_at hf (l := (List.range len).map g) (k := i / s) (j := i % s) (by simpa using hk) hj
        rw [e2] at h3
        rw [h3]
        simp only [List.getElem_map, List.getElem_range]
        have hlt : i % s < (f (g (i / s))).length := by rw [hf]; exact hj
        have := (hg (i / s) hk).1 (i % s) _ (List.getElem?_eq_getElem hlt)
        rw [e2] at this
        rw [this, List.getElem?_eq_getElem hlt]
      · obtain ⟨i, hi, rfl⟩ := List.mem_map.1 hz
        exact (hg i (List.mem_range.1 hi)).2
theorem int_range {n : Int} (h : (Lit.int .i64 n).wf = true) : -9223372036854775808 ≤ n ∧ n ≤ 9223372036854775807 := by
  simp [Lit.wf, IntKind.min, IntKind.max, IntKind.bits, IntKind.signed] at h; omega
theorem uInt : PR.underlying T.int = some (.int .i64) := by kernel_rfl
theorem cInt : PR.cellsOf T.int = 1 := by kernel_rfl
theorem uBool : PR.underlying T.bool = some .bool := by kernel_rfl
theorem uStr : PR.underlying T.string = some .string := by kernel_rfl
theorem cStr : PR.cellsOf T.string = 1 := by kernel_rfl
theorem uStrs : PR.underlying T.sl_string = some (.slice T.string) := by kernel_rfl
theorem cStrs : PR.cellsOf T.sl_string = 1 := by kernel_rfl
theorem okWide_array {P : Program} {w : World} {r : Reach} {base : Nat} {t e : TypeId} {n : Nat} {v : Value} (ht : P.underlying t = some (.array n e)) (h : Value.okWide P w r base t v) : ∃ cs, v = .agg cs ∧ cs.size = P.cellsOf t := by
  simp only [Value.okWide, ht] at h
  obtain ⟨cs, h1, h2, _⟩ := h
  exact ⟨cs, h1, h2⟩
theorem flat_one {α : Type} (f : α → Value) (l : List α) : l.flatMap (fun n => [f n]) = l.map f := by
  induction l with
  | nil => rfl
  | cons b l ih => rw [List.flatMap_cons, ih]; rfl
section
variable {H : Type} {enc : TypeId × Value → H} {w : World} {base : Nat} {spare : Nat → Bool} {held : Bool}
/-- the fields of a struct -/
theorem struct_of {t : TypeId} {l : List (Nat × Nat)} (hl : flds t = some l) {n : Nat} {cs : List Value} {x : DataW H × List MemPlace} (h : DataW.trod enc PR w base spare held n t cs = some x) :
    ∃ m, ∀ (i : Nat) (p : Nat × Nat), l[i]? = some p → ∃ y, DataW.trod enc PR w base spare held m p.1 ((cs.drop p.2).take (PR.cellsOf p.1)) = some y := by
  obtain ⟨fs, hu, hm⟩ := flds_of hl
  obtain ⟨xs, m, _, _, _, hxl, hg⟩ := DataW.trod_struct hu h
  refine ⟨m, fun i p hi => ?_⟩
  obtain ⟨f, h1, h2, h3⟩ := flds_at hm hi
  have := hg i f h1
  rw [h2, h3] at this
  have hil : i < xs.length := by
    rw [hxl]
    rcases Nat.lt_or_ge i fs.size with h | h
    · exact h
    · rw [Array.getElem?_eq_none h] at h1; cases h1
  exact ⟨_, this.trans (List.getElem?_eq_getElem hil)⟩
theorem strs_of {fuel : Nat} {v : Value} {x : DataW H × List MemPlace} (h : DataW.trod enc PR w base spare held fuel T.sl_string [v] = some x) : ∃ (q : Option Addr) (bs : List ByteArray) (c : Nat), v = .slice q bs.length c ∧ Sl w q (bs.map .string) := by
  obtain ⟨q, l, c, h1, h2, _, _⟩ := slice_of (α := ByteArray) (s := 1) (f := fun n => [.string n]) (fun _ => rfl) (by decide) uStrs cStr (G := fun _ => True) (fun n cs x hx hlen => by
    obtain ⟨s, e, _⟩ := DataW.trod_string uStr hx
    exact ⟨s, e, trivial⟩) h
  rw [flat_one] at h2
  exact ⟨q, l, c, h1, h2⟩
end
section
variable {H : Type} {enc : TypeId × Value → H} {P : Program}
theorem post_of_below {f : Func} {s : ChangeSpec} {apart fresh handsOn again : Bool} {W W' : World} {args : Array Value} {v : Value} {ds gs : List (DataW H)} {before pa pv : List MemPlace}
    (hW : DataW.Whole enc P f.params.toList s.vars apart W args.toList ds gs before)
    (hres : ∀ (b : Nat) (sp : Nat → Bool) (hd : Bool), DataW.TrodAll enc P W' b sp hd f.resultTypes.toList (v.resultList f.resultTypes.size) (s.fn H (ds ++ gs)).results [])
    (hargs : ∀ sp : Nat → Bool, (∀ p ∈ before, sp p.block = true) → DataW.TrodAll enc P W' 0 sp true f.params.toList args.toList (s.fn H (ds ++ gs)).args pa)
    (hvars : ∀ sp : Nat → Bool, (∀ p ∈ before, sp p.block = true) → DataW.TrodVars enc P W' sp s.vars (s.fn H (ds ++ gs)).vars pv)
    (hps : before = pa ++ pv) (hb : Below W.heap.size W W')
    (hok : ∀ (j : Nat) (t : TypeId) (r : Value), f.resultTypes[j]? = some t → (v.resultList f.resultTypes.size)[j]? = some r → Value.okWide P W' .any 0 t r) :
    s.post enc P f apart fresh handsOn again W args v W' := by
  have hlt : ∀ p ∈ before, p.block < W.heap.size := fun p hp => hW.lt p hp
  have hold : ∀ p ∈ before, (fun b => decide (b < W.heap.size)) p.block = true := fun p hp => by simpa using hlt p hp
  refine ⟨ds, gs, before, [], pa, pv, hW, hres _ _ _, hargs _ hold, hvars _ hold, World.keptBut_mono (fun p hp => ⟨hp, ?_⟩) (hb.frame (· ∈ before)), fun _ => ?_⟩
  · rw [hps, List.mem_append] at hp
    exact Or.inr hp
  · obtain ⟨_, _, _, _, _, hz, hn⟩ := hW
    refine ⟨hok, _, _, ([] ++ pa) ++ pv, ⟨[] ++ pa, pv, trodAll_append (hargs _ (fun _ _ => rfl)) (hres _ _ _), hvars _ (fun _ _ => rfl), rfl, ?_, ?_⟩, ?_⟩
    · intro b off hp
      have hin : MemPlace.cell b off ∈ before := by rw [hps]; simpa using hp
      rw [hb.frozen (hlt _ hin)]
      exact hz b off hin
    · intro ha
      have := hn ha
      rw [hps] at this
      simpa using this
    · intro p hp _
      rw [hps]
      simpa using hp
end
theorem below_of_grow {w w' : World} (h : Grow w w') : Below w.heap.size w w' := ⟨h.os, h.tape, h.output, h.size, fun k hk => h.block k hk (fun e => e)⟩
theorem ownG : ownKnob PR.godebug = none := by kernel_rfl
theorem layG : laidOutB PR = true := by kernel_rfl
end Go.Vc

/-! A part of the proof that two events of one line are one event: the calculus that follows known memory by computing, and its soundness. By an AI agent. -/

namespace Go.Vc
open Go
/-! ## messages as they lie in memory -/
structure MsgA where
  kind : Int
  ver : Int
  i : Int
  text : ByteArray
  q : Option Addr
  pf : List ByteArray
  c : Nat
def msgAC (m : MsgA) : List Value := [.int .i64 m.kind, .int .i64 m.ver, .int .i64 m.i, .string m.text, .slice m.q m.pf.length m.c]
structure MsgsAt (w : World) (y : Option Addr) (l : List MsgA) : Prop where
  row : Sl w y (l.flatMap msgAC)
  pf : ∀ m ∈ l, Sl w m.q (m.pf.map .string)
  ver : ∀ m ∈ l, -9223372036854775808 ≤ m.ver ∧ m.ver ≤ 9223372036854775807
theorem MsgsAt.grow {w w' : World} {y : Option Addr} {l : List MsgA} (h : MsgsAt w y l) (g : Grow w w') : MsgsAt w' y l := ⟨h.row.grow g, fun m hm => (h.pf m hm).grow g, h.ver⟩
end Go.Vc

/-! A part of the proof that two events of one line are one event: the calculus that follows known memory by computing, and its soundness. By an AI agent. -/


namespace Go.Vc
open Go Go.ChangeShapes Go.WideShapes Go.Deep
theorem fMsg : flds T.msg_Msg = some [(T.int, 0), (T.int, 1), (T.int, 2), (T.string, 3), (T.sl_string, 4)] := by kernel_rfl
theorem cMsg : PR.cellsOf T.msg_Msg = 5 := by kernel_rfl
section
variable {H : Type} {enc : TypeId × Value → H} {w : World} {base : Nat} {spare : Nat → Bool} {held : Bool}
theorem msg_of {n : Nat} {cs : List Value} {x : DataW H × List MemPlace} (hx : DataW.trod enc PR w base spare held n T.msg_Msg cs = some x) (hlen : cs.length = 5) :
    ∃ o : MsgA, cs = msgAC o ∧ Sl w o.q (o.pf.map .string) ∧ -9223372036854775808 ≤ o.ver ∧ o.ver ≤ 9223372036854775807 := by
  obtain ⟨m, hm⟩ := struct_of fMsg hx
  obtain ⟨y0, h0⟩ := hm 0 _ rfl
  obtain ⟨y1, h1⟩ := hm 1 _ rfl
  obtain ⟨y2, h2⟩ := hm 2 _ rfl
  obtain ⟨y3, h3⟩ := hm 3 _ rfl
  obtain ⟨y4, h4⟩ := hm 4 _ rfl
  match cs, hlen with
  | [v0, v1, v2, v3, v4], _ =>
    rw [show PR.cellsOf (T.int, 0).1 = 1 from cInt] at h0
    rw [show PR.cellsOf (T.int, 1).1 = 1 from cInt] at h1
    rw [show PR.cellsOf (T.int, 2).1 = 1 from cInt] at h2
    rw [show PR.cellsOf (T.string, 3).1 = 1 from cStr] at h3
    rw [show PR.cellsOf (T.sl_string, 4).1 = 1 from cStrs] at h4
    obtain ⟨n0, e0, _, _⟩ := DataW.trod_int uInt h0
    obtain ⟨n1, e1, _, r1⟩ := DataW.trod_int uInt h1
    obtain ⟨n2, e2, _, _⟩ := DataW.trod_int uInt h2
    obtain ⟨s, e3, _⟩ := DataW.trod_string uStr h3
    obtain ⟨q, l, c, e4, s4⟩ := strs_of (v := v4) h4
    obtain rfl : v0 = .int .i64 n0 := (List.cons.inj e0).1
    obtain rfl : v1 = .int .i64 n1 := (List.cons.inj e1).1
    obtain rfl : v2 = .int .i64 n2 := (List.cons.inj e2).1
    obtain rfl : v3 = .string s := (List.cons.inj e3).1
    subst e4
    exact ⟨⟨n0, n1, n2, s, q, l, c⟩, rfl, s4, int_range r1⟩
end
end Go.Vc

/-! A part of the proof that two events of one line are one event: the calculus that follows known memory by computing, and its soundness. By an AI agent. -/


namespace Go.Vc
open Go
/-! P13: conditions printed by a program of ours, checked by the kernel -/
/-- slices.IndexFunc[[]int,int] -/
theorem slices_IndexFunc_int_int (y0 : Option Addr) (ly0 : Nat) (cy0 : Nat) (k1 : Nat) (p2 : Option Addr) (S : Nat → Prop) (K : Value → World → Prop) (w : World) (hF : Fs S w [⟨k1, #[.pointer p2], 35, false⟩] w) (h : ∃ I0 : Int → Nat → World → Prop, (∃ l0 : Nat, I0 0 l0 w) ∧ ∀ n0 : Int, ∀ D0 : Nat → Value, ∀ l1 : Nat, ∀ w0 : World, I0 n0 l1 w0 → Fs S w ([⟨k1, #[.pointer p2], 35, false⟩]) w0 → (n0 < ((ly0 : Nat) : Int) → Dr y0 (fun a0 => (0 : Int) ≤ n0 ∧ n0 < ((ly0 : Nat) : Int) ∧ Dr (some (Addr.add a0 ((Int.toNat n0 * 1)))) (fun a1 => ∃ n1 : Int, (World.cell? w0 a1 : Option Value) = some (.int .i64 n1) ∧ CallV Proofs.Tryz.prog 51 (#[.int .i64 n1, .pointer (some (⟨k1, 0, none⟩))]) w0 (fun v0 w1 => ∃ b0 : Bool, v0 = .bool b0 ∧ (b0 = true → Fs S w ([⟨k1, #[.pointer p2], 35, false⟩]) w1 ∧ K (.int .i64 n0) w1) ∧ (b0 = false → Fs S w ([⟨k1, #[.pointer p2], 35, false⟩]) w1 ∧ ∃ l2 : Nat, l2 < l1 ∧ I0 (IntKind.wrap .i64 ((n0 + 1))) l2 w1))))) ∧ (¬ (n0 < ((ly0 : Nat) : Int)) → K (.int .i64 (-1)) w0)) : CallV Go.Proofs.Tryz.prog 84 ⟨[.slice y0 ly0 cy0, .func (.func 51) #[] #[.pointer (some ⟨k1, 0, none⟩)]]⟩ w K :=
  call_of_vc3 (okf := ⟨okL, []⟩) okL_ok (args := [.c (.v (.slice y0 ly0 cy0)), .c (.v (.func (.func 51) #[] #[.pointer (some ⟨k1, 0, none⟩)]))]) (H := [⟨k1, .l [.v (.pointer p2)], 35, false⟩]) (.s .z (.s (.s .z (.b (.l (some []) (some []) [(8, .c (.int .i64))] [] (.s .z (.s .z (.s (.b (.s .z (.s (.r ⟨(some []), false, [], []⟩) .z))) .z)))))) .z)) Go.Proofs.Tryz.func84 rfl ⟨trivial, trivial, trivial⟩ ⟨⟨trivial, trivial⟩, trivial⟩ hF trivial (cast_vc (by kernel_rfl) h)


end Go.Vc

/-! A part of the proof that two events of one line are one event: the calculus that follows known memory by computing, and its soundness. By an AI agent. -/



namespace Go.Vc
open Go Go.MapKept
/-! ## an act: its parts -/
theorem Of_spec {N : Nat} {w : World} {x : PubS} (h : PubAt N w x) {ver : Int} (hi : -9223372036854775808 ≤ ver ∧ ver ≤ 9223372036854775807) {K : Value → World → Prop}
    (h1 : ∀ w' (i b c : Nat) list, Grow w w' → ver = i → 1 ≤ i → i ≤ x.last → VerO x.dom w' b (x.man i) list → VerL (x.man i) list → K (.tuple #[.agg #[.pointer (some ⟨b, 0, none⟩), .pointer (some ⟨c, 0, none⟩)], .nilIface]) w')
    (h2 : ∀ w', Grow w w' → (∀ v, ¬ x.R (.int .i64 ver) v) → K (.tuple #[.agg #[.pointer none, .pointer none], .iface T.api_Errno (.int .i64 13)]) w') : CallV PR F.p_pub_Pub_of ⟨[.pointer (some ⟨x.p, 0, none⟩), .int .i64 ver]⟩ w K := by
  obtain ⟨n, hm⟩ := h.map
  have h0 : Fs (· = x.p) w [⟨x.p, pubC x.bj x.each x.last x.com x.m, T.pub_Pub, true⟩] w := (Fr.init _ w).entry h.blk (fun x h => by cases h) fun _ => rfl
  refine pub_Pub_of x.p (some ⟨x.bj, 0, none⟩) x.each x.last x.com (some x.m) ver (· = x.p) K w h0 ⟨rfl, trivial⟩ fun l0 hl0 w0 hF0 => ?_
  have g0 : Grow w w0 := hF0.grow
  refine lookup_rn keyedI map_shown (hm.grow g0) (key_int hi.1 hi.2) true map_zero (fun v hv => ?_) fun hno => ?_
  · obtain ⟨i, b, c, mn, list, k1, k2, k3, rfl, k5, k6, k7, rfl⟩ := h.kept _ _ hv
    refine ⟨_, _, true, rfl, (fun _ => ⟨hF0.reset, fun l1 hl1 w2 hF2 => ?_⟩), fun h => by cases h⟩
    have g2 : Grow w w2 := hF2.chg.same h.blk (hF2.blk 0 rfl)
    exact h1 w2 i b c list g2 (by injection k3) k1 k2 (k5.keep g2 (fun _ _ e => e.elim) (fun _ _ e => e)) k6
  · refine ⟨_, _, false, rfl, (fun h => by cases h), fun _ => ⟨hF0.reset, fun l1 hl1 w2 hF2 => ?_⟩⟩
    exact h2 w2 (hF2.chg.same h.blk (hF2.blk 0 rfl)) hno
theorem Offer_spec {N : Nat} {w : World} {x : PubS} (h : PubAt N w x) {i : Nat} (hi1 : 1 ≤ i) (hi2 : i ≤ x.last) (hk : x.last < i + 3 ∨ i = x.com) {K : Value → World → Prop}
    (hK : ∀ w', Grow w w' → K (.tuple #[.agg #[.int .i64 1, .int .i64 0, .int .i64 0, .string (str (putMan (x.man i))), .slice none 0 0], .nilIface]) w') : CallV PR F.p_pub_Pub_Offer ⟨[.pointer (some ⟨x.p, 0, none⟩), .int .i64 (i : Int)]⟩ w K := by
  obtain ⟨hsl, hsc, hsr⟩ := h.small
  have h0 : Fs (· = x.p) w [⟨x.p, pubC x.bj x.each x.last x.com x.m, T.pub_Pub, true⟩] w := (Fr.init _ w).entry h.blk (fun x h => by cases h) fun _ => rfl
  refine pub_Pub_Offer x.p (some ⟨x.bj, 0, none⟩) x.each x.last x.com (some x.m) i (· = x.p) K w h0 ⟨rfl, trivial⟩ fun l0 hl0 w0 hF0 => ?_
  have g0 : Grow w w0 := hF0.grow
  refine Of_spec (h.grow g0) ⟨by omega, by omega⟩ (fun w1 j b c list g1 e k1 k2 hv hL => ?_) fun w1 g1 hno => ?_
  · obtain rfl : i = j := by omega
    have hF1 := hF0.after g1
    refine ⟨_, _, _, rfl, hF1, fun l1 hl1 => ⟨fun _ => Dr_some.2 (Dr_some.2 fun w2 hF2 => Dr_some.2 ?_), (fun t x h => by cases h), .inl rfl⟩⟩
    have g2 : Grow w1 w2 := (hF2.unM hl1).grow
    obtain ⟨qm, cm, ql, cl, hb1, hb0, hq1, hq2, hlc⟩ := hv.keep (D' := x.dom) g2 (fun _ _ e => e.elim) (fun _ _ e => e)
    have hcell : ∀ k v, (verC (x.man i) qm cm list ql cl)[k]? = some v → w2.cell? ⟨b, k, none⟩ = some v := fun k v hv => by rw [cell_blk hb1]; exact hv
    refine ⟨(x.man i).version, by rw [add_mk, add_mk]; exact hcell 0 _ rfl, (x.man i).nodes, by rw [add_mk, add_mk]; exact hcell 1 _ rfl, (x.man i).edges, by rw [add_mk, add_mk]; exact hcell 2 _ rfl, qm, (x.man i).shards.length, cm, by rw [add_mk, add_mk]; exact hcell 3 _ rfl, (x.man i).blocks, by rw [add_mk, add_mk]; exact hcell 4 _ rfl, str (x.man i).root, by rw [add_mk, add_mk]; exact hcell 5 _ rfl, ?_⟩
    refine MPut_ok hL.ok hq1.sl fun w3 g3 => ⟨_, _, rfl, hF2.reset.after g3, fun w4 hF4 => hK w4 (hF4.chg.same h.blk (hF4.blk 0 rfl))⟩
  · obtain ⟨v, hv⟩ := h.has i hi1 hi2 hk
    exact absurd hv (hno v)
structure Rp where
  ready : Int
  prepared : Int
  done : Int
  heard : Bool
  at_ : Int
def rpC (r : Rp) : List Value := [.int .i64 r.ready, .int .i64 r.prepared, .int .i64 r.done, .bool r.heard, .int .i64 r.at_]
theorem rpC_len (r : Rp) : (rpC r).length = 5 := rfl
structure ActS where
  x : PubS
  a : Nat
  bn : Nat
  reps : List Rp
def actC (s : ActS) : Array Value := #[.pointer (some ⟨s.x.p, 0, none⟩), .slice (some ⟨s.bn, 0, none⟩) s.reps.length s.reps.length]
structure ActAt (N : Nat) (w : World) (s : ActS) : Prop where
  blk : w.heap[s.a]? = some (.cells (actC s) T.act_Act (0, 0))
  row : w.heap[s.bn]? = some (.cells (s.reps.flatMap rpC).toArray T.act_noted (0, 0))
  pub : PubAt N w s.x
  la : N ≤ s.a
  ln : N ≤ s.bn
  n1 : 1 ≤ s.reps.length
  n4 : s.reps.length ≤ 4
  off : ¬ s.x.reg s.a ∧ ¬ s.x.reg s.bn
  ex : s.x.ex s.bn
theorem ActAt.grow {N : Nat} {w w' : World} {s : ActS} (h : ActAt N w s) (g : Grow w w') : ActAt N w' s := ⟨Grow.get g h.blk, Grow.get g h.row, h.pub.grow g, h.la, h.ln, h.n1, h.n4, h.off, h.ex⟩
theorem ActAt.sl {N : Nat} {w : World} {s : ActS} (h : ActAt N w s) : Sl w (some ⟨s.bn, 0, none⟩) (s.reps.flatMap rpC) := .inr ⟨s.bn, 0, rfl, _, _, _, h.row, fun i hi => by simp⟩
theorem ActAt.e {N : Nat} {w : World} {s : ActS} (h : ActAt N w s) : Fs (· = s.a) w [⟨s.a, actC s, T.act_Act, true⟩] w := (Fr.init _ w).entry h.blk (fun x h => by cases h) fun _ => rfl
def ActS.tgt (s : ActS) : Nat := if s.x.last ≤ s.x.com then 0 else s.x.last
theorem Target_spec {N : Nat} {w : World} {s : ActS} (h : ActAt N w s) {K : Value → World → Prop} (hK : ∀ w', Grow w w' → K (.int .i64 s.tgt) w') : CallV PR F.p_act_Act_Target ⟨[.pointer (some ⟨s.a, 0, none⟩)]⟩ w K := by
  refine act_Act_Target s.a _ _ _ _ (· = s.a) K w h.e ⟨rfl, trivial⟩ fun w0 hF0 => ?_
  have g0 : Grow w w0 := hF0.grow
  have hp := h.pub.grow g0
  unfold ActS.tgt at hK
  refine Last_spec hp ⟨_, rfl, hF0.reset, Committed_spec hp ⟨_, rfl, hF0.reset, fun hle => ?_, fun hgt => Last_spec hp ⟨_, rfl, hF0.reset, ?_⟩⟩⟩
  · have := hK w0 g0; rw [if_pos (by omega)] at this; exact this
  · have := hK w0 g0; rw [if_neg (by omega)] at this; exact this
/-- the replicas that are -/
def liveN (reps : List Rp) (now : Int) : Nat → List Int
  | 0 => []
  | k + 1 => liveN reps now k ++ (match reps[k]? with | some r => if r.heard = true ∧ r.at_ ≥ now - 12 then [((k + 1 : Nat) : Int)] else [] | none => [])
theorem liveN_len (reps : List Rp) (now : Int) : ∀ k, (liveN reps now k).length ≤ k
  | 0 => Nat.le_refl _
  | k + 1 => by
    have := liveN_len reps now k
    rw [liveN, List.length_append]
    split
    · split <;> simp <;> omega
    · simp; omega
theorem Live_spec {N : Nat} {w : World} {s : ActS} (h : ActAt N w s) {now : Int} (hn : 0 ≤ now ∧ now ≤ 1000000) {K : Value → World → Prop}
    (hK : ∀ w' q c, Grow w w' → Sl w' q ((liveN s.reps now s.reps.length).map iv) → K (.slice q (liveN s.reps now s.reps.length).length c) w') : CallV PR F.p_act_Act_Live ⟨[.pointer (some ⟨s.a, 0, none⟩), .int .i64 now]⟩ w K := by
  have ha := heap_lt h.blk
  have h4 := h.n4
  refine act_Act_Live s.a _ _ _ _ now (· = s.a) K w h.e ⟨rfl, trivial⟩ ?_
  refine ⟨fun q l c i m w' => ∃ k : Nat, i = k ∧ k ≤ s.reps.length ∧ m = s.reps.length - k ∧ Own T.int 1 w' q c ((liveN s.reps now k).map iv) ∧ l = (liveN s.reps now k).length ∧ l ≤ c ∧ Off (fun j => j < w.heap.size) q, ⟨_, 0, rfl, by omega, rfl, .nil _ _ _, rfl, Nat.le_refl _, fun a h => by cases h⟩, ?_⟩
  rintro q l c i D m w0 ⟨k, rfl, hk, rfl, ho, rfl, hlc, of⟩ hF0
  have g00 : Grow w w0 := hF0.chg.same h.blk (hF0.blk 0 rfl)
  refine ⟨fun hlt => ?_, fun hge => ?_⟩
  · have hk' : k < s.reps.length := by omega
    refine (h.grow g00).sl.rdN rpC_len (by decide) rfl hk' hk' fun a hc => ?_
    have hnext : liveN s.reps now (k + 1) = liveN s.reps now k ++ (if s.reps[k].heard = true ∧ s.reps[k].at_ ≥ now - 12 then [((k + 1 : Nat) : Int)] else []) := by
      rw [liveN, List.getElem?_eq_getElem hk']
    have hkk : IntKind.wrap .i64 ((k : Int) + 1) = ((k + 1 : Nat) : Int) := by rw [w64 (by omega) (by omega)]; omega
    refine ⟨_, hc 0 _ rfl, _, hc 1 _ rfl, _, hc 2 _ rfl, _, hc 3 _ rfl, _, hc 4 _ rfl, fun l4 hl4 => ?_⟩
    rw [w64 (by omega) (by omega)]
    have skip : ∀ {L : List Blk} {w4 : World}, Fr (· = s.a) w w0 [l4] L w4 → ¬ (s.reps[k].heard = true ∧ s.reps[k].at_ ≥ now - 12) → ∃ l9 : Nat, l9 < s.reps.length - k ∧ ∃ k' : Nat, IntKind.wrap .i64 ((k : Int) + 1) = k' ∧ k' ≤ s.reps.length ∧ l9 = s.reps.length - k' ∧ Own T.int 1 w4 q c ((liveN s.reps now k').map iv) ∧ (liveN s.reps now k).length = (liveN s.reps now k').length ∧ (liveN s.reps now k).length ≤ c ∧ Off (fun j => j < w.heap.size) q := fun hF4 hno => by
      have e : liveN s.reps now (k + 1) = liveN s.reps now k := by rw [hnext, if_neg hno, List.append_nil]
      exact ⟨s.reps.length - (k + 1), by omega, k + 1, hkk, by omega, rfl, by rw [e]; exact ho.grow (hF4.unM hl4).grow, by rw [e], hlc, of⟩
    refine ⟨fun hh => ⟨fun hat l5 hl5 w1 hF1 => ?_, fun hat w1 hF1 => skip hF1 (fun hy => hat hy.2)⟩, fun hh w1 hF1 => skip hF1 (fun hy => by rw [hh] at hy; exact absurd hy.1 (by decide))⟩
    have hF1' := hF1.unM hl4
    rw [hkk] at hF1' ⊢
    refine app_iv (ys := [((k + 1 : Nat) : Int)]) (ho.grow hF1'.grow) (by simp) hlc (hF1'.sl 1 rfl) rfl (by have := liveN_len s.reps now k; omega) fun q2 c2 w2 ho2 hc2 g2 hq2 => ?_
    have hF2 := hF1'.app2 g2 w.heap.size w0.heap.size of (fun a ha => ho.lt a ha) (fun x hx => by simp at hx; rcases hx with rfl | rfl; exact .inl ha; exact .inr hl5) (Nat.le_refl _)
    have e : liveN s.reps now (k + 1) = liveN s.reps now k ++ [((k + 1 : Nat) : Int)] := by rw [hnext, if_pos ⟨hh, hat⟩]
    exact ⟨_, _, _, rfl, hF2, s.reps.length - (k + 1), by omega, k + 1, rfl, by omega, rfl, by rw [e]; exact ho2, by rw [e, List.length_append]; rfl, hc2, of.next hq2 (by have := hF1'.chg.size; omega)⟩
  · have : k = s.reps.length := by omega
    subst this
    exact hK w0 q c g00 ho.sl
end Go.Vc

/-! A part of the proof that two events of one line are one event: the calculus that follows known memory by computing, and its soundness. By an AI agent. -/

namespace Go.Vc
open Go Go.MapKept
/-! ## an act: who agrees, what is heard -/
theorem live_mem {reps : List Rp} {now : Int} : ∀ {k : Nat}, k ≤ reps.length → ∀ {z : Int}, z ∈ liveN reps now k → ∃ j : Nat, ∃ hj : j < reps.length, z = ((j + 1 : Nat) : Int) ∧ reps[j].heard = true ∧ reps[j].at_ ≥ now - 12
  | 0, _, z, h => by cases h
  | k + 1, hk, z, h => by
    rw [liveN, List.mem_append] at h
    rcases h with h | h
    · exact live_mem (by omega) h
    · rw [List.getElem?_eq_getElem (by omega)] at h
      simp only [] at h
      split at h
      · rename_i hc
        exact ⟨k, by omega, by simpa using h, hc.1, hc.2⟩
      · cases h
theorem mem_live {reps : List Rp} {now : Int} {j : Nat} (hj : j < reps.length) (h : reps[j].heard = true ∧ reps[j].at_ ≥ now - 12) : ∀ {k : Nat}, j < k → ((j + 1 : Nat) : Int) ∈ liveN reps now k
  | 0, hk => by cases hk
  | k + 1, hk => by
    rw [liveN, List.mem_append]
    by_cases e : j = k
    · subst e
      right
      rw [List.getElem?_eq_getElem hj]
      simp only []
      rw [if_pos h]; exact List.mem_singleton.2 rfl
    · exact .inl (mem_live hj h (by omega))
theorem rep_cell {N : Nat} {w : World} {s : ActS} (h : ActAt N w s) {j i : Nat} (hj : j < s.reps.length) {v : Value} (hv : (rpC s.reps[j])[i]? = some v) (hi : i < 5) : w.cell? ⟨s.bn, j * 5 + i, none⟩ = some v := by
  rw [cell_blk h.row]
  have := flatK_at rpC_len (l := s.reps) hj hi
  rw [List.getElem?_toArray, this, hv]
theorem late_spec {N : Nat} {w : World} {s : ActS} (h : ActAt N w s) {bx : Nat} (hb : w.heap[bx]? = some (.cells #[.pointer (some ⟨s.a, 0, none⟩)] T.p_act_Act (0, 0))) {j : Nat} (hj : j < s.reps.length) {K : Value → World → Prop}
    (hK : ∀ w' t, Grow w w' → (t = true ↔ s.reps[j].prepared < s.tgt) → K (.bool t) w') : CallV PR F.p_act_Act_agreed_1 ⟨[.int .i64 ((j + 1 : Nat) : Int), .pointer (some ⟨bx, 0, none⟩)]⟩ w K := by
  have h4 := h.n4
  refine act_Act_agreed_1 _ _ S0 K w fun w0 hF0 => ⟨fun w' => Grow w w', hF0.gr, Dr_some.2 ⟨some ⟨s.a, 0, none⟩, fun w1 g => by rw [cell_blk (Grow.get g hb)]; rfl, Dr_some.2 (Dr_some.2 (Dr_some.2 ⟨some ⟨s.bn, 0, none⟩, s.reps.length, s.reps.length, fun w1 g => by rw [add_mk, cell_blk (Grow.get g h.blk)]; rfl, Dr_some.2 ⟨?_, ?_, Dr_some.2 (Dr_some.2 ⟨s.reps[j].prepared, fun w1 g => ?_, Dr_some.2 ⟨some ⟨s.a, 0, none⟩, fun w1 g => by rw [cell_blk (Grow.get g hb)]; rfl, ?_⟩⟩)⟩⟩))⟩⟩
  · rw [w64 (by omega) (by omega)]; omega
  · rw [w64 (by omega) (by omega)]; omega
  · rw [w64 (by omega) (by omega), add_mk, add_mk]
    have e : 0 + Int.toNat (((j + 1 : Nat) : Int) - 1) * 5 + 1 = j * 5 + 1 := by omega
    rw [e]
    exact rep_cell (h.grow g) hj rfl (by omega)
  · refine Target_spec (h.grow hF0.gr) fun w5 g5 => ⟨_, rfl, hF0.reset.after g5, hF0.gr.trans g5, fun hlt => hK w5 true (hF0.gr.trans g5) ⟨fun _ => hlt, fun _ => rfl⟩, fun hge => hK w5 false (hF0.gr.trans g5) ⟨(fun h => by cases h), fun h => absurd h hge⟩⟩
/-- may the target come into force? -/
def agrees (s : ActS) (now : Int) : Prop := 0 < s.tgt ∧ (∃ r ∈ s.reps, r.heard = true ∧ r.at_ ≥ now - 12) ∧ ∀ r ∈ s.reps, r.heard = true → r.at_ ≥ now - 12 → (s.tgt : Int) ≤ r.prepared
theorem agreed_spec {N : Nat} {w : World} {s : ActS} (h : ActAt N w s) {now : Int} (hn : 0 ≤ now ∧ now ≤ 1000000) {K : Value → World → Prop}
    (hK : ∀ w' t, Grow w w' → (t = true ↔ agrees s now) → K (.bool t) w') : CallV PR F.p_act_Act_agreed ⟨[.pointer (some ⟨s.a, 0, none⟩), .int .i64 now]⟩ w K := by
  have h4 := h.n4
  refine act_Act_agreed s.a _ _ _ _ now (· = s.a) K w h.e ⟨rfl, trivial⟩ fun bx hbx w0 hF0 => ?_
  have g0 : Grow w w0 := hF0.grow
  have hbb := hF0.blk 1 rfl
  refine Live_spec (h.grow g0) hn fun w1 q c g1 hsl => ⟨_, _, _, rfl, hF0.reset.after g1, ?_⟩
  have g01 := g0.trans g1
  have hF1 := hF0.reset.after g1
  refine Target_spec (h.grow g01) fun w2 g2 => ⟨_, rfl, hF1.after g2, ?_⟩
  have hF2 := hF1.after g2
  have g02 := g01.trans g2
  have h2 := h.grow g02
  have hb2 := hF2.blk 1 rfl
  have hll := liveN_len s.reps now s.reps.length
  refine ⟨fun htg => ⟨fun hlen => ?_, fun hlen => hK w2 false g02 ⟨(fun h => by cases h), fun hh => ?_⟩⟩, fun htg => hK w2 false g02 ⟨(fun h => by cases h), fun hh => absurd hh.1 (by omega)⟩⟩
  · have hF20 : Fs S0 w2 [] w2 := Fr.init _ w2
    refine slices_ContainsFunc_int_int q _ c _ S0 _ w2 ?_
    refine slices_IndexFunc_int_int q _ c bx (some ⟨s.a, 0, none⟩) S0 _ w2 ((Fr.init _ w2).entry (wr := false) hb2 (fun x h => by cases h) (fun h => by cases h)) ?_
    refine ⟨fun i m w' => ∃ k : Nat, i = k ∧ k ≤ (liveN s.reps now s.reps.length).length ∧ m = (liveN s.reps now s.reps.length).length - k ∧ ∀ z ∈ (liveN s.reps now s.reps.length).take k, ∀ (j : Nat) (hj : j < s.reps.length), z = ((j + 1 : Nat) : Int) → (s.tgt : Int) ≤ s.reps[j].prepared, ⟨_, 0, rfl, by omega, rfl, fun z hz => by simp at hz⟩, ?_⟩
    rintro i D m w3 ⟨k, rfl, hk, rfl, hall⟩ hF3
    have g3 : Grow w2 w3 := hF3.gr
    refine ⟨fun hlt => ?_, fun hge => ?_⟩
    · have hk' : k < (liveN s.reps now s.reps.length).length := by omega
      obtain ⟨j, hj, hz, hhe, hat⟩ := live_mem (Nat.le_refl _) (List.getElem_mem hk')
      refine (hsl.grow (g2.trans g3)).rd (v := iv (liveN s.reps now s.reps.length)[k]) (by simp) (by omega) (by simp [hk']) fun a ha => ⟨_, ha, ?_⟩
      rw [hz]
      refine late_spec (h2.grow g3) (Grow.get g3 hb2) hj fun w4 t g4 ht => ⟨t, rfl, fun htt => ?_, fun htf => ?_⟩
      · have hF4 := hF3.after g4
        refine ⟨hF4, _, rfl, hF4.sub (List.nil_sublist _), fun _ => ⟨true, rfl, (fun _ => ⟨hF2.after hF4.gr, hK w4 false (g02.trans hF4.gr) ⟨(fun h => by cases h), fun hh => ?_⟩⟩), fun h => by cases h⟩, fun hlt => absurd (by omega : (k : Int) ≥ 0) hlt⟩
        have h1 := ht.1 htt
        have h2 := hh.2.2 _ (List.getElem_mem hj) hhe hat
        omega
      · have hF4 := hF3.after g4
        refine ⟨hF4, (liveN s.reps now s.reps.length).length - (k + 1), by omega, k + 1, by rw [w64 (by omega) (by omega)]; rfl, by omega, rfl, fun z hz' j' hj' e' => ?_⟩
        rw [List.take_succ_eq_append_getElem hk', List.mem_append, List.mem_singleton] at hz'
        rcases hz' with hz' | rfl
        · exact hall z hz' j' hj' e'
        · have : j = j' := by omega
          subst this
          have hnot : ¬ s.reps[j].prepared < s.tgt := fun hlt => by rw [ht.2 hlt] at htf; cases htf
          omega
    · refine ⟨_, rfl, hF3.sub (List.nil_sublist _), fun h => absurd h (by omega), fun _ => ⟨false, rfl, (fun h => by cases h), fun _ => ⟨hF2.after g3, hK w3 true (g02.trans g3) ⟨fun _ => ⟨by omega, ?_, fun r hr hhe hat => ?_⟩, fun _ => rfl⟩⟩⟩⟩
      · have hne : 0 < (liveN s.reps now s.reps.length).length := by omega
        obtain ⟨j, hj, hz, hhe, hat⟩ := live_mem (Nat.le_refl _) (List.getElem_mem hne)
        exact ⟨_, List.getElem_mem hj, hhe, hat⟩
      · obtain ⟨j, hj, rfl⟩ := List.getElem_of_mem hr
        refine hall _ ?_ j hj rfl
        rw [List.take_of_length_le (by omega)]
        exact mem_live hj ⟨hhe, hat⟩ hj
  · obtain ⟨r, hr, hhe, hat⟩ := hh.2.1
    obtain ⟨j, hj, rfl⟩ := List.getElem_of_mem hr
    have := List.length_pos_of_mem (mem_live hj ⟨hhe, hat⟩ hj)
    omega
end Go.Vc

/-! A part of the proof that two events of one line are one event: the calculus that follows known memory by computing, and its soundness. By an AI agent. -/

namespace Go.Vc
open Go Go.MapKept
/-! ## an act: what is said -/
structure MsgV where
  kind : Int
  ver : Int
  i : Int
  text : ByteArray
def msgC (m : MsgV) : List Value := [.int .i64 m.kind, .int .i64 m.ver, .int .i64 m.i, .string m.text, .slice none 0 0]
theorem msgC_len (m : MsgV) : (msgC m).length = 5 := rfl
theorem u_msgs : PR.underlying T.sl_msg_Msg = some (.slice T.msg_Msg) := by kernel_rfl
theorem tyI_msg : ∃ i, PR.info? T.msg_Msg = some i ∧ i.size = 5 ∧ i.bytes = 64 ∧ i.zero = some (.agg #[.int .i64 0, .int .i64 0, .int .i64 0, .string ⟨#[]⟩, .slice none 0 0]) := by
  have h : (match PR.info? T.msg_Msg with | some i => i.size == 5 && i.bytes == 64 && (match i.zero with | some (.agg ⟨[.int .i64 0, .int .i64 0, .int .i64 0, .string ⟨⟨[]⟩⟩, .slice none 0 0]⟩) => true | _ => false) | none => false) = true := by kernel_rfl
  split at h
  · rename_i i hi
    simp only [Bool.and_eq_true, beq_iff_eq] at h
    refine ⟨i, hi, h.1.1, h.1.2, ?_⟩
    have h2 := h.2
    split at h2
    · assumption
    · cases h2
  · cases h
theorem app_msg {w : World} {q q2 : Option Addr} {l c l2 c2 : Nat} {xs ys : List MsgV} {K : Value → World → Prop}
    (ho : Own T.msg_Msg 5 w q c (xs.flatMap msgC)) (hl : l = xs.length) (hlc : l ≤ c) (hs : Sl w q2 (ys.flatMap msgC)) (hl2 : l2 = ys.length) (hroom : l + l2 ≤ 1000000)
    (hK : ∀ q' c' w', Own T.msg_Msg 5 w' q' c' ((xs ++ ys).flatMap msgC) → l + l2 ≤ c' → Chg (blkOf q) w w' → (∀ a, q' = some a → q = some a ∨ a = ⟨w.heap.size, 0, none⟩) → (c < l + l2 ∨ ys.flatMap msgC = [] → Grow w w') → K (.slice q' (l + l2) c') w') :
    rn PR (Builtin.append_ #[T.sl_msg_Msg, T.sl_msg_Msg] T.sl_msg_Msg #[.slice q l c, .slice q2 l2 c2]) K w := by
  obtain ⟨i, hi, hk, hb, hz⟩ := tyI_msg
  refine rn_sv <| sv_append_g (i := i) u_msgs u_msgs hi hz (by rw [hk]; rfl) (by rw [hb]; decide) (by rw [hk]; exact ho) (by rw [hk, flatK_size msgC_len, hl]) hlc hs (by rw [hk, flatK_size msgC_len, hl2]) (fun y hy => ?_) (by rw [hb]; omega) fun q' c' w' h => hK q' c' w' (by rw [hk] at h; rw [List.flatMap_append]; exact h)
  obtain ⟨m, _, hm⟩ := List.mem_flatMap.1 hy
  simp [msgC] at hm
  rcases hm with rfl | rfl | rfl | rfl | rfl <;> rfl
theorem word_spec {k t : Int} {w : World} {K : Value → World → Prop} (hK : ∀ w', Grow w w' → K (.agg #[.int .i64 k, .int .i64 t, .int .i64 0, .string ⟨#[]⟩, .slice none 0 0]) w') : CallV PR F.act_word ⟨[.int .i64 k, .int .i64 t]⟩ w K :=
  act_word k t S0 K w fun l0 hl0 w0 hF0 => hK w0 hF0.gr
def offerM (m : Man) : MsgV := ⟨1, 0, 0, str (putMan m)⟩
def wordM (k t : Int) : MsgV := ⟨k, t, 0, ⟨#[]⟩⟩
def beatM (t now : Int) : MsgV := ⟨10, t, now, ⟨#[]⟩⟩
def tellL (s : ActS) (r : Rp) : List MsgV := if 0 < s.tgt ∧ r.prepared < s.tgt then [offerM (s.x.man s.tgt)] ++ (if r.ready ≥ s.tgt then [wordM 6 s.tgt] else []) else []
def comL (s : ActS) (r : Rp) : List MsgV := if r.done < s.x.com then [offerM (s.x.man s.x.com), wordM 8 s.x.com] else []
/-- what is said to a replica -/
def saysL (s : ActS) (r : Rp) (now : Int) : List MsgV := [beatM s.x.com now] ++ tellL s r ++ comL s r
theorem behind_spec {N : Nat} {w : World} {s : ActS} (h : ActAt N w s) {r : Rp} {K : Value → World → Prop} (hK : ∀ w' t, Grow w w' → (t = true ↔ r.done < s.x.com) → K (.bool t) w') :
    CallV PR F.p_act_Act_behind ⟨[.pointer (some ⟨s.a, 0, none⟩), .agg #[.int .i64 r.ready, .int .i64 r.prepared, .int .i64 r.done, .bool r.heard, .int .i64 r.at_]]⟩ w K := by
  refine act_Act_behind s.a _ _ _ _ r.ready r.prepared r.done r.heard r.at_ (· = s.a) K w h.e ⟨rfl, trivial⟩ fun l0 hl0 w0 hF0 => ?_
  exact Committed_spec (h.pub.grow hF0.grow) ⟨_, rfl, hF0.reset, fun hlt => hK w0 true hF0.grow ⟨fun _ => hlt, fun _ => rfl⟩, fun hge => hK w0 false hF0.grow ⟨(fun h => by cases h), fun h => absurd h hge⟩⟩
theorem says_spec {N : Nat} {w : World} {s : ActS} (h : ActAt N w s) {r : Rp} {now : Int} (hd : 0 ≤ r.done) {K : Value → World → Prop}
    (hK : ∀ w' q c, Grow w w' → Sl w' q ((saysL s r now).flatMap msgC) → (∀ a, q = some a → w.heap.size ≤ a.block ∧ a.block < w'.heap.size) → K (.slice q (saysL s r now).length c) w') :
    CallV PR F.p_act_Act_says ⟨[.pointer (some ⟨s.a, 0, none⟩), .agg #[.int .i64 r.ready, .int .i64 r.prepared, .int .i64 r.done, .bool r.heard, .int .i64 r.at_], .int .i64 now]⟩ w K := by
  have ha := heap_lt h.blk
  have gr : ∀ {wp wi : World} {M : List Nat} {L : List Blk}, Fr (· = s.a) w wp M (⟨s.a, actC s, T.act_Act, true⟩ :: L) wi → Grow w wi := fun hF => hF.chg.same h.blk (hF.blk 0 rfl)
  have hp : ∀ {wi : World}, Grow w wi → PubAt N wi s.x := fun g => h.pub.grow g
  have hcl := h.pub.com_le
  refine act_Act_says s.a _ _ _ _ r.ready r.prepared r.done r.heard r.at_ now (· = s.a) K w h.e ⟨rfl, trivial⟩ fun l0 hl0 w1 hF1 => ?_
  refine Committed_spec (hp (gr hF1)) ⟨_, rfl, hF1.reset, fun l1 hl1 w2 hF2 => ?_⟩
  refine Target_spec (h.grow (gr hF2)) fun w3 g3 => ⟨_, rfl, hF2.reset.after g3, ?_⟩
  have hF3 := hF2.reset.after g3
  have hl0w : l0 < w1.heap.size := heap_lt (hF1.blk 1 rfl)
  have ho3 : Own T.msg_Msg 5 w3 (some ⟨l1, 0, none⟩) 1 ([beatM s.x.com now].flatMap msgC) := .inr ⟨l1, 0, _, rfl, hF3.blk 2 rfl, rfl, by omega, Nat.le_refl 5, fun i hi => by rw [Nat.zero_add]; simp [msgC, beatM]⟩
  have of3 : Off (fun j => j < w1.heap.size) (some ⟨l1, 0, none⟩) := fun a ha hlt => by cases ha; simp only [] at hlt; omega
  have s1 := (gr hF1).size
  -- the end: what is committed is told
  have fin : ∀ {wi : World} {q : Option Addr} {c : Nat} {ms : List MsgV}, Grow w wi → Sl wi q (ms.flatMap msgC) → ms = saysL s r now → (∀ a, q = some a → w.heap.size ≤ a.block ∧ a.block < wi.heap.size) → K (.slice q ms.length c) wi := fun g hs e hb => by subst e; exact hK _ _ _ g hs hb
  have htgt : s.tgt = 0 ∨ s.tgt = s.x.last := by unfold ActS.tgt; split <;> simp
  refine ⟨fun htg => ⟨fun hpr => ?_, fun hpr => ?_⟩, fun htg => ?_⟩
  · have htl : s.tgt = s.x.last := by omega
    refine Offer_spec (i := s.tgt) (hp (gr hF3)) (by omega) (by omega) (.inl (by omega)) fun w4 g4 => ⟨_, _, _, _, _, _, _, _, rfl, hF3.after g4, fun l4 hl4 l5 hl5 w5 hF5 => ?_⟩
    have g35 : Grow w3 w5 := g4.trans (hF5.unM hl4).grow
    refine app_msg (xs := [beatM s.x.com now]) (ys := [offerM (s.x.man s.tgt)]) (ho3.grow g35) rfl (Nat.le_refl _) (hF5.sl 4 rfl) rfl (by decide) fun q1 c1 w6 ho6 hc6 g6 hq6 hg6 => ?_
    have g56 := hg6 (.inl (by decide))
    have hF6 := (hF5.unM hl4).after g56
    have of6 : Off (fun j => j < w1.heap.size) q1 := of3.next hq6 (by have := g35.size; have := g3.size; have := hF2.grow.size; omega)
    have hlc : 1 + 1 ≤ c1 := hc6
    refine ⟨_, _, _, rfl, hF6, fun hrd => ?_, fun hrd => ?_⟩
    · have hms : tellL s r = [offerM (s.x.man s.tgt)] ++ [wordM 6 s.tgt] := by rw [tellL, if_pos ⟨by omega, hpr⟩, if_pos hrd]
      refine word_spec fun w7 g7 => ⟨_, _, _, _, _, _, _, rfl, (hF6.after g7).sub (by simp), fun l10 hl10 w8 hF8 => ?_⟩
      have g68 : Grow w6 w8 := g7.trans hF8.grow
      refine app_msg (ys := [wordM 6 s.tgt]) (ho6.grow g68) rfl hlc (hF8.sl 2 rfl) rfl (by decide) fun q3 c3 w9 ho9 hc9 g9 hq9 hg9 => ?_
      have hF9 := hF8.app2 g9 w1.heap.size w6.heap.size of6 (fun a ha => ho6.lt a ha) (fun x hx => by have := g7.size; simp at hx; rcases hx with rfl | rfl | rfl; exact .inl (by simp only []; omega); exact .inl hl0w; exact .inr (by simp only []; omega)) s1
      have of9 : Off (fun j => j < w1.heap.size) q3 := of6.next hq9 (by have := (gr hF8).size; have := g68.size; have := g56.size; have := g35.size; have := g3.size; have := hF2.grow.size; omega)
      have hlc : 1 + 1 + 1 ≤ c3 := hc9
      refine ⟨_, _, _, rfl, hF9, ?_⟩
      have w1O : w1.heap.size ≤ w9.heap.size := by have := g9.size; have := g68.size; have := g56.size; have := g35.size; have := g3.size; have := hF2.grow.size; omega
      refine behind_spec (h.grow (gr hF9)) fun w10 t g10 ht => ⟨t, rfl, fun htt => ?_, fun htf => ?_⟩
      · have hbe : r.done < s.x.com := ht.1 htt
        have htel : comL s r = [offerM (s.x.man s.x.com), wordM 8 s.x.com] := if_pos hbe
        have hF10 := hF9.reset.after g10
        have gO10 : Grow w9 w10 := g10
        refine ⟨hF10.sub (by simp), fun w11 hF11 => ?_, fun l29 hl29 w26 hF26 => ?_⟩
        · have gO11 := gO10.trans hF11.grow
          refine Committed_spec (hp (gr hF11)) ⟨_, rfl, hF11.reset, ?_, fun l21 hl21 w19 hF19 => ?_⟩
          · refine Offer_spec (hp (gr hF11)) (by omega) hcl (.inr rfl) fun w13 g13 => ⟨_, _, _, _, _, _, _, _, rfl, hF11.reset.after g13, fun l15 hl15 w14 hF14 => ?_⟩
            have b15 : w11.heap.size ≤ l15 := by have := g13.size; omega
            have bO := gO11.size
            have gO14 : Grow w9 _ := ((gO11.trans g13).trans (hF14.unM hl15).grow)
            refine Committed_spec (hp (gr hF14)) ⟨_, rfl, hF14.reset, ?_⟩
            refine word_spec fun w16 g16 => ⟨_, _, _, _, _, _, _, rfl, hF14.reset.after g16, fun l18 hl18 w17 hF17 => ?_⟩
            have gO17 : Grow w9 w17 := (gO14.trans g16).trans hF17.grow
            refine app_msg (ys := [offerM (s.x.man s.x.com), wordM 8 s.x.com]) (ho9.grow gO17) rfl hlc (hF17.sl 2 rfl) rfl (by decide) fun q6 c6 w18 ho18 hc18 g18 hq18 hg18 => ?_
            have hF18 := hF17.app2 g18 w1.heap.size w9.heap.size of9 (fun a ha => ho9.lt a ha) (fun x hx => by have := gO17.size; have := gO14.size; have := g16.size; simp at hx; rcases hx with rfl | rfl | rfl; exact .inl (by simp only []; omega); exact .inr (by simp only []; omega); exact .inr (by simp only []; omega)) s1
            exact ⟨_, _, _, rfl, hF18, fin (gr hF18) ho18.sl (by rw [saysL, hms, htel] <;> rfl) fun a ha => ⟨by have := (of9.next hq18 (by have := gO17.size; omega)).le a ha; omega, ho18.lt a ha⟩⟩
          · have gO19 := gO11.trans hF19.grow
            refine Offer_spec (hp (gr hF19)) (by omega) hcl (.inr rfl) fun w20 g20 => ⟨_, _, _, _, _, _, _, _, rfl, hF19.reset.after g20, fun w21 hF21 => ?_⟩
            have bO := gO11.size
            have gO14 : Grow w9 _ := (Chg.trans (gO19.trans g20) hF21.stp fun i hi hm => by simp at hm; omega)
            refine Committed_spec (hp (gr hF21)) ⟨_, rfl, hF21.reset, ?_⟩
            refine word_spec fun w16 g16 => ⟨_, _, _, _, _, _, _, rfl, hF21.reset.after g16, fun l18 hl18 w17 hF17 => ?_⟩
            have gO17 : Grow w9 w17 := (gO14.trans g16).trans hF17.grow
            refine app_msg (ys := [offerM (s.x.man s.x.com), wordM 8 s.x.com]) (ho9.grow gO17) rfl hlc (hF17.sl 2 rfl) rfl (by decide) fun q6 c6 w18 ho18 hc18 g18 hq18 hg18 => ?_
            have hF18 := hF17.app2 g18 w1.heap.size w9.heap.size of9 (fun a ha => ho9.lt a ha) (fun x hx => by have := gO17.size; have := gO14.size; have := g16.size; simp at hx; rcases hx with rfl | rfl | rfl; exact .inl (by simp only []; omega); exact .inr (by simp only []; omega); exact .inr (by simp only []; omega)) s1
            exact ⟨_, _, _, rfl, hF18, fin (gr hF18) ho18.sl (by rw [saysL, hms, htel] <;> rfl) fun a ha => ⟨by have := (of9.next hq18 (by have := gO17.size; omega)).le a ha; omega, ho18.lt a ha⟩⟩
        · have gO26 := gO10.trans hF26.grow
          refine Committed_spec (hp (gr hF26)) ⟨_, rfl, hF26.reset, ?_⟩
          refine Offer_spec (hp (gr hF26)) (by omega) hcl (.inr rfl) fun w28 g28 => ⟨_, _, _, _, _, _, _, _, rfl, hF26.reset.after g28, fun w29 hF29 => ?_⟩
          have bO := gO10.size
          have gO14 : Grow w9 _ := (Chg.trans (gO26.trans g28) hF29.stp fun i hi hm => by simp at hm; omega)
          refine Committed_spec (hp (gr hF29)) ⟨_, rfl, hF29.reset, ?_⟩
          refine word_spec fun w16 g16 => ⟨_, _, _, _, _, _, _, rfl, hF29.reset.after g16, fun l18 hl18 w17 hF17 => ?_⟩
          have gO17 : Grow w9 w17 := (gO14.trans g16).trans hF17.grow
          refine app_msg (ys := [offerM (s.x.man s.x.com), wordM 8 s.x.com]) (ho9.grow gO17) rfl hlc (hF17.sl 2 rfl) rfl (by decide) fun q6 c6 w18 ho18 hc18 g18 hq18 hg18 => ?_
          have hF18 := hF17.app2 g18 w1.heap.size w9.heap.size of9 (fun a ha => ho9.lt a ha) (fun x hx => by have := gO17.size; have := gO14.size; have := g16.size; simp at hx; rcases hx with rfl | rfl | rfl; exact .inl (by simp only []; omega); exact .inr (by simp only []; omega); exact .inr (by simp only []; omega)) s1
          exact ⟨_, _, _, rfl, hF18, fin (gr hF18) ho18.sl (by rw [saysL, hms, htel] <;> rfl) fun a ha => ⟨by have := (of9.next hq18 (by have := gO17.size; omega)).le a ha; omega, ho18.lt a ha⟩⟩
      · have hbe : ¬ r.done < s.x.com := fun hlt => by rw [ht.2 hlt] at htf; cases htf
        have htel : comL s r = [] := if_neg hbe
        have hF10 := hF9.reset.after g10
        have gO10 : Grow w9 w10 := g10
        exact ⟨hF10.sub (by simp), fin (gr hF10) (ho9.sl.grow gO10) (by rw [saysL, hms, htel] <;> rfl) fun a ha => ⟨by have := of9.le a ha; omega, by have := ho9.lt a ha; have := gO10.size; omega⟩⟩
    · have hms : tellL s r = [offerM (s.x.man s.tgt)] := by rw [tellL, if_pos ⟨by omega, hpr⟩, if_neg hrd, List.append_nil]
      have w1O : w1.heap.size ≤ w6.heap.size := by have := g56.size; have := g35.size; have := g3.size; have := hF2.grow.size; omega
      refine behind_spec (h.grow (gr hF6)) fun w10 t g10 ht => ⟨t, rfl, fun htt => ?_, fun htf => ?_⟩
      · have hbe : r.done < s.x.com := ht.1 htt
        have htel : comL s r = [offerM (s.x.man s.x.com), wordM 8 s.x.com] := if_pos hbe
        have hF10 := hF6.reset.after g10
        have gO10 : Grow w6 w10 := g10
        refine ⟨hF10.sub (by simp), fun w11 hF11 => ?_, fun l29 hl29 w26 hF26 => ?_⟩
        · have gO11 := gO10.trans hF11.grow
          refine Committed_spec (hp (gr hF11)) ⟨_, rfl, hF11.reset, ?_, fun l21 hl21 w19 hF19 => ?_⟩
          · refine Offer_spec (hp (gr hF11)) (by omega) hcl (.inr rfl) fun w13 g13 => ⟨_, _, _, _, _, _, _, _, rfl, hF11.reset.after g13, fun l15 hl15 w14 hF14 => ?_⟩
            have b15 : w11.heap.size ≤ l15 := by have := g13.size; omega
            have bO := gO11.size
            have gO14 : Grow w6 _ := ((gO11.trans g13).trans (hF14.unM hl15).grow)
            refine Committed_spec (hp (gr hF14)) ⟨_, rfl, hF14.reset, ?_⟩
            refine word_spec fun w16 g16 => ⟨_, _, _, _, _, _, _, rfl, hF14.reset.after g16, fun l18 hl18 w17 hF17 => ?_⟩
            have gO17 : Grow w6 w17 := (gO14.trans g16).trans hF17.grow
            refine app_msg (ys := [offerM (s.x.man s.x.com), wordM 8 s.x.com]) (ho6.grow gO17) rfl hlc (hF17.sl 2 rfl) rfl (by decide) fun q6 c6 w18 ho18 hc18 g18 hq18 hg18 => ?_
            have hF18 := hF17.app2 g18 w1.heap.size w6.heap.size of6 (fun a ha => ho6.lt a ha) (fun x hx => by have := gO17.size; have := gO14.size; have := g16.size; simp at hx; rcases hx with rfl | rfl | rfl; exact .inl (by simp only []; omega); exact .inr (by simp only []; omega); exact .inr (by simp only []; omega)) s1
            exact ⟨_, _, _, rfl, hF18, fin (gr hF18) ho18.sl (by rw [saysL, hms, htel] <;> rfl) fun a ha => ⟨by have := (of6.next hq18 (by have := gO17.size; omega)).le a ha; omega, ho18.lt a ha⟩⟩
          · have gO19 := gO11.trans hF19.grow
            refine Offer_spec (hp (gr hF19)) (by omega) hcl (.inr rfl) fun w20 g20 => ⟨_, _, _, _, _, _, _, _, rfl, hF19.reset.after g20, fun w21 hF21 => ?_⟩
            have bO := gO11.size
            have gO14 : Grow w6 _ := (Chg.trans (gO19.trans g20) hF21.stp fun i hi hm => by simp at hm; omega)
            refine Committed_spec (hp (gr hF21)) ⟨_, rfl, hF21.reset, ?_⟩
            refine word_spec fun w16 g16 => ⟨_, _, _, _, _, _, _, rfl, hF21.reset.after g16, fun l18 hl18 w17 hF17 => ?_⟩
            have gO17 : Grow w6 w17 := (gO14.trans g16).trans hF17.grow
            refine app_msg (ys := [offerM (s.x.man s.x.com), wordM 8 s.x.com]) (ho6.grow gO17) rfl hlc (hF17.sl 2 rfl) rfl (by decide) fun q6 c6 w18 ho18 hc18 g18 hq18 hg18 => ?_
            have hF18 := hF17.app2 g18 w1.heap.size w6.heap.size of6 (fun a ha => ho6.lt a ha) (fun x hx => by have := gO17.size; have := gO14.size; have := g16.size; simp at hx; rcases hx with rfl | rfl | rfl; exact .inl (by simp only []; omega); exact .inr (by simp only []; omega); exact .inr (by simp only []; omega)) s1
            exact ⟨_, _, _, rfl, hF18, fin (gr hF18) ho18.sl (by rw [saysL, hms, htel] <;> rfl) fun a ha => ⟨by have := (of6.next hq18 (by have := gO17.size; omega)).le a ha; omega, ho18.lt a ha⟩⟩
        · have gO26 := gO10.trans hF26.grow
          refine Committed_spec (hp (gr hF26)) ⟨_, rfl, hF26.reset, ?_⟩
          refine Offer_spec (hp (gr hF26)) (by omega) hcl (.inr rfl) fun w28 g28 => ⟨_, _, _, _, _, _, _, _, rfl, hF26.reset.after g28, fun w29 hF29 => ?_⟩
          have bO := gO10.size
          have gO14 : Grow w6 _ := (Chg.trans (gO26.trans g28) hF29.stp fun i hi hm => by simp at hm; omega)
          refine Committed_spec (hp (gr hF29)) ⟨_, rfl, hF29.reset, ?_⟩
          refine word_spec fun w16 g16 => ⟨_, _, _, _, _, _, _, rfl, hF29.reset.after g16, fun l18 hl18 w17 hF17 => ?_⟩
          have gO17 : Grow w6 w17 := (gO14.trans g16).trans hF17.grow
          refine app_msg (ys := [offerM (s.x.man s.x.com), wordM 8 s.x.com]) (ho6.grow gO17) rfl hlc (hF17.sl 2 rfl) rfl (by decide) fun q6 c6 w18 ho18 hc18 g18 hq18 hg18 => ?_
          have hF18 := hF17.app2 g18 w1.heap.size w6.heap.size of6 (fun a ha => ho6.lt a ha) (fun x hx => by have := gO17.size; have := gO14.size; have := g16.size; simp at hx; rcases hx with rfl | rfl | rfl; exact .inl (by simp only []; omega); exact .inr (by simp only []; omega); exact .inr (by simp only []; omega)) s1
          exact ⟨_, _, _, rfl, hF18, fin (gr hF18) ho18.sl (by rw [saysL, hms, htel] <;> rfl) fun a ha => ⟨by have := (of6.next hq18 (by have := gO17.size; omega)).le a ha; omega, ho18.lt a ha⟩⟩
      · have hbe : ¬ r.done < s.x.com := fun hlt => by rw [ht.2 hlt] at htf; cases htf
        have htel : comL s r = [] := if_neg hbe
        have hF10 := hF6.reset.after g10
        have gO10 : Grow w6 w10 := g10
        exact ⟨hF10.sub (by simp), fin (gr hF10) (ho6.sl.grow gO10) (by rw [saysL, hms, htel] <;> rfl) fun a ha => ⟨by have := of6.le a ha; omega, by have := ho6.lt a ha; have := gO10.size; omega⟩⟩
  · have hms : tellL s r = [] := if_neg fun hh => hpr hh.2
    have w1O : w1.heap.size ≤ w3.heap.size := by have := g3.size; have := hF2.grow.size; omega
    refine behind_spec (h.grow (gr hF3)) fun w10 t g10 ht => ⟨t, rfl, fun htt => ?_, fun htf => ?_⟩
    · have hbe : r.done < s.x.com := ht.1 htt
      have htel : comL s r = [offerM (s.x.man s.x.com), wordM 8 s.x.com] := if_pos hbe
      have hF10 := hF3.reset.after g10
      have gO10 : Grow w3 w10 := g10
      refine ⟨hF10.sub (by simp), fun w11 hF11 => ?_, fun l29 hl29 w26 hF26 => ?_⟩
      · have gO11 := gO10.trans hF11.grow
        refine Committed_spec (hp (gr hF11)) ⟨_, rfl, hF11.reset, ?_, fun l21 hl21 w19 hF19 => ?_⟩
        · refine Offer_spec (hp (gr hF11)) (by omega) hcl (.inr rfl) fun w13 g13 => ⟨_, _, _, _, _, _, _, _, rfl, hF11.reset.after g13, fun l15 hl15 w14 hF14 => ?_⟩
          have b15 : w11.heap.size ≤ l15 := by have := g13.size; omega
          have bO := gO11.size
          have gO14 : Grow w3 _ := ((gO11.trans g13).trans (hF14.unM hl15).grow)
          refine Committed_spec (hp (gr hF14)) ⟨_, rfl, hF14.reset, ?_⟩
          refine word_spec fun w16 g16 => ⟨_, _, _, _, _, _, _, rfl, hF14.reset.after g16, fun l18 hl18 w17 hF17 => ?_⟩
          have gO17 : Grow w3 w17 := (gO14.trans g16).trans hF17.grow
          refine app_msg (ys := [offerM (s.x.man s.x.com), wordM 8 s.x.com]) (ho3.grow gO17) rfl (Nat.le_refl _) (hF17.sl 3 rfl) rfl (by decide) fun q6 c6 w18 ho18 hc18 g18 hq18 hg18 => ?_
          have hF18 := hF17.reset.after (hg18 (.inl (by decide)))
          exact ⟨_, _, _, rfl, hF18, fin (gr hF18) ho18.sl (by rw [saysL, hms, htel] <;> rfl) fun a ha => ⟨by have := (of3.next hq18 (by have := gO17.size; omega)).le a ha; omega, ho18.lt a ha⟩⟩
        · have gO19 := gO11.trans hF19.grow
          refine Offer_spec (hp (gr hF19)) (by omega) hcl (.inr rfl) fun w20 g20 => ⟨_, _, _, _, _, _, _, _, rfl, hF19.reset.after g20, fun w21 hF21 => ?_⟩
          have bO := gO11.size
          have gO14 : Grow w3 _ := (Chg.trans (gO19.trans g20) hF21.stp fun i hi hm => by simp at hm; omega)
          refine Committed_spec (hp (gr hF21)) ⟨_, rfl, hF21.reset, ?_⟩
          refine word_spec fun w16 g16 => ⟨_, _, _, _, _, _, _, rfl, hF21.reset.after g16, fun l18 hl18 w17 hF17 => ?_⟩
          have gO17 : Grow w3 w17 := (gO14.trans g16).trans hF17.grow
          refine app_msg (ys := [offerM (s.x.man s.x.com), wordM 8 s.x.com]) (ho3.grow gO17) rfl (Nat.le_refl _) (hF17.sl 3 rfl) rfl (by decide) fun q6 c6 w18 ho18 hc18 g18 hq18 hg18 => ?_
          have hF18 := hF17.reset.after (hg18 (.inl (by decide)))
          exact ⟨_, _, _, rfl, hF18, fin (gr hF18) ho18.sl (by rw [saysL, hms, htel] <;> rfl) fun a ha => ⟨by have := (of3.next hq18 (by have := gO17.size; omega)).le a ha; omega, ho18.lt a ha⟩⟩
      · have gO26 := gO10.trans hF26.grow
        refine Committed_spec (hp (gr hF26)) ⟨_, rfl, hF26.reset, ?_⟩
        refine Offer_spec (hp (gr hF26)) (by omega) hcl (.inr rfl) fun w28 g28 => ⟨_, _, _, _, _, _, _, _, rfl, hF26.reset.after g28, fun w29 hF29 => ?_⟩
        have bO := gO10.size
        have gO14 : Grow w3 _ := (Chg.trans (gO26.trans g28) hF29.stp fun i hi hm => by simp at hm; omega)
        refine Committed_spec (hp (gr hF29)) ⟨_, rfl, hF29.reset, ?_⟩
        refine word_spec fun w16 g16 => ⟨_, _, _, _, _, _, _, rfl, hF29.reset.after g16, fun l18 hl18 w17 hF17 => ?_⟩
        have gO17 : Grow w3 w17 := (gO14.trans g16).trans hF17.grow
        refine app_msg (ys := [offerM (s.x.man s.x.com), wordM 8 s.x.com]) (ho3.grow gO17) rfl (Nat.le_refl _) (hF17.sl 3 rfl) rfl (by decide) fun q6 c6 w18 ho18 hc18 g18 hq18 hg18 => ?_
        have hF18 := hF17.reset.after (hg18 (.inl (by decide)))
        exact ⟨_, _, _, rfl, hF18, fin (gr hF18) ho18.sl (by rw [saysL, hms, htel] <;> rfl) fun a ha => ⟨by have := (of3.next hq18 (by have := gO17.size; omega)).le a ha; omega, ho18.lt a ha⟩⟩
    · have hbe : ¬ r.done < s.x.com := fun hlt => by rw [ht.2 hlt] at htf; cases htf
      have htel : comL s r = [] := if_neg hbe
      have hF10 := hF3.reset.after g10
      have gO10 : Grow w3 w10 := g10
      exact ⟨hF10.sub (by simp), fin (gr hF10) (ho3.sl.grow gO10) (by rw [saysL, hms, htel] <;> rfl) fun a ha => ⟨by have := of3.le a ha; omega, by have := ho3.lt a ha; have := gO10.size; omega⟩⟩
  · have hms : tellL s r = [] := if_neg fun hh => htg (by omega)
    have w1O : w1.heap.size ≤ w3.heap.size := by have := g3.size; have := hF2.grow.size; omega
    refine behind_spec (h.grow (gr hF3)) fun w10 t g10 ht => ⟨t, rfl, fun htt => ?_, fun htf => ?_⟩
    · have hbe : r.done < s.x.com := ht.1 htt
      have htel : comL s r = [offerM (s.x.man s.x.com), wordM 8 s.x.com] := if_pos hbe
      have hF10 := hF3.reset.after g10
      have gO10 : Grow w3 w10 := g10
      refine ⟨hF10.sub (by simp), fun w11 hF11 => ?_, fun l29 hl29 w26 hF26 => ?_⟩
      · have gO11 := gO10.trans hF11.grow
        refine Committed_spec (hp (gr hF11)) ⟨_, rfl, hF11.reset, ?_, fun l21 hl21 w19 hF19 => ?_⟩
        · refine Offer_spec (hp (gr hF11)) (by omega) hcl (.inr rfl) fun w13 g13 => ⟨_, _, _, _, _, _, _, _, rfl, hF11.reset.after g13, fun l15 hl15 w14 hF14 => ?_⟩
          have b15 : w11.heap.size ≤ l15 := by have := g13.size; omega
          have bO := gO11.size
          have gO14 : Grow w3 _ := ((gO11.trans g13).trans (hF14.unM hl15).grow)
          refine Committed_spec (hp (gr hF14)) ⟨_, rfl, hF14.reset, ?_⟩
          refine word_spec fun w16 g16 => ⟨_, _, _, _, _, _, _, rfl, hF14.reset.after g16, fun l18 hl18 w17 hF17 => ?_⟩
          have gO17 : Grow w3 w17 := (gO14.trans g16).trans hF17.grow
          refine app_msg (ys := [offerM (s.x.man s.x.com), wordM 8 s.x.com]) (ho3.grow gO17) rfl (Nat.le_refl _) (hF17.sl 3 rfl) rfl (by decide) fun q6 c6 w18 ho18 hc18 g18 hq18 hg18 => ?_
          have hF18 := hF17.reset.after (hg18 (.inl (by decide)))
          exact ⟨_, _, _, rfl, hF18, fin (gr hF18) ho18.sl (by rw [saysL, hms, htel] <;> rfl) fun a ha => ⟨by have := (of3.next hq18 (by have := gO17.size; omega)).le a ha; omega, ho18.lt a ha⟩⟩
        · have gO19 := gO11.trans hF19.grow
          refine Offer_spec (hp (gr hF19)) (by omega) hcl (.inr rfl) fun w20 g20 => ⟨_, _, _, _, _, _, _, _, rfl, hF19.reset.after g20, fun w21 hF21 => ?_⟩
          have bO := gO11.size
          have gO14 : Grow w3 _ := (Chg.trans (gO19.trans g20) hF21.stp fun i hi hm => by simp at hm; omega)
          refine Committed_spec (hp (gr hF21)) ⟨_, rfl, hF21.reset, ?_⟩
          refine word_spec fun w16 g16 => ⟨_, _, _, _, _, _, _, rfl, hF21.reset.after g16, fun l18 hl18 w17 hF17 => ?_⟩
          have gO17 : Grow w3 w17 := (gO14.trans g16).trans hF17.grow
          refine app_msg (ys := [offerM (s.x.man s.x.com), wordM 8 s.x.com]) (ho3.grow gO17) rfl (Nat.le_refl _) (hF17.sl 3 rfl) rfl (by decide) fun q6 c6 w18 ho18 hc18 g18 hq18 hg18 => ?_
          have hF18 := hF17.reset.after (hg18 (.inl (by decide)))
          exact ⟨_, _, _, rfl, hF18, fin (gr hF18) ho18.sl (by rw [saysL, hms, htel] <;> rfl) fun a ha => ⟨by have := (of3.next hq18 (by have := gO17.size; omega)).le a ha; omega, ho18.lt a ha⟩⟩
      · have gO26 := gO10.trans hF26.grow
        refine Committed_spec (hp (gr hF26)) ⟨_, rfl, hF26.reset, ?_⟩
        refine Offer_spec (hp (gr hF26)) (by omega) hcl (.inr rfl) fun w28 g28 => ⟨_, _, _, _, _, _, _, _, rfl, hF26.reset.after g28, fun w29 hF29 => ?_⟩
        have bO := gO10.size
        have gO14 : Grow w3 _ := (Chg.trans (gO26.trans g28) hF29.stp fun i hi hm => by simp at hm; omega)
        refine Committed_spec (hp (gr hF29)) ⟨_, rfl, hF29.reset, ?_⟩
        refine word_spec fun w16 g16 => ⟨_, _, _, _, _, _, _, rfl, hF29.reset.after g16, fun l18 hl18 w17 hF17 => ?_⟩
        have gO17 : Grow w3 w17 := (gO14.trans g16).trans hF17.grow
        refine app_msg (ys := [offerM (s.x.man s.x.com), wordM 8 s.x.com]) (ho3.grow gO17) rfl (Nat.le_refl _) (hF17.sl 3 rfl) rfl (by decide) fun q6 c6 w18 ho18 hc18 g18 hq18 hg18 => ?_
        have hF18 := hF17.reset.after (hg18 (.inl (by decide)))
        exact ⟨_, _, _, rfl, hF18, fin (gr hF18) ho18.sl (by rw [saysL, hms, htel] <;> rfl) fun a ha => ⟨by have := (of3.next hq18 (by have := gO17.size; omega)).le a ha; omega, ho18.lt a ha⟩⟩
    · have hbe : ¬ r.done < s.x.com := fun hlt => by rw [ht.2 hlt] at htf; cases htf
      have htel : comL s r = [] := if_neg hbe
      have hF10 := hF3.reset.after g10
      have gO10 : Grow w3 w10 := g10
      exact ⟨hF10.sub (by simp), fin (gr hF10) (ho3.sl.grow gO10) (by rw [saysL, hms, htel] <;> rfl) fun a ha => ⟨by have := of3.le a ha; omega, by have := ho3.lt a ha; have := gO10.size; omega⟩⟩
end Go.Vc
