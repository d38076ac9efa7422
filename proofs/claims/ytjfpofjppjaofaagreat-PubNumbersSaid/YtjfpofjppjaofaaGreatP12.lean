/-
  A part of the proof of the statement PubNumbersSaid, in Lean: Op2, Op3, Nu1, Rw6. By an AI agent.
-/
import Derived.Test.YtjfpofjppjaofaaGreatP11
set_option linter.unusedSimpArgs false
set_option linter.unusedVariables false
set_option maxRecDepth 1000000
/-! A part of the proof that two events of one line are one event: the calculus that follows known memory by computing, and its soundness. By an AI agent. -/


namespace Go.Vc
open Go
/-! ## a record is read (pub): contracts -/
theorem parse_spec {mn : Man} {list : List (List UInt8)} (hL : VerL mn list) (hlen : (recV mn list).length ≤ 60000) {w : World} {K : Value → World → Prop}
    (hK : ∀ w' b, Grow w w' → w.heap.size ≤ b → VerO (fun j => j < w.heap.size) w' b mn list → K (.tuple #[.pointer (some ⟨b, 0, none⟩), .bool true]) w') : CallV PR F.pub_parse ⟨[.string (str (recV mn list))]⟩ w K := by
  have hm := putMan_len hL.ok
  have e : recV mn list = [86] ++ (putShort (putMan mn).length ++ (putMan mn ++ list.flatten)) := by unfold recV; rw [putText1]; simp
  have hp := putShort_le (putMan mn).length (by omega)
  have hfl : (recV mn list).length = 1 + ((putShort (putMan mn).length).length + ((putMan mn).length + list.flatten.length)) := by rw [e, List.length_append, List.length_append, List.length_append]; rfl
  have hbl := hL.blocks
  have hb2 := hL.ok.blocks.2
  have d1 : (recV mn list).drop 1 = putShort (putMan mn).length ++ (putMan mn ++ list.flatten) := by rw [e]; rfl
  have d2 : (recV mn list).drop (1 + (putShort (putMan mn).length).length) = putMan mn ++ list.flatten := by rw [← List.drop_drop, d1, List.drop_left' rfl]
  have d3 : (recV mn list).drop (1 + (putShort (putMan mn).length).length + (putMan mn).length) = list.flatten := by rw [← List.drop_drop, d2, List.drop_left' rfl]
  generalize hP : (putShort (putMan mn).length).length = P at *
  refine pub_parse' _ S0 K w ?_
  refine ShortAt_spec (at_ := 1) (n := (((putMan mn).length : Nat) : Int)) (by omega) (by omega) (by omega) d1 ?_
  rw [Int.toNat_natCast, hP]
  refine ⟨_, _, _, rfl, .init _ w, fun _ => ⟨fun h => ?_, fun _ => ?_⟩, (fun t x h => by cases h), .inl rfl⟩
  · rw [str_size, w64 (by omega) (by omega)] at h; omega
  rw [str_size, w64 (by omega) (by omega)]
  have en : Int.toNat (((1 + P : Nat) : Int) + (((putMan mn).length : Nat) : Int)) = 1 + P + (putMan mn).length := by omega
  have ex1 : ByteArray.extract (str (recV mn list)) (Int.toNat ((1 + P : Nat) : Int)) (1 + P + (putMan mn).length) = str (putMan mn) := by
    rw [extract_str, Int.toNat_natCast, d2, List.take_left' (by omega)]
  have ex2 : ByteArray.extract (str (recV mn list)) (1 + P + (putMan mn).length) ((recV mn list).length) = str list.flatten := by
    rw [extract_str, d3, List.take_of_length_le (by omega)]
  rw [en, ex1]
  refine ⟨by omega, by omega, by omega, by omega, ?_⟩
  refine MGet_ok hL.ok fun w1 q c g1 ho hc hof => ⟨_, _, _, _, _, _, _, _, _, rfl, (Fr.init _ w).after g1, fun l2 hl2 => ⟨fun _ => ⟨by omega, by omega, fun l3 hl3 w2 hF2 => ?_⟩, (fun t x h => by cases h), .inl rfl⟩⟩
  have hF2' := (hF2.unM hl2)
  rw [ex2] at hF2'
  have g12 : Grow w1 w2 := hF2'.grow
  have cf : [list.flatten].flatten = list.flatten := by simp
  refine Cut_spec (xs := [list.flatten]) (hF2'.sl 1 rfl) rfl (Nat.le_refl _) (by simp) (by rw [cf]; omega) fun w3 q1 c1 g3 ho1 hc1 hof1 => ?_
  rw [cf, hL.cut] at ho1 hc1 ⊢
  refine ⟨_, _, _, rfl, ?_, fun _ w4 hF4 => ?_, fun hne => absurd hbl.symm hne⟩
  · rw [ex2]; exact hF2'.reset.after g3
  have g4 : Grow w3 w4 := hF4.grow
  refine Root_spec (ho1.sl.grow g4) rfl (by omega) (fun x hx => by have := hL.small x hx; omega) fun w5 g5 => ⟨_, rfl, hF4.reset.after g5, fun _ l6 hl6 w6 hF6 => ?_, fun hne => absurd (by rw [hL.root]) hne⟩
  have s1 := g1.size
  have s2 := g12.size
  have s3 := g3.size
  have s4 := g4.size
  have s5 := g5.size
  have g6 : Grow w5 w6 := hF6.grow
  have g26 : Grow w2 w6 := ((g3.trans g4).trans g5).trans g6
  have hofq : ∀ {n : Nat} {q : Option Addr}, Off (fun j => j < n) q → w.heap.size ≤ n → Off (fun j => j < w.heap.size) q := fun h hn => h.mono hn
  refine hK w6 l6 (((g1.trans g12).trans g26)) (by omega) ⟨q, c, q1, c1, hF6.blk 0 rfl, by omega, (((ho.grow g12).grow g26).sl).out hof, ((((ho1.grow g4).grow g5).grow g6).sl).out (hof1.mono (by omega)), hc1⟩
theorem HasPrefix_spec {s p : ByteArray} {w : World} {K : Value → World → Prop} (hK : K (.bool (decide (p.size ≤ s.size ∧ s.extract 0 p.size = p))) w) : CallV PR F.strings_HasPrefix ⟨[.string s, .string p]⟩ w K := by
  have h0 : Fs S0 w [] w := Fr.init _ w
  refine strings_HasPrefix s p S0 K w (internal_stringslite_HasPrefix s p S0 _ w ⟨fun hge => ⟨by omega, by omega, fun he => ?_, fun hne => ?_⟩, fun hlt => ?_⟩)
  · rw [decide_eq_true ⟨by omega, he⟩] at hK
    exact ⟨true, rfl, fun _ => ⟨h0, hK⟩, fun h => by cases h⟩
  · rw [decide_eq_false (fun h => hne h.2)] at hK
    exact ⟨false, rfl, (fun h => by cases h), fun _ => ⟨h0, hK⟩⟩
  · rw [decide_eq_false (fun h => by omega)] at hK
    exact ⟨false, rfl, (fun h => by cases h), fun _ => ⟨h0, hK⟩⟩
theorem prefix_yes {c : UInt8} {l : List UInt8} : decide ((str [c]).size ≤ (str (c :: l)).size ∧ (str (c :: l)).extract 0 (str [c]).size = str [c]) = true := by
  apply decide_eq_true
  refine ⟨by simp [str_size], ?_⟩
  rw [extract_str, str_size]; simp
theorem prefix_no {c d : UInt8} {l : List UInt8} (h : d ≠ c) : decide ((str [c]).size ≤ (str (d :: l)).size ∧ (str (d :: l)).extract 0 (str [c]).size = str [c]) = false := by
  apply decide_eq_false
  rintro ⟨_, h1⟩
  rw [extract_str, str_size] at h1
  have := str_inj h1
  simp at this
  exact h this
end Go.Vc

/-! A part of the proof that two events of one line are one event: the calculus that follows known memory by computing, and its soundness. By an AI agent. -/

namespace Go.Vc
open Go Go.MapKept
/-! ## what was published is opened anew (pub.Open) -/
/-- a publisher that goes through its records -/
structure PubR (D : Nat → Prop) (w : World) (p bj m each : Nat) (s : PSt) (R : Value → Value → Prop) : Prop where
  blk : w.heap[p]? = some (.cells (pubC bj each s.last s.com m) T.pub_Pub (0, 0))
  map : ∃ n, MapP w T.int m n R
  kept : ∀ k v, R k v → KeptAt D w s.last s.man k v
  has : ∀ i : Nat, 1 ≤ i → i ≤ s.last → s.last < i + 3 ∨ i = s.com → ∃ v, R (.int .i64 (i : Int)) v
  only : ∀ (i : Nat) v, R (.int .i64 (i : Int)) v → s.last < i + 3 ∨ i = s.com
  com_le : s.com ≤ s.last
theorem KeptAt.shown {D : Nat → Prop} {w : World} {last : Nat} {man : Nat → Man} {R : Value → Value → Prop} (hl : last ≤ 1000000) (h : ∀ k v, R k v → KeptAt D w last man k v) : shownR R := by
  intro k v hr
  obtain ⟨i, b, c, mn, list, h1, h2, h3, h4, _⟩ := h k v hr
  exact ⟨i, b, c, by omega, h3, h4⟩
theorem replay_spec {D : Nat → Prop} {w : World} {p bj m each : Nat} {s : PSt} {R : Value → Value → Prop} (h : PubR D w p bj m each s R) (hD : ∀ k, D k → k < w.heap.size) (hp : D p) (hm : D m) (hl : s.last ≤ 200000) {r : RecO} (hr : r.ok s) (hlen : r.bytes.length ≤ 60000) {K : Value → World → Prop}
    (hK : ∀ w' R', Chg (fun k => k = p ∨ k = m) w w' → PubR D w' p bj m each (r.step s) R' → K (.tuple #[]) w') : CallV PR F.p_pub_Pub_replay ⟨[.pointer (some ⟨p, 0, none⟩), .string (str r.bytes)]⟩ w K := by
  obtain ⟨n, hmap⟩ := h.map
  have hpm := mapNe h.blk hmap
  have hsh : shownR R := KeptAt.shown (by omega) h.kept
  have hcl := h.com_le
  have h0 : Fs (fun k => k = p ∨ k = m) w [⟨p, pubC bj each s.last s.com m, T.pub_Pub, true⟩] w := (Fr.init _ w).entry h.blk (fun x h => by cases h) fun _ => .inl rfl
  have hS : ∀ k, (k = p ∨ k = m) → D k := fun k e => by rcases e with rfl | rfl; exact hp; exact hm
  refine pub_Pub_replay p (some ⟨bj, 0, none⟩) each s.last s.com (some m) (str r.bytes) (fun k => k = p ∨ k = m) K w h0 ⟨.inl rfl, trivial⟩ ?_
  cases r with
  | ver mn list =>
    obtain ⟨hL, hv⟩ := hr
    have e : recV mn list = 86 :: (putTextL [putMan mn] ++ list.flatten) := by simp [recV]
    have hpre := prefix_yes (c := 86) (l := putTextL [putMan mn] ++ list.flatten)
    rw [← e] at hpre
    refine HasPrefix_spec (s := str (recV mn list)) (p := str [86]) ?_
    rw [hpre]
    refine ⟨true, rfl, fun _ => ⟨h0, ?_⟩, fun h => by cases h⟩
    refine parse_spec hL hlen fun w1 b g1 hb hvo => ⟨_, true, rfl, fun _ => ⟨h0.after g1, fun w2 hF2 => ?_⟩, fun h => by cases h⟩
    have g2 : Grow w1 w2 := hF2.grow
    have hvo2 : VerO D w2 b mn list := (hvo.keep (D' := D) (.refl (fun _ => False) _) (fun _ _ e => e.elim) fun k _ e => hD k e).keep g2 (fun _ _ e => e.elim) fun _ _ e => e
    have hc : w2.cell? ⟨b, 0, none⟩ = some (.int .i64 ((s.last + 1 : Nat) : Int)) := by
      obtain ⟨q, c, ql, cl, h1, _⟩ := hvo2
      rw [cell_blk h1, ← hv]; rfl
    refine ⟨fun w' => w'.cell? ⟨b, 0, none⟩ = some (.int .i64 ((s.last + 1 : Nat) : Int)), hc, ?_⟩
    refine Dr_some.2 (Dr_some.2 (Dr_some.2 (Dr_some.2 ⟨_, fun w3 h => h, fun _ => ?_, fun hh => absurd (show ((s.last + 1 : Nat) : Int) > (s.last : Nat) by omega) hh⟩)))
    have g02 : Grow w w2 := g1.trans g2
    refine show_spec (ver := s.last + 1) (mn := mn) (list := list) (hF2.blk 0 rfl) (hmap.grow g02) hsh (hvo2.keep (.refl (fun _ => False) _) (fun _ _ e => e.elim) fun k _ e => hS k e) hL hv (by omega) fun w3 c n3 g3 hb3 hm3 => ?_
    have hF3 := hF2.reset.mod g3 hb3 (fun x hx => by cases hx) fun k _ e => e
    refine ⟨rfl, _, _, _, _, _, hF3, hK w3 _ hF3.chg ⟨hb3, ⟨n3, hm3⟩, ?_, ?_, fun i v hr => only_of hr.2, by show s.com ≤ s.last + 1; omega⟩⟩
    · rintro k v ⟨hr, _⟩
      rcases hr with ⟨rfl, rfl⟩ | ⟨hne, hr⟩
      · exact ⟨s.last + 1, b, c, mn, list, by omega, Nat.le_refl _, rfl, rfl, hvo2.keep g3 (fun k _ e => hS k e) (fun _ _ e => e), hL, hv, by show mn = if s.last + 1 = s.last + 1 then mn else s.man (s.last + 1); rw [if_pos rfl]⟩
      · obtain ⟨i, b', c', mn', list', k1, k2, k3, k4, k5, k6, k7, k8⟩ := h.kept k v hr
        exact ⟨i, b', c', mn', list', k1, by show i ≤ s.last + 1; omega, k3, k4, (k5.keep g02 (fun _ _ e => e.elim) (fun _ _ e => e)).keep g3 (fun k _ e => hS k e) (fun _ _ e => e), k6, k7, by show mn' = if i = s.last + 1 then mn else s.man i; rw [if_neg (by omega)]; exact k8⟩
    · intro i hi1 hi2 hi3
      have hi2' : i ≤ s.last + 1 := hi2
      have hi3' : s.last + 1 < i + 3 ∨ i = s.com := hi3
      have hnd : ¬ delP ((s.last + 1 : Nat) : Int) s.com (.int .i64 (i : Int)) := by
        rintro ⟨j, hj, k1, k2⟩
        have e2 : (i : Int) = j := by injection hj
        subst e2
        rcases hi3' with h' | h'
        · omega
        · exact k2 (by rw [h'])
      by_cases hi : i = s.last + 1
      · subst hi; exact ⟨_, .inl ⟨rfl, rfl⟩, hnd⟩
      · obtain ⟨v, hv⟩ := h.has i hi1 (by omega) (hi3'.imp (fun h => by omega) id)
        refine ⟨v, .inr ⟨fun e => hi ?_, hv⟩, hnd⟩
        have e2 : (i : Int) = ((s.last + 1 : Nat) : Int) := by injection e
        omega
  | com ver =>
    obtain ⟨h1, h2, h3⟩ := hr
    have h1' : s.com < ver := h1
    have h2' : ver ≤ s.last := h2
    have h3' : s.last < ver + 3 := h3
    have e : recC ver = 67 :: putShort ver := rfl
    refine HasPrefix_spec (s := str (recC ver)) (p := str [86]) ?_
    rw [e, prefix_no (by decide)]
    refine ⟨false, rfl, (fun h => by cases h), fun _ => ⟨h0, ?_⟩⟩
    refine HasPrefix_spec (s := str (recC ver)) (p := str [67]) ?_
    rw [e, prefix_yes]
    refine ⟨true, rfl, fun _ => ⟨h0, ?_⟩, fun h => by cases h⟩
    have hp8 := putShort_le ver (by omega)
    refine ShortAt_spec (at_ := 1) (l := 67 :: putShort ver) (n := ((ver : Nat) : Int)) (r := []) (by simp; omega) (by omega) (by simp) (by simp) ?_
    rw [Int.toNat_natCast]
    refine ⟨_, _, _, rfl, h0, fun _ => ⟨fun _ => ?_, fun hne => absurd (by show _ = ((ByteArray.size (str (67 :: putShort ver)) : Nat) : Int); rw [str_size, List.length_cons, Nat.add_comm]) hne⟩, (fun t x h => by cases h), .inl rfl⟩
    obtain ⟨v, hv⟩ := h.has ver (by omega) h2' (.inl h3')
    refine commit_spec h.blk hmap hsh (by omega) hv h1' fun w1 n1 g1 hb1 hm1 => ?_
    have hF1 := h0.mod g1 hb1 (fun x hx => by cases hx) fun k _ e => e
    refine ⟨rfl, _, _, _, _, _, hF1, hK w1 _ hF1.chg ⟨hb1, ⟨n1, hm1⟩, fun k v hr => (h.kept k v hr.1).keep g1 (fun k _ e => hS k e) (fun _ _ e => e) (Nat.le_refl _), fun i hi1 hi2 hi3 => ?_, fun i v hr => only_of hr.2, h2'⟩⟩
    have hi3' : s.last < i + 3 ∨ i = ver := hi3
    have hnd : ¬ delP s.last ver (.int .i64 (i : Int)) := by
      rintro ⟨j', hj', a1, a2⟩
      have e2 : (i : Int) = j' := by injection hj'
      subst e2
      rcases hi3' with h' | h'
      · omega
      · exact a2 (by rw [h'])
    rcases hi3' with h' | rfl
    · obtain ⟨v, hv⟩ := h.has i hi1 hi2 (.inl h')
      exact ⟨v, hv, hnd⟩
    · exact ⟨_, hv, hnd⟩
theorem runR_take {rs : List RecO} : ∀ (k : Nat) (s : PSt), okR s rs → (hk : k < rs.length) → rs[k].ok (runR s (rs.take k)) ∧ runR s (rs.take (k + 1)) = rs[k].step (runR s (rs.take k)) := by
  induction rs with
  | nil => intro k s _ hk; simp at hk
  | cons r rs ih =>
    intro k s h hk
    cases k with
    | zero => exact ⟨h.1, rfl⟩
    | succ k => exact ih k (r.step s) h.2 (by simpa using hk)
theorem runR_last {rs : List RecO} : ∀ (s : PSt), (runR s rs).last ≤ s.last + rs.length := by
  induction rs with
  | nil => intro s; simp [runR]
  | cons r rs ih =>
    intro s
    have := ih (r.step s)
    have h1 : (r.step s).last ≤ s.last + 1 := by cases r <;> simp [RecO.step]
    simp only [runR, List.length_cons]; omega
theorem Open_spec {N : Nat} {w : World} {bd each : Nat} {recs : List (List UInt8)} {last com : Nat} {man : Nat → Man} (hd : DskAt w bd (str (logL recs))) (hrep : Rep recs last com man) (hlog : (logL recs).length ≤ 200000) (hN : N ≤ bd) (hN2 : N ≤ w.heap.size) (he : 1 ≤ each) (he2 : each < 4096) {K : Value → World → Prop}
    (hK : ∀ w' x, Grow w w' → PubAt N w' x → x.bd = bd → x.each = each → x.last = last → x.com = com → x.recs = recs → x.man = man → w.heap.size ≤ x.p → K (.tuple #[.pointer (some ⟨x.p, 0, none⟩), .nilIface]) w') : CallV PR F.pub_Open ⟨[.pointer (some ⟨bd, 0, none⟩), .int .i64 each]⟩ w K := by
  have hf : ∀ {w' : World}, Grow w w' → Fs S0 w [] w' := fun g => (Fr.init _ w).after g
  obtain ⟨hr0, rs, hrs, hok, hrun⟩ := id hrep
  have hrl := logL_ge recs
  have hrsl : rs.length = recs.length := by rw [hrs, List.length_map]
  refine pub_Open' (some ⟨bd, 0, none⟩) each S0 K w ⟨fun h => by omega, fun _ => ⟨fun h => by omega, fun _ => ?_⟩⟩
  refine JOpen_spec hd hr0 hlog fun w1 bj q c g1 hbj hj hqof => ⟨_, _, rfl, hf g1, fun _ => ?_, (fun t x h => by cases h), .inl rfl⟩
  refine make_rn (k := T.int) fun w2 m hme hm g2 => ⟨_, rfl, hf (g1.trans g2), fun p hp w3 hF3 => ?_⟩
  have g3 : Grow w2 w3 := hF3.grow
  have hj3 := (hj.grow g2).grow g3
  refine JAll_spec hj3 (by omega) fun w4 q' c' g4 ho4 => ⟨_, _, _, rfl, hF3.after g4, ?_⟩
  have hF4 := hF3.after g4
  have hj4 := hj3.grow g4
  have s1 := g1.size
  have s2 := g2.size
  have s3 := g3.size
  have s4 := g4.size
  have hml := hm.lt
  have hpl : p < w4.heap.size := hF4.lt _ List.mem_cons_self
  have hm4 := (hm.grow g3).grow g4
  have hjp : ¬ jrnS bj bd q p := hj4.pub (hF4.blk 0 rfl)
  have hjm : ¬ jrnS bj bd q m := hj4.mapb hm4
  let D : Nat → Prop := fun k => k = p ∨ k = m ∨ jrnS bj bd q k
  have hD4 : ∀ k, D k → k < w4.heap.size := by
    rintro k (rfl | rfl | h)
    · exact hpl
    · omega
    · exact hj4.lt k h
  have hq4p : Off (fun k => k = p ∨ k = m) q' := by
    intro a ha e
    rcases ho4 with ⟨h, _⟩ | ⟨b, o, cs, h, hb, _⟩
    · rw [h] at ha; cases ha
    · rw [h] at ha; cases ha
      rcases e with e | e
      · exact cellsNe hb (hF4.blk 0 rfl) (show T.string ≠ T.pub_Pub by decide) e
      · exact mapNe hb hm4 e
  have hwp : ∀ k, (k = p ∨ k = m) → w.heap.size ≤ k := by rintro k (rfl | rfl) <;> omega
  refine ⟨fun i qq n1 n2 n3 q4 l w' => ∃ (k : Nat) (R : Value → Value → Prop), i = k ∧ k ≤ rs.length ∧ l = rs.length - k ∧ qq = some ⟨bj, 0, none⟩ ∧ n1 = each ∧ n2 = (runR .zero (rs.take k)).last ∧ n3 = (runR .zero (rs.take k)).com ∧ q4 = some m ∧ PubR D w' p bj m each (runR .zero (rs.take k)) R ∧ Chg (fun k => k = p ∨ k = m) w4 w', ⟨_, 0, fun _ _ => False, rfl, by omega, rfl, rfl, rfl, rfl, rfl, rfl,
    ⟨hF4.blk 0 rfl, ⟨0, hm4⟩, fun k v h => h.elim, fun i h1 h2 _ => absurd (Nat.le_trans h1 h2) (by simp [runR, PSt.zero]), fun i v h => h.elim, Nat.le_refl _⟩, .refl _ _⟩, ?_⟩
  rintro i qq n1 n2 n3 q4 Dv l w5 ⟨k, R, rfl, hk, rfl, rfl, rfl, rfl, rfl, rfl, hR, g5⟩ hF5
  have hD5 : ∀ k, D k → k < w5.heap.size := fun k hk => Nat.lt_of_lt_of_le (hD4 k hk) g5.size
  refine ⟨fun hlt => ?_, fun hge => ?_⟩
  · have hk' : k < rs.length := by omega
    have hk2 : k < recs.length := by omega
    obtain ⟨hok1, hstep⟩ := runR_take k .zero hok hk'
    have hsl : Sl w5 q' (recs.map sv8') := (ho4.keep g5 hq4p).sl
    have hlast : (runR .zero (rs.take k)).last ≤ 200000 := by
      have := runR_last (rs := rs.take k) .zero
      rw [List.length_take] at this
      have hz : PSt.zero.last = 0 := rfl
      omega
    have hbl : rs[k].bytes.length ≤ 60000 := hr0 _ (by rw [hrs]; exact List.mem_map.2 ⟨_, List.getElem_mem hk', rfl⟩)
    refine hsl.rd (v := sv8' (rs[k].bytes)) (by simp) (by omega) (by rw [Int.toNat_natCast, hrs]; simp [hk']) fun a ha => ⟨_, ha, ?_⟩
    refine replay_spec hR hD5 (.inl rfl) (.inr (.inl rfl)) hlast hok1 hbl fun w6 R6 g6 hR6 => ?_
    rw [← hstep] at hR6
    refine ⟨rfl, _, _, _, _, _, hF5.mod g6 hR6.blk (fun x hx => by cases hx) (fun k hk e => absurd (hwp k e) (by omega)), rs.length - (k + 1), by omega, k + 1, R6, by rw [w64 (by omega) (by omega)]; rfl, by omega, rfl, rfl, rfl, rfl, rfl, rfl, hR6, g5.trans g6 fun k _ e => e⟩
  · have hk' : k = rs.length := by omega
    subst hk'
    rw [List.take_length, hrun] at hR
    obtain ⟨n, hmap⟩ := hR.map
    have hj5 : JrnAt w5 bj bd q c recs := hj4.keep g5 fun k e hk => by rcases e with rfl | rfl; exact hjp hk; exact hjm hk
    have gg : Grow w w4 := ((g1.trans g2).trans g3).trans g4
    have gw : Grow w w5 := gg.then (g5.mono (T := fun k => k = p ∨ k = m) fun k _ e => e) |>.mono fun k hk e => absurd (hwp k e) (by omega)
    have hlst : last ≤ recs.length := by
      have := runR_last (rs := rs) .zero
      rw [hrun] at this
      have hz : PSt.zero.last = 0 := rfl
      simp only [] at this
      omega
    refine hK w5 ⟨p, bj, bd, m, each, q, c, last, com, recs, R, man, fun _ => False⟩ gw ⟨hR.blk, hj5, ⟨n, hmap⟩, fun k v hr => (hR.kept k v hr).keep (.refl (fun _ => False) _) (fun _ _ e => e.elim) (fun k _ e => e.elim id fun e => e.elim) (Nat.le_refl _), hR.has, hR.com_le, hlst, hlog, he, he2, ?_, fun k hk => hk.elim, hR.only, hrep⟩ rfl rfl rfl rfl rfl rfl (by show w.heap.size ≤ p; omega)
    rintro k (e | e | e | e | ⟨a, ha, e⟩)
    · have e' : k = p := e
      omega
    · have e' : k = m := e
      omega
    · have e' : k = bj := e
      omega
    · have e' : k = bd := e
      omega
    · have := hqof a ha; omega
end Go.Vc

/-! A part of the proof that two events of one line are one event: the calculus that follows known memory by computing, and its soundness. By an AI agent. -/


namespace Go.Vc
open Go
theorem PubNumbers_spec {w : World} {y : Option Addr} {n c : Nat} {ops : List OpV} (h : OpsAt w y ops) (hl : n = ops.length) {K : Value → World → Prop} (hK : ∀ w', Grow w w' → K (.bool true) w') : CallV PR F.ladinglaw22_PubNumbers ⟨[.slice y n c]⟩ w K := by
  subst hl
  have h0 : Fs S0 w [] w := Fr.init _ w
  refine ladinglaw22_PubNumbers y ops.length c S0 K w (awake22_spec fun w1 g1 => ⟨true, rfl, (fun _ => ⟨h0.after g1, ?_⟩), fun h => by cases h⟩)
  refine Great22_spec (h.grow g1) rfl (by decide) (fun w2 g2 => ⟨true, rfl, (fun _ => ⟨h0.after (g1.trans g2), hK w2 (g1.trans g2)⟩), fun h => by cases h⟩) fun w2 g2 hlen hsmall => ⟨false, rfl, (fun h => by cases h), fun _ => ⟨h0.after (g1.trans g2), ?_⟩⟩
  have g12 := g1.trans g2
  refine DNew_spec fun w3 bd g3 hbd hd => ⟨_, rfl, h0.after (g12.trans g3), ?_⟩
  have g13 := g12.trans g3
  have s13 := g13.size
  have s12 := g12.size
  refine Open0_spec (N := w.heap.size) (each := 8) hd (by omega) s13 (by decide) (by decide) fun w4 x0 g4 hx0 e1 e2 e3 e4 e5 hp => ⟨_, _, rfl, h0.after (g13.trans g4), fun _ => ?_, (fun t x h => by cases h), .inl rfl⟩
  have step : ∀ {L : List Blk} {wa wb : World} {x : PubS}, Fs S0 w L wa → PubAt w.heap.size wa x → Chg x.reg wa wb → (∀ y, y ∈ L → ¬ x.reg y.b) → Fs S0 w L wb := fun hF hx g hL => hF.step g hL fun k hk e => by have := hx.lo k e; omega
  have tail : ∀ {wa : World} {x : PubS} {L C : Int} {J : World → Prop}, Fs S0 w [] wa → PubAt w.heap.size wa x → L = x.last → C = x.com → J wa → CallV PR F.p_pub_Pub_Last #[.pointer (some ⟨x.p, 0, none⟩)] wa (fun v7 w7 => ∃ n8 : Int, v7 = .int .i64 n8 ∧ Fs S0 w [] w7 ∧
      (n8 = L → CallV PR F.p_pub_Pub_Committed #[.pointer (some ⟨x.p, 0, none⟩)] w7 (fun v8 w8 => ∃ n9 : Int, v8 = .int .i64 n9 ∧ Fs S0 w [] w8 ∧
        (n9 = C → CallV PR F.p_pub_Pub_Room #[.pointer (some ⟨x.p, 0, none⟩)] w8 (fun v9 w9 => ∃ n10 : Int, v9 = .int .i64 n10 ∧ Fs S0 w [] w9 ∧ (n10 > 200000 → K (.bool false) w9) ∧
          (¬ n10 > 200000 → CallV PR F.p_pub_Pub_Room #[.pointer (some ⟨x.p, 0, none⟩)] w9 (fun v10 w10 => ∃ n11 : Int, v10 = .int .i64 n11 ∧ Fs S0 w [] w10 ∧ (n11 < 0 → K (.bool false) w10) ∧ (¬ n11 < 0 → J w10))))) ∧ (¬ n9 = C → K (.bool false) w8))) ∧ (¬ n8 = L → K (.bool false) w7)) := by
    intro wa x L C J hF hx hL hC hJ
    have hr : x.room ≤ 200000 := by unfold PubS.room; omega
    refine Last_spec hx ⟨_, rfl, hF, fun _ => Committed_spec hx ⟨_, rfl, hF, fun _ => Room_spec hx ⟨_, rfl, hF, fun h => by omega, fun _ => Room_spec hx ⟨_, rfl, hF, fun h => by omega, fun _ => hJ⟩⟩, fun hne => absurd hC.symm hne⟩, fun hne => absurd hL.symm hne⟩
  refine ⟨fun q a b i m w' => ∃ (k : Nat) (x : PubS), q = some ⟨x.p, 0, none⟩ ∧ a = x.last ∧ b = x.com ∧ i = k ∧ k ≤ ops.length ∧ m = ops.length - k ∧ PubAt w.heap.size w' x ∧ x.bd = bd ∧ x.each = 8, ⟨_, 0, x0, rfl, by rw [e3]; rfl, by rw [e4]; rfl, rfl, by omega, rfl, hx0, e1, e2⟩, ?_⟩
  rintro q a b i D m w5 ⟨k, x, rfl, rfl, rfl, rfl, hk, rfl, hx, eb, ee⟩ hF5
  refine ⟨fun hlt => ?_, fun hge => hK w5 hF5.gr⟩
  have hk' : k < ops.length := by omega
  refine (h.grow hF5.gr).row.rdN opC_len (by decide) rfl hk' hk' fun a hc => ?_
  have hsl := h.l _ (List.getElem_mem hk')
  have hnn := h.n _ (List.getElem_mem hk')
  have hsm := hsmall _ (List.getElem_mem hk')
  generalize ops[k] = o at hc hsl hnn hsm
  have next : ((k : Int) + 1) = ((k + 1 : Nat) : Int) := by omega
  have wn : IntKind.wrap .i64 ((k : Int) + 1) = ((k + 1 : Nat) : Int) := by rw [w64 (by omega) (by omega)]; exact next
  obtain ⟨hsm1, hsm2, hsm3⟩ := hx.small
  refine ⟨_, hc 0 _ rfl, _, hc 1 _ rfl, _, hc 2 _ rfl, _, _, _, hc 3 _ rfl, _, _, _, hc 4 _ rfl, _, hc 5 _ rfl, fun l6 hl6 => ⟨fun hk0 w6 hF6 => ?_, fun hk0 => ⟨fun hk1 w6 hF6 => ?_, fun hk1 => ⟨fun hk3 w6 hF6 => ?_, fun hk3 w6 hF6 => ?_⟩⟩⟩⟩
  · have hF6' := (hF6.unM hl6).reset
    have g6 : Grow w5 w6 := (hF6.unM hl6).grow
    have hx6 := hx.grow g6
    have hoff : ∀ y, y ∈ [(⟨l6, #[.int .i64 o.k, .int .i64 o.n, .int .i64 o.nodes, .slice o.q o.l.length o.c, .slice o.q2 o.l2 o.c2, .int .i64 o.n2], T.ladinglaw22_Op, true⟩ : Blk)] → ¬ x.reg y.b := fun y hy e => by simp at hy; subst hy; have := hx.lt _ e; simp only [] at this; omega
    refine Publish_spec hx6 hF6'.gr.size (hsl.grow hF6'.gr) rfl (by omega) (fun w7 x7 hx7 g7 f1 f2 f3 f4 f5 f6 fr fx f7 f8 => ?_) fun w7 v g7 hx7 hv hno => ?_
    · have hF7 := step hF6' hx6 g7 hoff
      have hF7' := hF7.sub (L' := []) (List.nil_sublist _)
      have el : IntKind.wrap .i64 ((x.last : Int) + 1) = (x7.last : Nat) := by rw [w64 (by omega) (by omega), f4]; rfl
      rw [el, wn, ← f1]
      refine ⟨_, _, rfl, hF7, fun _ => ⟨fun _ => tail hF7' hx7 rfl (by rw [f5]) ⟨ops.length - (k + 1), by omega, k + 1, x7, rfl, rfl, by rw [f5], rfl, by omega, rfl, hx7, by rw [f2, eb], by rw [f3, ee]⟩, fun hne => absurd rfl hne⟩, (fun t x h => by cases h), .inl rfl⟩
    · obtain ⟨t, v, rfl⟩ := hv
      have hF7 := hF6'.after g7
      have hF7' := hF7.sub (L' := []) (List.nil_sublist _)
      rw [wn]
      exact ⟨_, _, rfl, hF7, (fun h => by cases h), fun t x' he => ⟨fun _ => tail hF7' hx7 rfl rfl ⟨ops.length - (k + 1), by omega, k + 1, x, rfl, rfl, rfl, rfl, by omega, rfl, hx7, eb, ee⟩, fun hne => absurd rfl hne⟩, .inr ⟨_, _, rfl⟩⟩
  · have hF6' := (hF6.unM hl6).reset
    have g6 : Grow w5 w6 := (hF6.unM hl6).grow
    have hx6 := hx.grow g6
    have hoff : ∀ y, y ∈ [(⟨l6, #[.int .i64 o.k, .int .i64 o.n, .int .i64 o.nodes, .slice o.q o.l.length o.c, .slice o.q2 o.l2 o.c2, .int .i64 o.n2], T.ladinglaw22_Op, true⟩ : Blk)] → ¬ x.reg y.b := fun y hy e => by simp at hy; subst hy; have := hx.lt _ e; simp only [] at this; omega
    refine Commit_spec hx6 hF6'.gr.size hnn (fun w7 x7 hx7 g7 f1 f2 f3 f4 f5 f6 f7 fr fm fl fx f8 => ?_) fun w7 v g7 hx7 hv hno => ?_
    · have hF7 := step hF6' hx6 g7 hoff
      have hF7' := hF7.sub (L' := []) (List.nil_sublist _)
      rw [wn, ← f1]
      refine ⟨_, rfl, hF7, fun _ => ⟨fun hle => by omega, fun _ => ⟨fun hgt => by omega, fun _ => tail hF7' hx7 (by rw [f4]) f5 ⟨ops.length - (k + 1), by omega, k + 1, x7, rfl, by rw [f4], f5, rfl, by omega, rfl, hx7, by rw [f2, eb], by rw [f3, ee]⟩⟩⟩, (fun t x h => by cases h), .inl rfl⟩
    · obtain ⟨t, v, rfl⟩ := hv
      have hF7 := hF6'.after g7
      have hF7' := hF7.sub (L' := []) (List.nil_sublist _)
      rw [wn]
      exact ⟨_, rfl, hF7, (fun h => by cases h), fun t x' he => tail hF7' hx7 rfl rfl ⟨ops.length - (k + 1), by omega, k + 1, x, rfl, rfl, rfl, rfl, by omega, rfl, hx7, eb, ee⟩, .inr ⟨_, _, rfl⟩⟩
  · have hF6' := (hF6.unM hl6).reset
    have g6 : Grow w5 w6 := (hF6.unM hl6).grow
    have hx6 := hx.grow g6
    have hd6 := hx6.jrn.dsk
    rw [eb] at hd6
    have s5 := hF6'.gr.size
    rw [wn]
    refine Open_spec (N := w.heap.size) (each := 8) hd6 hx6.rep hx6.room (by omega) s5 (by decide) (by decide) fun w7 x7 g7 hx7 f1 f2 f3 f4 f5 f6 fp => ?_
    have hF7 := hF6'.after g7
    exact ⟨_, _, rfl, hF7, fun _ => tail hF7 hx7 (by rw [f3]) (by rw [f4]) ⟨ops.length - (k + 1), by omega, k + 1, x7, rfl, by rw [f3], by rw [f4], rfl, by omega, rfl, hx7, f1, f2⟩, (fun t x h => by cases h), .inl rfl⟩
  · have hF6' := (hF6.unM hl6).reset
    have hx6 := hx.grow (hF6.unM hl6).grow
    rw [wn]
    exact tail hF6' hx6 rfl rfl ⟨ops.length - (k + 1), by omega, k + 1, x, rfl, rfl, rfl, rfl, by omega, rfl, hx6, eb, ee⟩
end Go.Vc

/-! A part of the proof that two events of one line are one event: the calculus that follows known memory by computing, and its soundness. By an AI agent. -/


namespace Go.Vc
open Go Go.ChangeShapes Go.WideShapes Go.ChangeAt Go.RowKit Go.Proofs Go.Proofs.YtjfpofjppjaofaaGreat
theorem rec22N : PR.readableRec 22 = true := by kernel_rfl
theorem params3 : Tryz.f3.params = #[22] := by kernel_rfl
theorem contractN (H : Type) (enc : TypeId × Value → H) (W : World) (base : Nat) (args : Array Value) (ds gs : List (DataW H)) (before : List MemPlace)
    (hval : ∀ (j : Nat) t v, Tryz.f3.params[j]? = some t → args[j]? = some v → Value.okWide Tryz.prog W .any base t v)
    (hW : DataW.Whole enc Tryz.prog Tryz.f3.params.toList Rows.pubNumbersSpec.vars false W args.toList ds gs before) :
    Calls Tryz.prog 3 args W fun e W' => ∃ v, e = .returned v ∧ Rows.pubNumbersSpec.post enc Tryz.prog Tryz.f3 false true false false W args v W' := by
  have hW' := hW
  obtain ⟨p, q, hA0, hV, rfl, hfz, hnd⟩ := hW
  have hA : DataW.TrodAll enc Tryz.prog W 0 (fun _ => true) true Tryz.f3.params.toList args.toList ds p := hA0
  rw [params3] at hA hval
  obtain ⟨v0, d0, rfl, rfl, h0⟩ := trodAll_one hA
  obtain ⟨rfl, rfl⟩ := trodVars_none hV
  have h0k := h0
  obtain ⟨q0, l0, c0, rfl⟩ := okWide_slice u22 (hval 0 _ _ rfl rfl)
  obtain ⟨fuel, hf⟩ := h0
  obtain ⟨y, ops, c, e, hops⟩ := ops_of (v := .slice q0 l0 c0) hf
  cases e
  have hl0 : ∀ x ∈ p, x.block < W.heap.size := fun x hx => hW'.lt x (by simp [hx])
  refine PubNumbers_spec hops rfl fun W' g => ?_
  have hb := below_of_grow g
  refine post_of_below (pa := p) (pv := []) hW' (fun _ _ _ => trodAll_cons_mk (shut_bool u4 _) trodAll_mk0)
    (fun sp hsp => ?_) (fun _ _ => rfl) (by simp) hb (ok_one (by kernel_rfl) rfl (okWide_bool_mk u4 _))
  rw [params3]
  exact trodAll_mk1 (WideElems.Trod_stays lay rec22N (of_decide_eq_true (by kernel_rfl)) h0k (fun x hx => hb.same (hl0 x hx)) (fun x hx => hsp x (by simp [hx])))

theorem readsN (os : Os) {H : Type} (enc : TypeId × Value → H) : ∃ places, DataW.whole enc Tryz.prog ((World.settled Tryz.prog os).forCall (fun _ _ => 0) ⟨#[], #[.slice none 0 0], []⟩).memory Tryz.f3.params.toList Rows.pubNumbersSpec.vars false #[Value.slice none 0 0].toList 8 =
    some ([.nil], [], places) := ⟨[], by kernel_rfl⟩
theorem liftedN (os : Os) (started : os.Started) (H : Type) (enc : TypeId × Value → H) (F : Stop.Interp) :
    ReturnsInHanded {} Tryz.checked os 3 .any ((OpenSpec.ofChange Rows.pubNumbersSpec).preRow enc Tryz.prog Tryz.f3 Rows.pubNumbersRow.domain false Rows.pubNumbersRow.laid) (((OpenSpec.ofChange Rows.pubNumbersSpec).at F).post enc Tryz.prog Tryz.f3 false true false false) := by
  obtain ⟨places, hx⟩ := readsN os enc
  refine returnsInHanded_of_row (C := Tryz.checked) (s := OpenSpec.ofChange Rows.pubNumbersSpec) own started (by kernel_rfl) Tryz.func3
    (witness_row_atRef (enc := enc) (C := Tryz.checked) false (World.settled Tryz.prog os) #[.slice none 0 0] rfl (by kernel_rfl) (by kernel_rfl) (by kernel_rfl)
      (OpenSpec.preRow_of_cond 8 hx (by kernel_rfl) (fun k hk => by cases hk) (by kernel_rfl) (show laidMetH _ [] _ from ⟨[], rfl, List.nodup_nil, fun b off h => by cases h⟩))) ?_
  intro W base args ds gs before hval hW _ _ _ hL hsh _
  exact contractN H enc W base args ds gs before hval hW
theorem saidN : Rows.PubNumbersSaid :=
  OpenClaim.holds_of_cond 3 Tryz.f3 rfl rfl rfl rfl rfl rfl rfl ⟨rfl, rfl, rfl, rfl, rfl⟩ rfl rfl rfl rfl rfl (by kernel_rfl) Tryz.func3 (by kernel_rfl)
    (of_decide_eq_true (by kernel_rfl)) (by unfold Func.isWrapper; first | (rw [if_pos (by decide +kernel)]; kernel_rfl) | (rw [if_neg (by decide +kernel)]; exact ⟨rfl, rfl⟩))
    (fun os started H enc _ F => by rw [OpenClaim.pre_eq_preRow]; exact liftedN os started H enc F)
end Go.Vc
