/-
  A part of the proof of the statement PubNumbersSaid, in Lean: MirP8, Cs1, Gp1, MirP5, Gp2, Bld, Sd1, Sd2. By an AI agent.
-/
import Derived.Test.YtjfpofjppjaofaaGreatP03
import Derived.Test.YtjfpofjppjaofaaGreatP05
import Derived.Test.YtjfpofjppjaofaaGreatP06
import Derived.Lib.UnsafeStr
set_option linter.unusedSimpArgs false
set_option linter.unusedVariables false
set_option maxRecDepth 100000
/-! A part of the proof that two events of one line are one event: the calculus that follows known memory by computing, and its soundness. By an AI agent. -/

namespace Go.Vc
open Go
/-! P8: conditions printed by a program of ours, checked by the kernel -/
/-- slices.Clone[[]int,int] -/
theorem slices_Clone_int_int (y0 : Option Addr) (ly0 : Nat) (cy0 : Nat) (S : Nat → Prop) (K : Value → World → Prop) (w : World) (h : (y0 = none → K (.slice none 0 0) w) ∧ ∀ a0 : Addr, y0 = some a0 → ∀ l0 : Nat, w.heap.size ≤ l0 → ∀ w0 : World, Fr S w w [] ([⟨l0, #[], 3, true⟩]) w0 → rn Proofs.Tryz.prog (Builtin.append_ (#[60, 60]) 60 (#[.slice (some (⟨l0, 0, none⟩)) 0 0, .slice y0 ly0 cy0])) (fun v0 w1 => ∃ q0 : Option Addr, ∃ l1 : Nat, ∃ l2 : Nat, v0 = .slice q0 l1 l2 ∧ Fs S w ([⟨l0, #[], 3, true⟩]) w1 ∧ K (.slice q0 l1 l2) w1) w0) : CallV Go.Proofs.Tryz.prog 161 ⟨[.slice y0 ly0 cy0]⟩ w K :=
  call_of_vc3 (okf := ⟨okL, []⟩) okL_ok (args := [.c (.v (.slice y0 ly0 cy0))]) (H := []) (.s .z (.s .z (.s (.r ⟨(some []), false, [], []⟩) .z))) Go.Proofs.Tryz.func161 rfl ⟨trivial, trivial⟩ trivial (Fr.init S w) trivial (cast_vc (by kernel_rfl) h)


/-- slices.Clone[[]string,string] -/
theorem slices_Clone_string_string (y0 : Option Addr) (ly0 : Nat) (cy0 : Nat) (S : Nat → Prop) (K : Value → World → Prop) (w : World) (h : (y0 = none → K (.slice none 0 0) w) ∧ ∀ a0 : Addr, y0 = some a0 → ∀ l0 : Nat, w.heap.size ≤ l0 → ∀ w0 : World, Fr S w w [] ([⟨l0, #[], 9, true⟩]) w0 → rn Proofs.Tryz.prog (Builtin.append_ (#[52, 52]) 52 (#[.slice (some (⟨l0, 0, none⟩)) 0 0, .slice y0 ly0 cy0])) (fun v0 w1 => ∃ q0 : Option Addr, ∃ l1 : Nat, ∃ l2 : Nat, v0 = .slice q0 l1 l2 ∧ Fs S w ([⟨l0, #[], 9, true⟩]) w1 ∧ K (.slice q0 l1 l2) w1) w0) : CallV Go.Proofs.Tryz.prog 50 ⟨[.slice y0 ly0 cy0]⟩ w K :=
  call_of_vc3 (okf := ⟨okL, []⟩) okL_ok (args := [.c (.v (.slice y0 ly0 cy0))]) (H := []) (.s .z (.s .z (.s (.r ⟨(some []), false, [], []⟩) .z))) Go.Proofs.Tryz.func50 rfl ⟨trivial, trivial⟩ trivial (Fr.init S w) trivial (cast_vc (by kernel_rfl) h)


/-- (*lading/csr.Csr).Nodes -/
theorem csr_Csr_Nodes (k0 : Nat) (y1 : Option Addr) (ly1 : Nat) (cy1 : Nat) (y2 : Option Addr) (ly2 : Nat) (cy2 : Nat) (S : Nat → Prop) (K : Value → World → Prop) (w : World) (hF : Fs S w [⟨k0, #[.slice y1 ly1 cy1, .slice y2 ly2 cy2], 171, true⟩] w) (hS : S k0 ∧ True) (h : K (.int .i64 (IntKind.wrap .i64 ((((ly1 : Nat) : Int) - 1)))) w) : CallV Go.Proofs.Tryz.prog 83 ⟨[.pointer (some ⟨k0, 0, none⟩)]⟩ w K :=
  call_of_vc3 (okf := ⟨okL, []⟩) okL_ok (args := [.c (.p 0 k0 true 0)]) (H := [⟨k0, .l [.v (.slice y1 ly1 cy1), .v (.slice y2 ly2 cy2)], 171, true⟩]) .z Go.Proofs.Tryz.func83 rfl ⟨rfl, trivial⟩ ⟨⟨trivial, ⟨trivial, trivial⟩⟩, trivial⟩ hF hS (cast_vc (by kernel_rfl) h)


/-- (*lading/csr.Csr).Edges -/
theorem csr_Csr_Edges (k0 : Nat) (y1 : Option Addr) (ly1 : Nat) (cy1 : Nat) (y2 : Option Addr) (ly2 : Nat) (cy2 : Nat) (S : Nat → Prop) (K : Value → World → Prop) (w : World) (hF : Fs S w [⟨k0, #[.slice y1 ly1 cy1, .slice y2 ly2 cy2], 171, true⟩] w) (hS : S k0 ∧ True) (h : K (.int .i64 (((ly2 : Nat) : Int))) w) : CallV Go.Proofs.Tryz.prog 58 ⟨[.pointer (some ⟨k0, 0, none⟩)]⟩ w K :=
  call_of_vc3 (okf := ⟨okL, []⟩) okL_ok (args := [.c (.p 0 k0 true 0)]) (H := [⟨k0, .l [.v (.slice y1 ly1 cy1), .v (.slice y2 ly2 cy2)], 171, true⟩]) .z Go.Proofs.Tryz.func58 rfl ⟨rfl, trivial⟩ ⟨⟨trivial, ⟨trivial, trivial⟩⟩, trivial⟩ hF hS (cast_vc (by kernel_rfl) h)


end Go.Vc

/-! A part of the proof that two events of one line are one event: the calculus that follows known memory by computing, and its soundness. By an AI agent. -/





namespace Go.Vc
open Go
/-! ## slices.Clone, and graphs as rows (csr): contracts -/
theorem tyI_edge : ∃ i, PR.info? T.api_Edge = some i ∧ i.size = 2 ∧ i.bytes = 16 ∧ i.zero = some (.agg #[.int .i64 0, .int .i64 0]) := by
  have h : (match PR.info? T.api_Edge with | some i => i.size == 2 && i.bytes == 16 && (match i.zero with | some (.agg ⟨[.int .i64 0, .int .i64 0]⟩) => true | _ => false) | none => false) = true := by kernel_rfl
  split at h
  · rename_i i hi
    simp only [Bool.and_eq_true, beq_iff_eq] at h
    refine ⟨i, hi, h.1.1, h.1.2, ?_⟩
    have h2 := h.2
    split at h2
    · assumption
    · cases h2
  · cases h
theorem u_edges : PR.underlying T.sl_api_Edge = some (.slice T.api_Edge) := by kernel_rfl
/-- an append to nothing that leaves all as it was -/
theorem app0 {ts e : TypeId} {k by_ : Nat} {z : Value} (hu : PR.underlying ts = some (.slice e)) (ht : ∃ i, PR.info? e = some i ∧ i.size = k ∧ i.bytes = by_ ∧ i.zero = some z) (hz : z.cells.size = k) (hk : 0 < k) (hby : by_ ≠ 0) {w : World} {q q2 : Option Addr} {l2 c2 : Nat} {ys : List Value} {K : Value → World → Prop}
    (ho : Own e k w q 0 []) (hs : Sl w q2 ys) (hl2 : ys.length = l2 * k) (hone : ∀ y, y ∈ ys → oneC y = true) (hroom : (2 * l2 + 1024) * by_ ≤ 281474976710656)
    (hK : ∀ q' c' w', Own e k w' q' c' ys → l2 ≤ c' → Grow w w' → (∀ a, q' = some a → q = some a ∨ w.heap.size ≤ a.block) → K (.slice q' l2 c') w') :
    rn PR (Builtin.append_ #[ts, ts] ts #[.slice q 0 0, .slice q2 l2 c2]) K w := by
  obtain ⟨i, hi, hk', hb, hz'⟩ := ht
  subst hk'; subst hb
  refine rn_sv <| sv_append_g (xs := []) (l := 0) hu hu hi hz' hz hby ho (by simp) (Nat.le_refl _) hs hl2 hone (by rw [Nat.zero_add]; exact hroom) fun q' c' w' h1 h2 h3 h4 h5 => ?_
  rw [Nat.zero_add] at *
  rw [List.nil_append] at h1
  refine hK q' c' w' h1 h2 (h5 ?_) fun a ha => ?_
  · by_cases h0 : l2 = 0
    · right; exact List.eq_nil_of_length_eq_zero (by rw [hl2, h0, Nat.zero_mul])
    · left; omega
  · rcases h4 a ha with h | h
    · exact .inl h
    · subst h; exact .inr (Nat.le_refl _)
theorem Own.empty {e : TypeId} {k : Nat} {w : World} {b : Nat} (h : w.heap[b]? = some (.cells #[] e (0, 0))) : Own e k w (some ⟨b, 0, none⟩) 0 [] :=
  .inr ⟨b, 0, #[], rfl, h, by simp, by omega, by simp, fun i hi => by simp at hi⟩
theorem cloneInt_spec {q : Option Addr} {n c : Nat} {l : List Int} {w : World} (hs : Sl w q (l.map iv)) (hl : n = l.length) (hn : n ≤ 1000000) {K : Value → World → Prop}
    (hK : ∀ w' q' c', Grow w w' → Own T.int 1 w' q' c' (l.map iv) → n ≤ c' → Off (fun k => k < w.heap.size) q' → K (.slice q' n c') w') : CallV PR F.slices_Clone_sl_int_int ⟨[.slice q n c]⟩ w K := by
  subst hl
  refine slices_Clone_int_int q l.length c S0 K w ⟨fun h => ?_, fun a ha b hb w0 h0 => ?_⟩
  · have : l = [] := by
      rcases hs with hs | ⟨b, o, h', _⟩
      · simpa using hs
      · rw [h] at h'; cases h'
    subst this
    exact hK w none 0 (.refl _ _) (.nil _ _ _) (Nat.le_refl _) (.none _)
  · have hb0 := h0.blk 0 rfl
    refine app0 u_ints t_int rfl (by decide) (by decide) (.empty hb0) (hs.grow h0.grow) (by simp) (fun y hy => by obtain ⟨b, _, rfl⟩ := List.mem_map.1 hy; rfl) (by omega) fun q' c' w' ho hc g hq => ?_
    refine ⟨_, _, _, rfl, h0.after g, hK w' q' c' (h0.grow.trans g) ho hc fun a ha hlt => ?_⟩
    rcases hq a ha with h | h
    · cases h; simp only [] at hlt; omega
    · have := h0.chg.size; omega
theorem cloneStr_spec {q : Option Addr} {n c : Nat} {l : List ByteArray} {w : World} (hs : Sl w q (l.map sv1)) (hl : n = l.length) (hn : n ≤ 1000000) {K : Value → World → Prop}
    (hK : ∀ w' q' c', Grow w w' → Own T.string 1 w' q' c' (l.map sv1) → n ≤ c' → Off (fun k => k < w.heap.size) q' → K (.slice q' n c') w') : CallV PR F.slices_Clone_sl_string_string ⟨[.slice q n c]⟩ w K := by
  subst hl
  refine slices_Clone_string_string q l.length c S0 K w ⟨fun h => ?_, fun a ha b hb w0 h0 => ?_⟩
  · have : l = [] := by
      rcases hs with hs | ⟨b, o, h', _⟩
      · simpa using hs
      · rw [h] at h'; cases h'
    subst this
    exact hK w none 0 (.refl _ _) (.nil _ _ _) (Nat.le_refl _) (.none _)
  · have hb0 := h0.blk 0 rfl
    refine app0 u_strs t_str rfl (by decide) (by decide) (.empty hb0) (hs.grow h0.grow) (by simp) (fun y hy => by obtain ⟨b, _, rfl⟩ := List.mem_map.1 hy; rfl) (by omega) fun q' c' w' ho hc g hq => ?_
    refine ⟨_, _, _, rfl, h0.after g, hK w' q' c' (h0.grow.trans g) ho hc fun a ha hlt => ?_⟩
    rcases hq a ha with h | h
    · cases h; simp only [] at hlt; omega
    · have := h0.chg.size; omega
def encE (l : List (Int × Int)) : List Value := l.flatMap fun e => [iv e.1, iv e.2]
theorem encE_len (l : List (Int × Int)) : (encE l).length = l.length * 2 := by
  induction l with
  | nil => rfl
  | cons x l ih => simp only [encE, List.flatMap_cons, List.length_append, List.length_cons, List.length_nil] at ih ⊢; rw [Nat.succ_mul]; omega
theorem encE_one {l : List (Int × Int)} {y : Value} (h : y ∈ encE l) : oneC y = true := by
  obtain ⟨e, _, he⟩ := List.mem_flatMap.1 h
  simp at he; rcases he with rfl | rfl <;> rfl
theorem cloneEdge_spec {q : Option Addr} {n c : Nat} {l : List (Int × Int)} {w : World} (hs : Sl w q (encE l)) (hl : n = l.length) (hn : n ≤ 1000000) {K : Value → World → Prop}
    (hK : ∀ w' q' c', Grow w w' → Own T.api_Edge 2 w' q' c' (encE l) → n ≤ c' → Off (fun k => k < w.heap.size) q' → K (.slice q' n c') w') : CallV PR F.slices_Clone_sl_api_Edge_api_Edge ⟨[.slice q n c]⟩ w K := by
  subst hl
  refine slices_Clone_api_Edge_api_Edge q l.length c S0 K w ⟨fun h => ?_, fun a ha b hb w0 h0 => ?_⟩
  · have : l = [] := by
      rcases hs with hs | ⟨b, o, h', _⟩
      · have := encE_len l; rw [hs] at this; exact List.eq_nil_of_length_eq_zero (by simp at this; omega)
      · rw [h] at h'; cases h'
    subst this
    exact hK w none 0 (.refl _ _) (.nil _ _ _) (Nat.le_refl _) (.none _)
  · have hb0 := h0.blk 0 rfl
    refine app0 u_edges tyI_edge rfl (by decide) (by decide) (.empty hb0) (hs.grow h0.grow) (encE_len l) (fun y hy => encE_one hy) (by omega) fun q' c' w' ho hc g hq => ?_
    refine ⟨_, _, _, rfl, h0.after g, hK w' q' c' (h0.grow.trans g) ho hc fun a ha hlt => ?_⟩
    rcases hq a ha with h | h
    · cases h; simp only [] at hlt; omega
    · have := h0.chg.size; omega
/-! ### graphs -/
theorem Sl.sub {w : World} {q : Option Addr} {xs : List Value} {c a b : Nat} (h : Sl w q xs) (hb : b ≤ xs.length) (hc : xs.length ≤ c) : Sl w (if c = a then q else Option.map (fun x => Addr.add x (a * 1)) q) ((xs.drop a).take (b - a)) := by
  by_cases e : c = a
  · left
    rw [List.take_eq_nil_iff]; left; omega
  · rw [if_neg e]
    rcases h with rfl | ⟨blk, o, rfl, cs, T, fz, h1, h2⟩
    · left; simp
    · right
      refine ⟨blk, o + a, by simp [add_mk], cs, T, fz, h1, fun i hi => ?_⟩
      simp only [List.length_take, List.length_drop] at hi
      rw [List.getElem?_take_of_lt (by omega), List.getElem?_drop, Nat.add_assoc]
      exact h2 _ (by omega)
/-- rows, as begins and targets tell them -/
def rowOf (B T : List Int) (v : Nat) : List Int := (T.drop (B.getD v 0).toNat).take ((B.getD (v + 1) 0).toNat - (B.getD v 0).toNat)
structure CsrL (nodes : Nat) (B T : List Int) : Prop where
  len : B.length = nodes + 1
  nn : ∀ v, v ≤ nodes → 0 ≤ B.getD v 0 ∧ B.getD v 0 ≤ T.length
  mono : ∀ v, v < nodes → B.getD v 0 ≤ B.getD (v + 1) 0
  row : ∀ v, v < nodes → okRow nodes (rowOf B T v)
  small : T.length ≤ 100000
def CsrAt (w : World) (b nodes : Nat) (B Tg : List Int) : Prop :=
  ∃ qb cb qt ct, w.heap[b]? = some (.cells #[.slice qb (nodes + 1) cb, .slice qt Tg.length ct] T.csr_Csr (0, 0)) ∧ Tg.length ≤ ct ∧ Sl w qb (B.map iv) ∧ Sl w qt (Tg.map iv)
theorem CsrAt.grow {w w' : World} {b nodes : Nat} {B Tg : List Int} (h : CsrAt w b nodes B Tg) (g : Grow w w') : CsrAt w' b nodes B Tg := by
  obtain ⟨qb, cb, qt, ct, h1, h2, h3, h4⟩ := h
  exact ⟨qb, cb, qt, ct, Grow.get g h1, h2, h3.grow g, h4.grow g⟩
theorem Nodes_spec {w : World} {b nodes : Nat} {B Tg : List Int} (h : CsrAt w b nodes B Tg) (hn : nodes ≤ 4096) {K : Value → World → Prop} (hK : K (.int .i64 nodes) w) : CallV PR F.p_csr_Csr_Nodes ⟨[.pointer (some ⟨b, 0, none⟩)]⟩ w K := by
  obtain ⟨qb, cb, qt, ct, h1, h2, h3, h4⟩ := h
  refine csr_Csr_Nodes b qb (nodes + 1) cb qt Tg.length ct (· = b) K w ((Fr.init _ w).entry h1 (fun x h => by cases h) fun _ => rfl) ⟨rfl, trivial⟩ ?_
  rw [w64 (by omega) (by omega), show ((nodes + 1 : Nat) : Int) - 1 = nodes by omega]; exact hK
theorem Edges_spec {w : World} {b nodes : Nat} {B Tg : List Int} (h : CsrAt w b nodes B Tg) {K : Value → World → Prop} (hK : K (.int .i64 Tg.length) w) : CallV PR F.p_csr_Csr_Edges ⟨[.pointer (some ⟨b, 0, none⟩)]⟩ w K := by
  obtain ⟨qb, cb, qt, ct, h1, h2, h3, h4⟩ := h
  exact csr_Csr_Edges b qb (nodes + 1) cb qt Tg.length ct (· = b) K w ((Fr.init _ w).entry h1 (fun x h => by cases h) fun _ => rfl) ⟨rfl, trivial⟩ hK
theorem row_spec {w : World} {b nodes : Nat} {B Tg : List Int} (h : CsrAt w b nodes B Tg) (hL : CsrL nodes B Tg) (hn : nodes ≤ 4096) {v : Nat} (hv : v < nodes) {K : Value → World → Prop}
    (hK : ∀ w' q c, Grow w w' → Sl w' q ((rowOf B Tg v).map iv) → (rowOf B Tg v).length ≤ c → K (.tuple #[.slice q (rowOf B Tg v).length c, .nilIface]) w') : CallV PR F.p_csr_Csr_row ⟨[.pointer (some ⟨b, 0, none⟩), .int .i64 v]⟩ w K := by
  have hc := h
  obtain ⟨qb, cb, qt, ct, h1, h2, h3, h4⟩ := h
  have n1 := hL.nn v (by omega)
  have n2 := hL.nn (v + 1) (by omega)
  have n3 := hL.mono v hv
  have hl := hL.len
  refine csr_Csr_row b qb (nodes + 1) cb qt Tg.length ct v (· = b) K w ((Fr.init _ w).entry h1 (fun x h => by cases h) fun _ => rfl) ⟨rfl, trivial⟩ ⟨fun h => by omega, fun _ => ?_⟩
  refine Nodes_spec hc hn ⟨_, rfl, (Fr.init _ w).entry h1 (fun x h => by cases h) fun _ => rfl, fun h => by omega, fun _ w1 hF1 => ?_⟩
  have g1 : Grow w w1 := hF1.grow
  refine ⟨(· = w1), rfl, ?_⟩
  refine (h3.grow g1).rd (v := iv (B.getD v 0)) (by simp [hl]) (by omega) (iv_at (by omega)) fun a ha => ⟨B.getD v 0, fun w2 h2 => by subst h2; exact ha, ?_⟩
  have ev1 : IntKind.wrap .i64 ((v : Int) + 1) = ((v + 1 : Nat) : Int) := wr1 (by omega)
  rw [ev1]
  refine (h3.grow g1).rd (v := iv (B.getD (v + 1) 0)) (by simp [hl]) (by omega) (iv_at (by omega)) fun a ha => ⟨B.getD (v + 1) 0, fun w2 h2 => by subst h2; exact ha, by omega, by omega, by omega, by omega, ?_⟩
  have hlen : (rowOf B Tg v).length = (B.getD (v + 1) 0).toNat - (B.getD v 0).toNat := by
    unfold rowOf; rw [List.length_take, List.length_drop]; omega
  have hsub := (h4.grow g1).sub (a := (B.getD v 0).toNat) (b := (B.getD (v + 1) 0).toNat) (c := ct) (by rw [List.length_map]; omega) (by rw [List.length_map]; exact h2)
  rw [← List.map_drop, ← List.map_take] at hsub
  rw [← hlen]
  exact hK w1 _ _ g1 hsub (by rw [hlen]; omega)
theorem Targets_spec {w : World} {b nodes : Nat} {B Tg : List Int} (h : CsrAt w b nodes B Tg) (hL : CsrL nodes B Tg) (hn : nodes ≤ 4096) {v : Nat} (hv : v < nodes) {K : Value → World → Prop}
    (hK : ∀ w' q c, Grow w w' → Sl w' q ((rowOf B Tg v).map iv) → K (.tuple #[.slice q (rowOf B Tg v).length c, .nilIface]) w') : CallV PR F.p_csr_Csr_Targets ⟨[.pointer (some ⟨b, 0, none⟩), .int .i64 v]⟩ w K := by
  have hc := h
  obtain ⟨qb, cb, qt, ct, h1, h2, h3, h4⟩ := h
  have hsm := hL.small
  have hlen : (rowOf B Tg v).length ≤ Tg.length := by unfold rowOf; rw [List.length_take, List.length_drop]; omega
  refine csr_Csr_Targets b qb (nodes + 1) cb qt Tg.length ct v (· = b) K w ((Fr.init _ w).entry h1 (fun x h => by cases h) fun _ => rfl) ⟨rfl, trivial⟩ ?_
  refine row_spec hc hL hn hv fun w1 q c g1 hs1 hcap => ⟨_, _, _, _, rfl, ((Fr.init (fun x => x = b) w).entry h1 (fun x h => by cases h) fun _ => rfl).after g1, ?_⟩
  refine cloneInt_spec hs1 rfl (by omega) fun w2 q' c' g2 ho hc' hq => ⟨_, _, _, rfl, (((Fr.init (fun x => x = b) w).entry h1 (fun x h => by cases h) fun _ => rfl).after g1).after g2, ?_⟩
  exact hK w2 q' c' (g1.trans g2) ho.sl
end Go.Vc

/-! A part of the proof that two events of one line are one event: the calculus that follows known memory by computing, and its soundness. By an AI agent. -/

namespace Go.Vc
open Go
/-! ## rows of targets as bytes (gap): contracts -/
theorem may_spec {nodes v : Int} (hn : 0 ≤ nodes ∧ nodes ≤ 4096) (hv : 0 ≤ v ∧ v < nodes) {w : World} {K : Value → World → Prop} (hK : K .nilIface w) : CallV PR F.gap_may ⟨[.int .i64 nodes, .int .i64 v]⟩ w K :=
  gap_may nodes v S0 K w ⟨fun h => by omega, fun _ => ⟨fun h => by omega, fun _ => ⟨fun h => by omega, fun _ => ⟨fun h => by omega, fun _ => hK⟩⟩⟩⟩
theorem gapPut_spec {nodes v : Int} {l : List Int} {q : Option Addr} {ly c : Nat} (hn : 0 ≤ nodes ∧ nodes ≤ 4096) (hv : 0 ≤ v ∧ v < nodes) (hr : okRow nodes l) {w : World} (hs : Sl w q (l.map iv)) (hl : ly = l.length) {K : Value → World → Prop}
    (hK : ∀ w', Grow w w' → K (.tuple #[.string (str (gapL v l)), .nilIface]) w') : CallV PR F.gap_Put ⟨[.int .i64 nodes, .int .i64 v, .slice q ly c]⟩ w K := by
  subst hl
  have hlen := okRow_len hr
  have hlen' : l.length ≤ 4096 := by omega
  refine gap_Put nodes v q l.length c S0 K w ?_
  refine may_spec hn hv ?_
  refine ⟨_, rfl, .init _ w, fun _ => ?_, (fun t x h => by cases h), .inl rfl⟩
  refine ⟨fun x i m w' => ∃ k : Nat, i = k ∧ k ≤ l.length ∧ m = l.length - k ∧ x = (if k = 0 then -1 else l.getD (k - 1) 0), ⟨_, 0, rfl, by omega, rfl, rfl⟩, ?_⟩
  rintro x i D m w1 ⟨k, rfl, hk, rfl, rfl⟩ hF
  refine ⟨fun hlt => ?_, fun hge => ?_⟩
  · have hk' : k < l.length := by omega
    refine (hs.grow hF.gr).rd (v := iv (l.getD k 0)) (by simp) (by omega) (iv_at hk') fun a ha => ⟨l.getD k 0, ha, fun h => ?_, fun h => ⟨fun h => ?_, fun h => ⟨_, ?_, k + 1, wr1 (by omega), by omega, rfl, by simp⟩⟩⟩
    · exfalso
      have h1 := hr.1 k hk'
      split at h
      · omega
      · have := hr.2 (k - 1) (by omega)
        rw [show k - 1 + 1 = k by omega] at this
        omega
    · have h1 := hr.1 k hk'
      omega
    · omega
  · have e : k = l.length := by omega
    subst e
    refine PutShort_spec (by omega) fun w2 g2 => ⟨_, _, rfl, hF.after g2, ?_⟩
    refine ⟨fun s i m w' => ∃ k : Nat, i = k ∧ k ≤ l.length ∧ m = l.length - k ∧ s = str (putShort l.length ++ cat (gapP v l) k), ⟨_, 0, rfl, by omega, rfl, by simp [cat]⟩, ?_⟩
    rintro s i D m w3 ⟨k, rfl, hk, rfl, rfl⟩ hF3
    refine ⟨fun hlt => ?_, fun hge => ?_⟩
    · have hk' : k < l.length := by omega
      have h1 := hr.1 k hk'
      have hp := gapP_len (i := k) hn.2 hv.1 hv.2 hr hk'
      have hc := cat_len (gapP v l) 8 k fun i hi => gapP_len hn.2 hv.1 hv.2 hr (by omega)
      have h8 := putShort_le8 (n := l.length) (by omega)
      refine (hs.grow hF3.gr).rd (v := iv (l.getD k 0)) (by simp) (by omega) (iv_at hk') fun a ha => ⟨l.getD k 0, ha, fun h => ?_, fun h => ?_⟩
      · have h0 : k = 0 := by omega
        subst h0
        rw [w64 (by omega) (by omega)]
        refine PutTurned_spec ⟨by omega, by omega⟩ fun w4 g4 => ⟨_, _, rfl, hF3.after g4, ?_, _, ?_, 1, wr1 (by omega), by omega, rfl, ?_⟩
        · rw [str_size, str_size]; simp only [List.length_append, cat, List.length_nil]; simp only [gapP, if_true] at hp; omega
        · omega
        · rw [str_append]; congr 1; simp [cat, gapP]
      · have h0 : 0 < k := by omega
        have h2 := hr.1 (k - 1) (by omega)
        have h3 := hr.2 (k - 1) (by omega)
        rw [show k - 1 + 1 = k by omega] at h3
        rw [wrP h0 (by omega)]
        refine (hs.grow hF3.gr).rd (v := iv (l.getD (k - 1) 0)) (by simp) (by omega) (iv_at (by omega)) fun a ha => ⟨l.getD (k - 1) 0, ha, ?_⟩
        rw [w64 (n := l.getD k 0 - l.getD (k - 1) 0) (by omega) (by omega), w64 (by omega) (by omega)]
        refine PutShort_spec (by omega) fun w4 g4 => ⟨_, _, rfl, hF3.after g4, ?_, _, ?_, k + 1, wr1 (by omega), by omega, rfl, ?_⟩
        · rw [str_size, str_size]; simp only [List.length_append]; simp only [gapP, if_neg (show ¬ k = 0 by omega)] at hp; omega
        · omega
        · rw [str_append]; congr 1
          show _ ++ _ = _ ++ (cat (gapP v l) k ++ gapP v l k)
          have : gapP v l k = putShort (l.getD k 0 - l.getD (k - 1) 0 - 1).toNat := by unfold gapP; rw [if_neg (by omega)]
          rw [this]; simp
    · have e : k = l.length := by omega
      subst e
      exact hK _ hF3.gr
end Go.Vc

/-! A part of the proof that two events of one line are one event: the calculus that follows known memory by computing, and its soundness. By an AI agent. -/

namespace Go.Vc
open Go
/-! P5: conditions printed by a program of ours, checked by the kernel -/
/-- lading/octet.PutText -/
theorem octet_PutText' (y0 : Option Addr) (ly0 : Nat) (cy0 : Nat) (S : Nat → Prop) (K : Value → World → Prop) (w : World) (h : ∀ l0 : Nat, w.heap.size ≤ l0 → ∀ w0 : World, Fr S w w [] ([⟨l0, #[.pointer none, .slice none 0 0], 142, true⟩]) w0 → ∃ I0 : Int → (Option Addr) → (Option Addr) → Nat → Nat → Nat → World → Prop, (∃ l1 : Nat, I0 0 none none 0 0 l1 w0) ∧ ∀ n0 : Int, ∀ q0 : Option Addr, ∀ q1 : Option Addr, ∀ l2 : Nat, ∀ l3 : Nat, ∀ D0 : Nat → Value, ∀ l4 : Nat, ∀ w1 : World, I0 n0 q0 q1 l2 l3 l4 w1 → Fs S w ([⟨l0, #[.pointer q0, .slice q1 l2 l3], 142, true⟩]) w1 → (n0 < ((ly0 : Nat) : Int) → Dr y0 (fun a0 => (0 : Int) ≤ n0 ∧ n0 < ((ly0 : Nat) : Int) ∧ Dr (some (Addr.add a0 ((Int.toNat n0 * 1)))) (fun a1 => ∃ s0 : ByteArray, (World.cell? w1 a1 : Option Value) = some (.string s0) ∧ CallV Proofs.Tryz.prog 63 (#[.int .i64 (((ByteArray.size s0 : Nat) : Int))]) w1 (fun v0 w2 => ∃ s1 : ByteArray, v0 = .string s1 ∧ Fs S w ([⟨l0, #[.pointer q0, .slice q1 l2 l3], 142, true⟩]) w2 ∧ ((ByteArray.size s1 + (ByteArray.size s0)) : Nat) ≤ 9223372036854775807 ∧ CallV Proofs.Tryz.prog 62 (#[.pointer (some (⟨l0, 0, none⟩)), .string ((s1 ++ s0))]) w2 (fun v1 w3 => ∃ n1 : Int, ∃ v2 : Value, v1 = .tuple (#[.int .i64 n1, v2]) ∧ ∃ q2 : Option Addr, ∃ q3 : Option Addr, ∃ l5 : Nat, ∃ l6 : Nat, Fs S w ([⟨l0, #[.pointer q2, .slice q3 l5 l6], 142, true⟩]) w3 ∧ ∃ l7 : Nat, l7 < l4 ∧ I0 (IntKind.wrap .i64 ((n0 + 1))) q2 q3 l5 l6 l7 w3))))) ∧ (¬ (n0 < ((ly0 : Nat) : Int)) → CallV Proofs.Tryz.prog 64 (#[.pointer (some (⟨l0, 0, none⟩))]) w1 (fun v3 w4 => ∃ s2 : ByteArray, v3 = .string s2 ∧ Fs S w ([⟨l0, #[.pointer q0, .slice q1 l2 l3], 142, true⟩]) w4 ∧ K (.string s2) w4))) : CallV Go.Proofs.Tryz.prog 33 ⟨[.slice y0 ly0 cy0]⟩ w K :=
  call_of_vc3 (okf := ⟨okL, []⟩) okL_ok (args := [.c (.v (.slice y0 ly0 cy0))]) (H := []) (.s .z (.s (.r ⟨(some []), false, [], []⟩) (.s (.s .z (.b (.l (some [3]) (some [3]) [(8, .c (.int .i64))] [3] (.s .z (.s .z (.s (.b (.s .z (.r ⟨(some [3]), false, [], [(5, [999])]⟩))) .z)))))) (.s (.r ⟨(some [3]), false, [], []⟩) .z)))) Go.Proofs.Tryz.func33 rfl ⟨trivial, trivial⟩ trivial (Fr.init S w) trivial (cast_vc (by kernel_rfl) h)


/-- lading/shard.laid -/
theorem shard_laid' (p0 : Option Addr) (m1 : Int) (m2 : Int) (S : Nat → Prop) (K : Value → World → Prop) (w : World) (h : ∀ l0 : Nat, w.heap.size ≤ l0 → ∀ l1 : Nat, w.heap.size ≤ l1 → ∀ w0 : World, Fr S w w [] ([⟨l0, #[.pointer none, .slice none 0 0], 142, true⟩, ⟨l1, #[.pointer none, .slice none 0 0], 142, true⟩]) w0 → ∃ I0 : Int → (Option Addr) → (Option Addr) → Nat → Nat → (Option Addr) → (Option Addr) → Nat → Nat → Nat → World → Prop, (∃ l2 : Nat, I0 m1 none none 0 0 none none 0 0 l2 w0) ∧ ∀ n0 : Int, ∀ q0 : Option Addr, ∀ q1 : Option Addr, ∀ l3 : Nat, ∀ l4 : Nat, ∀ q2 : Option Addr, ∀ q3 : Option Addr, ∀ l5 : Nat, ∀ l6 : Nat, ∀ D0 : Nat → Value, ∀ l7 : Nat, ∀ w1 : World, I0 n0 q0 q1 l3 l4 q2 q3 l5 l6 l7 w1 → Fs S w ([⟨l0, #[.pointer q0, .slice q1 l3 l4], 142, true⟩, ⟨l1, #[.pointer q2, .slice q3 l5 l6], 142, true⟩]) w1 → (n0 < IntKind.wrap .i64 ((m1 + m2)) → (Int.tmod (IntKind.wrap .i64 ((n0 - m1))) 8 = 0 → CallV Proofs.Tryz.prog 135 (#[.pointer (some (⟨l1, 0, none⟩))]) w1 (fun v0 w2 => ∃ n1 : Int, v0 = .int .i64 n1 ∧ Fs S w ([⟨l0, #[.pointer q0, .slice q1 l3 l4], 142, true⟩, ⟨l1, #[.pointer q2, .slice q3 l5 l6], 142, true⟩]) w2 ∧ CallV Proofs.Tryz.prog 113 (#[.int .i64 n1]) w2 (fun v1 w3 => ∃ s0 : ByteArray, v1 = .string s0 ∧ Fs S w ([⟨l0, #[.pointer q0, .slice q1 l3 l4], 142, true⟩, ⟨l1, #[.pointer q2, .slice q3 l5 l6], 142, true⟩]) w3 ∧ CallV Proofs.Tryz.prog 62 (#[.pointer (some (⟨l0, 0, none⟩)), .string s0]) w3 (fun v2 w4 => ∃ n2 : Int, ∃ v3 : Value, v2 = .tuple (#[.int .i64 n2, v3]) ∧ ∃ q4 : Option Addr, ∃ q5 : Option Addr, ∃ l8 : Nat, ∃ l9 : Nat, Fs S w ([⟨l0, #[.pointer q4, .slice q5 l8 l9], 142, true⟩, ⟨l1, #[.pointer q2, .slice q3 l5 l6], 142, true⟩]) w4 ∧ CallV Proofs.Tryz.prog 136 (#[.pointer p0, .int .i64 n0]) w4 (fun v4 w5 => ∃ q6 : Option Addr, ∃ l10 : Nat, ∃ l11 : Nat, ∃ v5 : Value, v4 = .tuple (#[.slice q6 l10 l11, v5]) ∧ Fs S w ([⟨l0, #[.pointer q4, .slice q5 l8 l9], 142, true⟩, ⟨l1, #[.pointer q2, .slice q3 l5 l6], 142, true⟩]) w5 ∧ CallV Proofs.Tryz.prog 83 (#[.pointer p0]) w5 (fun v6 w6 => ∃ n3 : Int, v6 = .int .i64 n3 ∧ Fs S w ([⟨l0, #[.pointer q4, .slice q5 l8 l9], 142, true⟩, ⟨l1, #[.pointer q2, .slice q3 l5 l6], 142, true⟩]) w6 ∧ CallV Proofs.Tryz.prog 137 (#[.int .i64 n3, .int .i64 n0, .slice q6 l10 l11]) w6 (fun v7 w7 => ∃ s1 : ByteArray, ∃ v8 : Value, v7 = .tuple (#[.string s1, v8]) ∧ Fs S w ([⟨l0, #[.pointer q4, .slice q5 l8 l9], 142, true⟩, ⟨l1, #[.pointer q2, .slice q3 l5 l6], 142, true⟩]) w7 ∧ CallV Proofs.Tryz.prog 62 (#[.pointer (some (⟨l1, 0, none⟩)), .string s1]) w7 (fun v9 w8 => ∃ n4 : Int, ∃ v10 : Value, v9 = .tuple (#[.int .i64 n4, v10]) ∧ ∃ q7 : Option Addr, ∃ q8 : Option Addr, ∃ l12 : Nat, ∃ l13 : Nat, Fs S w ([⟨l0, #[.pointer q4, .slice q5 l8 l9], 142, true⟩, ⟨l1, #[.pointer q7, .slice q8 l12 l13], 142, true⟩]) w8 ∧ ∃ l14 : Nat, l14 < l7 ∧ I0 (IntKind.wrap .i64 ((n0 + 1))) q4 q5 l8 l9 q7 q8 l12 l13 l14 w8)))))))) ∧ (¬ (Int.tmod (IntKind.wrap .i64 ((n0 - m1))) 8 = 0) → CallV Proofs.Tryz.prog 136 (#[.pointer p0, .int .i64 n0]) w1 (fun v11 w9 => ∃ q9 : Option Addr, ∃ l15 : Nat, ∃ l16 : Nat, ∃ v12 : Value, v11 = .tuple (#[.slice q9 l15 l16, v12]) ∧ Fs S w ([⟨l0, #[.pointer q0, .slice q1 l3 l4], 142, true⟩, ⟨l1, #[.pointer q2, .slice q3 l5 l6], 142, true⟩]) w9 ∧ CallV Proofs.Tryz.prog 83 (#[.pointer p0]) w9 (fun v13 w10 => ∃ n5 : Int, v13 = .int .i64 n5 ∧ Fs S w ([⟨l0, #[.pointer q0, .slice q1 l3 l4], 142, true⟩, ⟨l1, #[.pointer q2, .slice q3 l5 l6], 142, true⟩]) w10 ∧ CallV Proofs.Tryz.prog 137 (#[.int .i64 n5, .int .i64 n0, .slice q9 l15 l16]) w10 (fun v14 w11 => ∃ s2 : ByteArray, ∃ v15 : Value, v14 = .tuple (#[.string s2, v15]) ∧ Fs S w ([⟨l0, #[.pointer q0, .slice q1 l3 l4], 142, true⟩, ⟨l1, #[.pointer q2, .slice q3 l5 l6], 142, true⟩]) w11 ∧ CallV Proofs.Tryz.prog 62 (#[.pointer (some (⟨l1, 0, none⟩)), .string s2]) w11 (fun v16 w12 => ∃ n6 : Int, ∃ v17 : Value, v16 = .tuple (#[.int .i64 n6, v17]) ∧ ∃ q10 : Option Addr, ∃ q11 : Option Addr, ∃ l17 : Nat, ∃ l18 : Nat, Fs S w ([⟨l0, #[.pointer q0, .slice q1 l3 l4], 142, true⟩, ⟨l1, #[.pointer q10, .slice q11 l17 l18], 142, true⟩]) w12 ∧ ∃ l19 : Nat, l19 < l7 ∧ I0 (IntKind.wrap .i64 ((n0 + 1))) q0 q1 l3 l4 q10 q11 l17 l18 l19 w12)))))) ∧ (¬ (n0 < IntKind.wrap .i64 ((m1 + m2))) → CallV Proofs.Tryz.prog 64 (#[.pointer (some (⟨l0, 0, none⟩))]) w1 (fun v18 w13 => ∃ s3 : ByteArray, v18 = .string s3 ∧ Fs S w ([⟨l0, #[.pointer q0, .slice q1 l3 l4], 142, true⟩, ⟨l1, #[.pointer q2, .slice q3 l5 l6], 142, true⟩]) w13 ∧ CallV Proofs.Tryz.prog 64 (#[.pointer (some (⟨l1, 0, none⟩))]) w13 (fun v19 w14 => ∃ s4 : ByteArray, v19 = .string s4 ∧ Fs S w ([⟨l0, #[.pointer q0, .slice q1 l3 l4], 142, true⟩, ⟨l1, #[.pointer q2, .slice q3 l5 l6], 142, true⟩]) w14 ∧ K (.tuple (#[.string s3, .string s4])) w14)))) : CallV Go.Proofs.Tryz.prog 112 ⟨[.pointer p0, .int .i64 m1, .int .i64 m2]⟩ w K :=
  call_of_vc3 (okf := ⟨okL, []⟩) okL_ok (args := [.c (.v (.pointer p0)), .c (.v (.int .i64 m1)), .c (.v (.int .i64 m2))]) (H := []) (.s .z (.s (.r ⟨(some []), false, [], []⟩) (.s (.s .z (.b (.l (some [8, 9]) (some [8, 9]) [(10, .c (.int .i64))] [8, 9] (.s .z (.s (.b (.s (.s .z (.c (.r ⟨(some [8, 9]), false, [], [(2, [999])]⟩) .z)) (.s (.r ⟨(some [8, 9]), false, [], []⟩) (.s (.r ⟨(some [8, 9]), false, [], []⟩) (.r ⟨(some [8, 9]), false, [], [(1, [999])]⟩))))) .z))))) (.s (.r ⟨(some [8, 9]), false, [], []⟩) .z)))) Go.Proofs.Tryz.func112 rfl ⟨trivial, trivial, trivial, trivial⟩ trivial (Fr.init S w) trivial (cast_vc (by kernel_rfl) h)


/-- lading/gap.Get -/
theorem gap_Get' (z0 : ByteArray) (m1 : Int) (m2 : Int) (m3 : Int) (S : Nat → Prop) (K : Value → World → Prop) (w : World) (h : CallV Proofs.Tryz.prog 138 (#[.int .i64 m2, .int .i64 m3]) w (fun v0 w0 => ∃ v1 : Value, v0 = v1 ∧ Fs S w [] w0 ∧ ((v1 : Value) = .nilIface → CallV Proofs.Tryz.prog 140 (#[.string z0, .int .i64 m1, .int .i64 m2]) w0 (fun v2 w1 => ∃ n0 : Int, ∃ n1 : Int, ∃ v3 : Value, v2 = .tuple (#[.int .i64 n0, .int .i64 n1, v3]) ∧ Fs S w [] w1 ∧ ((v3 : Value) = .nilIface → ∀ l0 : Nat, w1.heap.size ≤ l0 → ∀ w2 : World, Fr S w w1 [] ([⟨l0, #[.string z0, .int .i64 n1, .int .i64 m2, .int .i64 m3], 229, true⟩]) w2 → ∃ I0 : (Option Addr) → Nat → Nat → Int → ByteArray → Int → Int → Int → Nat → World → Prop, (∃ l1 : Nat, I0 none 0 0 0 z0 n1 m2 m3 l1 w2) ∧ ∀ q0 : Option Addr, ∀ l2 : Nat, ∀ l3 : Nat, ∀ n2 : Int, ∀ s0 : ByteArray, ∀ n3 : Int, ∀ n4 : Int, ∀ n5 : Int, ∀ D0 : Nat → Value, ∀ l4 : Nat, ∀ w3 : World, I0 q0 l2 l3 n2 s0 n3 n4 n5 l4 w3 → Fs S w ([⟨l0, #[.string s0, .int .i64 n3, .int .i64 n4, .int .i64 n5], 229, true⟩]) w3 → (n2 < n0 → (n2 = 0 → CallV Proofs.Tryz.prog 141 (#[.pointer (some (⟨l0, 0, none⟩)), .bool true]) w3 (fun v4 w4 => ∃ v5 : Value, v4 = v5 ∧ ∃ s1 : ByteArray, ∃ n6 : Int, ∃ n7 : Int, ∃ n8 : Int, Fs S w ([⟨l0, #[.string s1, .int .i64 n6, .int .i64 n7, .int .i64 n8], 229, true⟩]) w4 ∧ ((v5 : Value) = .nilIface → ∀ l5 : Nat, w4.heap.size ≤ l5 → ∀ w5 : World, Fr S w w4 [] ([⟨l0, #[.string s1, .int .i64 n6, .int .i64 n7, .int .i64 n8], 229, true⟩, ⟨l5, #[.int .i64 n8], 3, true⟩]) w5 → rn Proofs.Tryz.prog (Builtin.append_ (#[60, 60]) 60 (#[.slice q0 l2 l3, .slice (some (⟨l5, 0, none⟩)) 1 1])) (fun v6 w6 => ∃ q1 : Option Addr, ∃ l6 : Nat, ∃ l7 : Nat, v6 = .slice q1 l6 l7 ∧ Fs S w ([⟨l0, #[.string s1, .int .i64 n6, .int .i64 n7, .int .i64 n8], 229, true⟩, ⟨l5, #[.int .i64 n8], 3, true⟩]) w6 ∧ ∃ l8 : Nat, l8 < l4 ∧ I0 q1 l6 l7 (IntKind.wrap .i64 ((n2 + 1))) s1 n6 n7 n8 l8 w6) w5) ∧ (∀ x0 : Nat, ∀ v7 : Value, (v5 : Value) = .iface x0 v7 → K (.tuple (#[.slice none 0 0, .int .i64 m1, v5])) w4) ∧ ((v5 : Value) = .nilIface ∨ ∃ l9 : Nat, ∃ v8 : Value, (v5 : Value) = .iface l9 v8))) ∧ (¬ (n2 = 0) → CallV Proofs.Tryz.prog 141 (#[.pointer (some (⟨l0, 0, none⟩)), .bool false]) w3 (fun v9 w7 => ∃ v10 : Value, v9 = v10 ∧ ∃ s2 : ByteArray, ∃ n9 : Int, ∃ n10 : Int, ∃ n11 : Int, Fs S w ([⟨l0, #[.string s2, .int .i64 n9, .int .i64 n10, .int .i64 n11], 229, true⟩]) w7 ∧ ((v10 : Value) = .nilIface → ∀ l10 : Nat, w7.heap.size ≤ l10 → ∀ w8 : World, Fr S w w7 [] ([⟨l0, #[.string s2, .int .i64 n9, .int .i64 n10, .int .i64 n11], 229, true⟩, ⟨l10, #[.int .i64 n11], 3, true⟩]) w8 → rn Proofs.Tryz.prog (Builtin.append_ (#[60, 60]) 60 (#[.slice q0 l2 l3, .slice (some (⟨l10, 0, none⟩)) 1 1])) (fun v11 w9 => ∃ q2 : Option Addr, ∃ l11 : Nat, ∃ l12 : Nat, v11 = .slice q2 l11 l12 ∧ Fs S w ([⟨l0, #[.string s2, .int .i64 n9, .int .i64 n10, .int .i64 n11], 229, true⟩, ⟨l10, #[.int .i64 n11], 3, true⟩]) w9 ∧ ∃ l13 : Nat, l13 < l4 ∧ I0 q2 l11 l12 (IntKind.wrap .i64 ((n2 + 1))) s2 n9 n10 n11 l13 w9) w8) ∧ (∀ x1 : Nat, ∀ v12 : Value, (v10 : Value) = .iface x1 v12 → K (.tuple (#[.slice none 0 0, .int .i64 m1, v10])) w7) ∧ ((v10 : Value) = .nilIface ∨ ∃ l14 : Nat, ∃ v13 : Value, (v10 : Value) = .iface l14 v13)))) ∧ (¬ (n2 < n0) → ∀ w10 : World, Fr S w w3 [] [] w10 → K (.tuple (#[.slice q0 l2 l3, .int .i64 n3, .nilIface])) w10)) ∧ (∀ x2 : Nat, ∀ v14 : Value, (v3 : Value) = .iface x2 v14 → K (.tuple (#[.slice none 0 0, .int .i64 m1, v3])) w1) ∧ ((v3 : Value) = .nilIface ∨ ∃ l15 : Nat, ∃ v15 : Value, (v3 : Value) = .iface l15 v15))) ∧ (∀ x3 : Nat, ∀ v16 : Value, (v1 : Value) = .iface x3 v16 → CallV Proofs.Tryz.prog 139 (#[.int .i64 m1, v1]) w0 (fun v17 w11 => ∃ v18 : Value, v17 = v18 ∧ Fs S w [] w11 ∧ K (.tuple (#[.slice none 0 0, .int .i64 m1, v18])) w11)) ∧ ((v1 : Value) = .nilIface ∨ ∃ l16 : Nat, ∃ v19 : Value, (v1 : Value) = .iface l16 v19))) : CallV Go.Proofs.Tryz.prog 117 ⟨[.string z0, .int .i64 m1, .int .i64 m2, .int .i64 m3]⟩ w K :=
  call_of_vc3 (okf := ⟨okL, []⟩) okL_ok (args := [.c (.v (.string z0)), .c (.v (.int .i64 m1)), .c (.v (.int .i64 m2)), .c (.v (.int .i64 m3))]) (H := []) (.s .z (.s (.s (.r ⟨(some []), false, [], []⟩) (.s .z (.c (.s (.r ⟨(some []), false, [], []⟩) .z) .z))) (.s (.r ⟨(some []), false, [], []⟩) (.s .z (.s (.r ⟨(some []), false, [], []⟩) (.s .z (.s (.s .z (.b (.l (some [15]) (some [15]) [(16, .c (.sl)), (47, .c (.int .i64))] [15] (.s .z (.s .z (.s (.b (.s .z (.s (.s (.r ⟨(some [15]), false, [], [(3, [999])]⟩) .z) (.r ⟨(some [15]), false, [], []⟩)))) .z)))))) (.s (.r ⟨(some [15]), false, [], []⟩) .z)))))))) Go.Proofs.Tryz.func117 rfl ⟨trivial, trivial, trivial, trivial, trivial⟩ trivial (Fr.init S w) trivial (cast_vc (by kernel_rfl) h)


/-- lading/manifest.Get -/
theorem manifest_Get' (z0 : ByteArray) (S : Nat → Prop) (K : Value → World → Prop) (w : World) (h : ∀ l0 : Nat, w.heap.size ≤ l0 → ∀ l1 : Nat, w.heap.size ≤ l1 → ∀ w0 : World, Fr S w w [] ([⟨l0, #[.int .i64 0, .int .i64 0, .int .i64 0, .slice none 0 0, .int .i64 0, .string ⟨#[]⟩], 92, true⟩, ⟨l1, #[.string z0, .int .i64 0, .nilIface], 191, true⟩]) w0 → CallV Proofs.Tryz.prog 105 (#[.pointer (some (⟨l1, 0, none⟩))]) w0 (fun v0 w1 => ∃ n0 : Int, v0 = .int .i64 n0 ∧ ∃ s0 : ByteArray, ∃ n1 : Int, ∃ v1 : Value, Fs S w ([⟨l0, #[.int .i64 0, .int .i64 0, .int .i64 0, .slice none 0 0, .int .i64 0, .string ⟨#[]⟩], 92, true⟩, ⟨l1, #[.string s0, .int .i64 n1, v1], 191, true⟩]) w1 ∧ CallV Proofs.Tryz.prog 105 (#[.pointer (some (⟨l1, 0, none⟩))]) w1 (fun v2 w2 => ∃ n2 : Int, v2 = .int .i64 n2 ∧ ∃ s1 : ByteArray, ∃ n3 : Int, ∃ v3 : Value, Fs S w ([⟨l0, #[.int .i64 0, .int .i64 0, .int .i64 0, .slice none 0 0, .int .i64 0, .string ⟨#[]⟩], 92, true⟩, ⟨l1, #[.string s1, .int .i64 n3, v3], 191, true⟩]) w2 ∧ CallV Proofs.Tryz.prog 105 (#[.pointer (some (⟨l1, 0, none⟩))]) w2 (fun v4 w3 => ∃ n4 : Int, v4 = .int .i64 n4 ∧ ∃ s2 : ByteArray, ∃ n5 : Int, ∃ v5 : Value, Fs S w ([⟨l0, #[.int .i64 0, .int .i64 0, .int .i64 0, .slice none 0 0, .int .i64 0, .string ⟨#[]⟩], 92, true⟩, ⟨l1, #[.string s2, .int .i64 n5, v5], 191, true⟩]) w3 ∧ ∀ l2 : Nat, w3.heap.size ≤ l2 → ∀ w4 : World, Fr S w w3 [l2] ([⟨l0, #[.int .i64 0, .int .i64 0, .int .i64 0, .slice none 0 0, .int .i64 0, .string ⟨#[]⟩], 92, true⟩, ⟨l1, #[.string s2, .int .i64 n5, v5], 191, true⟩, ⟨l2, #[.int .i64 n0, .int .i64 n2, .int .i64 n4, .slice none 0 0, .int .i64 0, .string ⟨#[]⟩], 92, true⟩]) w4 → CallV Proofs.Tryz.prog 105 (#[.pointer (some (⟨l1, 0, none⟩))]) w4 (fun v6 w5 => ∃ n6 : Int, v6 = .int .i64 n6 ∧ ∃ s3 : ByteArray, ∃ n7 : Int, ∃ v7 : Value, Fs S w ([⟨l0, #[.int .i64 0, .int .i64 0, .int .i64 0, .slice none 0 0, .int .i64 0, .string ⟨#[]⟩], 92, true⟩, ⟨l1, #[.string s3, .int .i64 n7, v7], 191, true⟩, ⟨l2, #[.int .i64 n0, .int .i64 n2, .int .i64 n4, .slice none 0 0, .int .i64 0, .string ⟨#[]⟩], 92, true⟩]) w5 ∧ ((v7 : Value) = .nilIface → (n6 > 64 → rn Proofs.Tryz.prog (Instr.makeSlice 90 (.int .i64 65) (.int .i64 65)) (fun v8 w6 => ∃ q0 : Option Addr, ∃ l3 : Nat, ∃ l4 : Nat, v8 = .slice q0 l3 l4 ∧ Fs S w ([⟨l0, #[.int .i64 0, .int .i64 0, .int .i64 0, .slice none 0 0, .int .i64 0, .string ⟨#[]⟩], 92, true⟩, ⟨l2, #[.int .i64 n0, .int .i64 n2, .int .i64 n4, .slice none 0 0, .int .i64 0, .string ⟨#[]⟩], 92, true⟩]) w6 ∧ ∀ w7 : World, Fr S w w6 [l2] ([⟨l0, #[.int .i64 0, .int .i64 0, .int .i64 0, .slice none 0 0, .int .i64 0, .string ⟨#[]⟩], 92, true⟩, ⟨l2, #[.int .i64 n0, .int .i64 n2, .int .i64 n4, .slice q0 l3 l4, .int .i64 0, .string ⟨#[]⟩], 92, true⟩]) w7 → CallV Proofs.Tryz.prog 60 (#[.agg (#[.int .i64 n0, .int .i64 n2, .int .i64 n4, .slice q0 l3 l4, .int .i64 0, .string ⟨#[]⟩])]) w7 (fun v9 w8 => ∃ v10 : Value, v9 = v10 ∧ Fs S w ([⟨l0, #[.int .i64 0, .int .i64 0, .int .i64 0, .slice none 0 0, .int .i64 0, .string ⟨#[]⟩], 92, true⟩, ⟨l2, #[.int .i64 n0, .int .i64 n2, .int .i64 n4, .slice q0 l3 l4, .int .i64 0, .string ⟨#[]⟩], 92, true⟩]) w8 ∧ ∀ w9 : World, Fr S w w8 [l0] [] w9 → K (.tuple (#[.agg (#[.int .i64 0, .int .i64 0, .int .i64 0, .slice none 0 0, .int .i64 0, .string ⟨#[]⟩]), v10])) w9)) w5) ∧ (¬ (n6 > 64) → ∃ I0 : Int → ByteArray → Int → Value → Int → Int → Int → (Option Addr) → Nat → Nat → Int → ByteArray → Nat → World → Prop, (∃ l5 : Nat, I0 0 s3 n7 v7 n0 n2 n4 none 0 0 0 ⟨#[]⟩ l5 w5) ∧ ∀ n8 : Int, ∀ s4 : ByteArray, ∀ n9 : Int, ∀ v11 : Value, ∀ n10 : Int, ∀ n11 : Int, ∀ n12 : Int, ∀ q1 : Option Addr, ∀ l6 : Nat, ∀ l7 : Nat, ∀ n13 : Int, ∀ s5 : ByteArray, ∀ D0 : Nat → Value, ∀ l8 : Nat, ∀ w10 : World, I0 n8 s4 n9 v11 n10 n11 n12 q1 l6 l7 n13 s5 l8 w10 → Fs S w ([⟨l0, #[.int .i64 0, .int .i64 0, .int .i64 0, .slice none 0 0, .int .i64 0, .string ⟨#[]⟩], 92, true⟩, ⟨l1, #[.string s4, .int .i64 n9, v11], 191, true⟩, ⟨l2, #[.int .i64 n10, .int .i64 n11, .int .i64 n12, .slice q1 l6 l7, .int .i64 n13, .string s5], 92, true⟩]) w10 → (n8 < n6 → ∀ w11 : World, Fr S w w10 [] ([⟨l0, #[.int .i64 0, .int .i64 0, .int .i64 0, .slice none 0 0, .int .i64 0, .string ⟨#[]⟩], 92, true⟩, ⟨l1, #[.string s4, .int .i64 n9, v11], 191, true⟩, ⟨l2, #[.int .i64 n10, .int .i64 n11, .int .i64 n12, .slice q1 l6 l7, .int .i64 n13, .string s5], 92, true⟩]) w11 → ∃ I1 : World → Prop, I1 w11 ∧ Dr (some (⟨l2, 3, none⟩)) (fun a0 => ∃ q2 : Option Addr, ∃ l9 : Nat, ∃ l10 : Nat, (∀ w12 : World, I1 w12 → (World.cell? w12 a0 : Option Value) = some (.slice q2 l9 l10)) ∧ CallV Proofs.Tryz.prog 105 (#[.pointer (some (⟨l1, 0, none⟩))]) w11 (fun v12 w13 => ∃ n14 : Int, v12 = .int .i64 n14 ∧ ∃ s6 : ByteArray, ∃ n15 : Int, ∃ v13 : Value, Fs S w ([⟨l0, #[.int .i64 0, .int .i64 0, .int .i64 0, .slice none 0 0, .int .i64 0, .string ⟨#[]⟩], 92, true⟩, ⟨l1, #[.string s6, .int .i64 n15, v13], 191, true⟩, ⟨l2, #[.int .i64 n10, .int .i64 n11, .int .i64 n12, .slice q1 l6 l7, .int .i64 n13, .string s5], 92, true⟩]) w13 ∧ I1 w13 ∧ CallV Proofs.Tryz.prog 105 (#[.pointer (some (⟨l1, 0, none⟩))]) w13 (fun v14 w14 => ∃ n16 : Int, v14 = .int .i64 n16 ∧ ∃ s7 : ByteArray, ∃ n17 : Int, ∃ v15 : Value, Fs S w ([⟨l0, #[.int .i64 0, .int .i64 0, .int .i64 0, .slice none 0 0, .int .i64 0, .string ⟨#[]⟩], 92, true⟩, ⟨l1, #[.string s7, .int .i64 n17, v15], 191, true⟩, ⟨l2, #[.int .i64 n10, .int .i64 n11, .int .i64 n12, .slice q1 l6 l7, .int .i64 n13, .string s5], 92, true⟩]) w14 ∧ I1 w14 ∧ ∀ l11 : Nat, w14.heap.size ≤ l11 → ∀ w15 : World, Fr S w w14 [] ([⟨l0, #[.int .i64 0, .int .i64 0, .int .i64 0, .slice none 0 0, .int .i64 0, .string ⟨#[]⟩], 92, true⟩, ⟨l1, #[.string s7, .int .i64 n17, v15], 191, true⟩, ⟨l2, #[.int .i64 n10, .int .i64 n11, .int .i64 n12, .slice q1 l6 l7, .int .i64 n13, .string s5], 92, true⟩, ⟨l11, #[.int .i64 n14, .int .i64 n16], 138, true⟩]) w15 → I1 w15 ∧ rn Proofs.Tryz.prog (Builtin.append_ (#[90, 90]) 90 (#[.slice q2 l9 l10, .slice (some (⟨l11, 0, none⟩)) 1 1])) (fun v16 w16 => ∃ q3 : Option Addr, ∃ l12 : Nat, ∃ l13 : Nat, v16 = .slice q3 l12 l13 ∧ Fs S w ([⟨l0, #[.int .i64 0, .int .i64 0, .int .i64 0, .slice none 0 0, .int .i64 0, .string ⟨#[]⟩], 92, true⟩, ⟨l1, #[.string s7, .int .i64 n17, v15], 191, true⟩, ⟨l2, #[.int .i64 n10, .int .i64 n11, .int .i64 n12, .slice q1 l6 l7, .int .i64 n13, .string s5], 92, true⟩, ⟨l11, #[.int .i64 n14, .int .i64 n16], 138, true⟩]) w16 ∧ I1 w16 ∧ ∀ w17 : World, Fr S w w16 [l2] ([⟨l0, #[.int .i64 0, .int .i64 0, .int .i64 0, .slice none 0 0, .int .i64 0, .string ⟨#[]⟩], 92, true⟩, ⟨l1, #[.string s7, .int .i64 n17, v15], 191, true⟩, ⟨l2, #[.int .i64 n10, .int .i64 n11, .int .i64 n12, .slice q3 l12 l13, .int .i64 n13, .string s5], 92, true⟩, ⟨l11, #[.int .i64 n14, .int .i64 n16], 138, true⟩]) w17 → ∃ l14 : Nat, l14 < l8 ∧ I0 (IntKind.wrap .i64 ((n8 + 1))) s7 n17 v15 n10 n11 n12 q3 l12 l13 n13 s5 l14 w17) w15)))) ∧ (¬ (n8 < n6) → CallV Proofs.Tryz.prog 105 (#[.pointer (some (⟨l1, 0, none⟩))]) w10 (fun v17 w18 => ∃ n18 : Int, v17 = .int .i64 n18 ∧ ∃ s8 : ByteArray, ∃ n19 : Int, ∃ v18 : Value, Fs S w ([⟨l0, #[.int .i64 0, .int .i64 0, .int .i64 0, .slice none 0 0, .int .i64 0, .string ⟨#[]⟩], 92, true⟩, ⟨l1, #[.string s8, .int .i64 n19, v18], 191, true⟩, ⟨l2, #[.int .i64 n10, .int .i64 n11, .int .i64 n12, .slice q1 l6 l7, .int .i64 n13, .string s5], 92, true⟩]) w18 ∧ ((v18 : Value) = .nilIface → ∀ w19 : World, Fr S w w18 [l2] ([⟨l0, #[.int .i64 0, .int .i64 0, .int .i64 0, .slice none 0 0, .int .i64 0, .string ⟨#[]⟩], 92, true⟩, ⟨l1, #[.string s8, .int .i64 n19, v18], 191, true⟩, ⟨l2, #[.int .i64 n10, .int .i64 n11, .int .i64 n12, .slice q1 l6 l7, .int .i64 n18, .string s5], 92, true⟩]) w19 → CallV Proofs.Tryz.prog 106 (#[.string z0, .int .i64 n19, .int .i64 72057594037927935]) w19 (fun v19 w20 => ∃ s9 : ByteArray, ∃ n20 : Int, ∃ v20 : Value, v19 = .tuple (#[.string s9, .int .i64 n20, v20]) ∧ Fs S w ([⟨l0, #[.int .i64 0, .int .i64 0, .int .i64 0, .slice none 0 0, .int .i64 0, .string ⟨#[]⟩], 92, true⟩, ⟨l1, #[.string s8, .int .i64 n19, v18], 191, true⟩, ⟨l2, #[.int .i64 n10, .int .i64 n11, .int .i64 n12, .slice q1 l6 l7, .int .i64 n18, .string s5], 92, true⟩]) w20 ∧ (oneC v20 : Bool) = true ∧ ((v20 : Value) = .nilIface → (n20 < ((ByteArray.size z0 : Nat) : Int) → ∀ w21 : World, Fr S w w20 [l1, l1, l2] ([⟨l0, #[.int .i64 0, .int .i64 0, .int .i64 0, .slice none 0 0, .int .i64 0, .string ⟨#[]⟩], 92, true⟩, ⟨l1, #[.string s8, .int .i64 n20, v20], 191, true⟩]) w21 → ∃ I2 : World → Prop, I2 w21 ∧ (true : Bool) = true ∧ ∀ w22 : World, Fr S w w21 [l0] ([⟨l0, #[.int .i64 0, .int .i64 0, .int .i64 0, .slice none 0 0, .int .i64 0, .string ⟨#[]⟩], 92, true⟩, ⟨l1, #[.string s8, .int .i64 n20, v20], 191, true⟩]) w22 → I2 w22 ∧ K (.tuple (#[.agg (#[.int .i64 0, .int .i64 0, .int .i64 0, .slice none 0 0, .int .i64 0, .string ⟨#[]⟩]), .iface 175 (.agg (#[.int .i64 n20, .iface 77 (.int .i64 4)]))])) w22) ∧ (¬ (n20 < ((ByteArray.size z0 : Nat) : Int)) → ∀ w23 : World, Fr S w w20 [l1, l1, l2] ([⟨l0, #[.int .i64 0, .int .i64 0, .int .i64 0, .slice none 0 0, .int .i64 0, .string ⟨#[]⟩], 92, true⟩, ⟨l2, #[.int .i64 n10, .int .i64 n11, .int .i64 n12, .slice q1 l6 l7, .int .i64 n18, .string s9], 92, true⟩]) w23 → CallV Proofs.Tryz.prog 60 (#[.agg (#[.int .i64 n10, .int .i64 n11, .int .i64 n12, .slice q1 l6 l7, .int .i64 n18, .string s9])]) w23 (fun v21 w24 => ∃ v22 : Value, v21 = v22 ∧ Fs S w ([⟨l0, #[.int .i64 0, .int .i64 0, .int .i64 0, .slice none 0 0, .int .i64 0, .string ⟨#[]⟩], 92, true⟩, ⟨l2, #[.int .i64 n10, .int .i64 n11, .int .i64 n12, .slice q1 l6 l7, .int .i64 n18, .string s9], 92, true⟩]) w24 ∧ ((v22 : Value) = .nilIface → ∀ w25 : World, Fr S w w24 [l0] [] w25 → K (.tuple (#[.agg (#[.int .i64 n10, .int .i64 n11, .int .i64 n12, .slice q1 l6 l7, .int .i64 n18, .string s9]), .nilIface])) w25) ∧ (∀ x0 : Nat, ∀ v23 : Value, (v22 : Value) = .iface x0 v23 → ∀ w26 : World, Fr S w w24 [l0] [] w26 → K (.tuple (#[.agg (#[.int .i64 0, .int .i64 0, .int .i64 0, .slice none 0 0, .int .i64 0, .string ⟨#[]⟩]), v22])) w26) ∧ ((v22 : Value) = .nilIface ∨ ∃ l15 : Nat, ∃ v24 : Value, (v22 : Value) = .iface l15 v24)))) ∧ (∀ x1 : Nat, ∀ v25 : Value, (v20 : Value) = .iface x1 v25 → ∀ w27 : World, Fr S w w20 [l1, l1, l2] ([⟨l0, #[.int .i64 0, .int .i64 0, .int .i64 0, .slice none 0 0, .int .i64 0, .string ⟨#[]⟩], 92, true⟩, ⟨l1, #[.string s8, .int .i64 n20, v20], 191, true⟩]) w27 → ∃ I3 : World → Prop, I3 w27 ∧ ∀ w28 : World, Fr S w w27 [l0] ([⟨l0, #[.int .i64 0, .int .i64 0, .int .i64 0, .slice none 0 0, .int .i64 0, .string ⟨#[]⟩], 92, true⟩, ⟨l1, #[.string s8, .int .i64 n20, v20], 191, true⟩]) w28 → I3 w28 ∧ K (.tuple (#[.agg (#[.int .i64 0, .int .i64 0, .int .i64 0, .slice none 0 0, .int .i64 0, .string ⟨#[]⟩]), v20])) w28) ∧ ((v20 : Value) = .nilIface ∨ ∃ l16 : Nat, ∃ v26 : Value, (v20 : Value) = .iface l16 v26))) ∧ (∀ x2 : Nat, ∀ v27 : Value, (v18 : Value) = .iface x2 v27 → ((v18 : Value) = .nilIface → (n19 < ((ByteArray.size z0 : Nat) : Int) → ∀ w29 : World, Fr S w w18 [l2] ([⟨l0, #[.int .i64 0, .int .i64 0, .int .i64 0, .slice none 0 0, .int .i64 0, .string ⟨#[]⟩], 92, true⟩, ⟨l1, #[.string s8, .int .i64 n19, v18], 191, true⟩]) w29 → ∃ I4 : World → Prop, I4 w29 ∧ (true : Bool) = true ∧ ∀ w30 : World, Fr S w w29 [l0] ([⟨l0, #[.int .i64 0, .int .i64 0, .int .i64 0, .slice none 0 0, .int .i64 0, .string ⟨#[]⟩], 92, true⟩, ⟨l1, #[.string s8, .int .i64 n19, v18], 191, true⟩]) w30 → I4 w30 ∧ K (.tuple (#[.agg (#[.int .i64 0, .int .i64 0, .int .i64 0, .slice none 0 0, .int .i64 0, .string ⟨#[]⟩]), .iface 175 (.agg (#[.int .i64 n19, .iface 77 (.int .i64 4)]))])) w30) ∧ (¬ (n19 < ((ByteArray.size z0 : Nat) : Int)) → ∀ w31 : World, Fr S w w18 [l2] ([⟨l0, #[.int .i64 0, .int .i64 0, .int .i64 0, .slice none 0 0, .int .i64 0, .string ⟨#[]⟩], 92, true⟩, ⟨l2, #[.int .i64 n10, .int .i64 n11, .int .i64 n12, .slice q1 l6 l7, .int .i64 n18, .string s5], 92, true⟩]) w31 → CallV Proofs.Tryz.prog 60 (#[.agg (#[.int .i64 n10, .int .i64 n11, .int .i64 n12, .slice q1 l6 l7, .int .i64 n18, .string s5])]) w31 (fun v28 w32 => ∃ v29 : Value, v28 = v29 ∧ Fs S w ([⟨l0, #[.int .i64 0, .int .i64 0, .int .i64 0, .slice none 0 0, .int .i64 0, .string ⟨#[]⟩], 92, true⟩, ⟨l2, #[.int .i64 n10, .int .i64 n11, .int .i64 n12, .slice q1 l6 l7, .int .i64 n18, .string s5], 92, true⟩]) w32 ∧ ((v29 : Value) = .nilIface → ∀ w33 : World, Fr S w w32 [l0] [] w33 → K (.tuple (#[.agg (#[.int .i64 n10, .int .i64 n11, .int .i64 n12, .slice q1 l6 l7, .int .i64 n18, .string s5]), .nilIface])) w33) ∧ (∀ x3 : Nat, ∀ v30 : Value, (v29 : Value) = .iface x3 v30 → ∀ w34 : World, Fr S w w32 [l0] [] w34 → K (.tuple (#[.agg (#[.int .i64 0, .int .i64 0, .int .i64 0, .slice none 0 0, .int .i64 0, .string ⟨#[]⟩]), v29])) w34) ∧ ((v29 : Value) = .nilIface ∨ ∃ l17 : Nat, ∃ v31 : Value, (v29 : Value) = .iface l17 v31)))) ∧ (∀ x4 : Nat, ∀ v32 : Value, (v18 : Value) = .iface x4 v32 → ∀ w35 : World, Fr S w w18 [l2] ([⟨l0, #[.int .i64 0, .int .i64 0, .int .i64 0, .slice none 0 0, .int .i64 0, .string ⟨#[]⟩], 92, true⟩, ⟨l1, #[.string s8, .int .i64 n19, v18], 191, true⟩]) w35 → ∃ I5 : World → Prop, I5 w35 ∧ ∀ w36 : World, Fr S w w35 [l0] ([⟨l0, #[.int .i64 0, .int .i64 0, .int .i64 0, .slice none 0 0, .int .i64 0, .string ⟨#[]⟩], 92, true⟩, ⟨l1, #[.string s8, .int .i64 n19, v18], 191, true⟩]) w36 → I5 w36 ∧ K (.tuple (#[.agg (#[.int .i64 0, .int .i64 0, .int .i64 0, .slice none 0 0, .int .i64 0, .string ⟨#[]⟩]), v18])) w36) ∧ ((v18 : Value) = .nilIface ∨ ∃ l18 : Nat, ∃ v33 : Value, (v18 : Value) = .iface l18 v33)) ∧ ((v18 : Value) = .nilIface ∨ ∃ l19 : Nat, ∃ v34 : Value, (v18 : Value) = .iface l19 v34))))) ∧ (∀ x5 : Nat, ∀ v35 : Value, (v7 : Value) = .iface x5 v35 → ∃ I6 : Int → ByteArray → Int → Value → Int → Int → Int → (Option Addr) → Nat → Nat → Int → ByteArray → Nat → World → Prop, (∃ l20 : Nat, I6 0 s3 n7 v7 n0 n2 n4 none 0 0 0 ⟨#[]⟩ l20 w5) ∧ ∀ n21 : Int, ∀ s10 : ByteArray, ∀ n22 : Int, ∀ v36 : Value, ∀ n23 : Int, ∀ n24 : Int, ∀ n25 : Int, ∀ q4 : Option Addr, ∀ l21 : Nat, ∀ l22 : Nat, ∀ n26 : Int, ∀ s11 : ByteArray, ∀ D1 : Nat → Value, ∀ l23 : Nat, ∀ w37 : World, I6 n21 s10 n22 v36 n23 n24 n25 q4 l21 l22 n26 s11 l23 w37 → Fs S w ([⟨l0, #[.int .i64 0, .int .i64 0, .int .i64 0, .slice none 0 0, .int .i64 0, .string ⟨#[]⟩], 92, true⟩, ⟨l1, #[.string s10, .int .i64 n22, v36], 191, true⟩, ⟨l2, #[.int .i64 n23, .int .i64 n24, .int .i64 n25, .slice q4 l21 l22, .int .i64 n26, .string s11], 92, true⟩]) w37 → (n21 < n6 → ∀ w38 : World, Fr S w w37 [] ([⟨l0, #[.int .i64 0, .int .i64 0, .int .i64 0, .slice none 0 0, .int .i64 0, .string ⟨#[]⟩], 92, true⟩, ⟨l1, #[.string s10, .int .i64 n22, v36], 191, true⟩, ⟨l2, #[.int .i64 n23, .int .i64 n24, .int .i64 n25, .slice q4 l21 l22, .int .i64 n26, .string s11], 92, true⟩]) w38 → ∃ I7 : World → Prop, I7 w38 ∧ Dr (some (⟨l2, 3, none⟩)) (fun a1 => ∃ q5 : Option Addr, ∃ l24 : Nat, ∃ l25 : Nat, (∀ w39 : World, I7 w39 → (World.cell? w39 a1 : Option Value) = some (.slice q5 l24 l25)) ∧ CallV Proofs.Tryz.prog 105 (#[.pointer (some (⟨l1, 0, none⟩))]) w38 (fun v37 w40 => ∃ n27 : Int, v37 = .int .i64 n27 ∧ ∃ s12 : ByteArray, ∃ n28 : Int, ∃ v38 : Value, Fs S w ([⟨l0, #[.int .i64 0, .int .i64 0, .int .i64 0, .slice none 0 0, .int .i64 0, .string ⟨#[]⟩], 92, true⟩, ⟨l1, #[.string s12, .int .i64 n28, v38], 191, true⟩, ⟨l2, #[.int .i64 n23, .int .i64 n24, .int .i64 n25, .slice q4 l21 l22, .int .i64 n26, .string s11], 92, true⟩]) w40 ∧ I7 w40 ∧ CallV Proofs.Tryz.prog 105 (#[.pointer (some (⟨l1, 0, none⟩))]) w40 (fun v39 w41 => ∃ n29 : Int, v39 = .int .i64 n29 ∧ ∃ s13 : ByteArray, ∃ n30 : Int, ∃ v40 : Value, Fs S w ([⟨l0, #[.int .i64 0, .int .i64 0, .int .i64 0, .slice none 0 0, .int .i64 0, .string ⟨#[]⟩], 92, true⟩, ⟨l1, #[.string s13, .int .i64 n30, v40], 191, true⟩, ⟨l2, #[.int .i64 n23, .int .i64 n24, .int .i64 n25, .slice q4 l21 l22, .int .i64 n26, .string s11], 92, true⟩]) w41 ∧ I7 w41 ∧ ∀ l26 : Nat, w41.heap.size ≤ l26 → ∀ w42 : World, Fr S w w41 [] ([⟨l0, #[.int .i64 0, .int .i64 0, .int .i64 0, .slice none 0 0, .int .i64 0, .string ⟨#[]⟩], 92, true⟩, ⟨l1, #[.string s13, .int .i64 n30, v40], 191, true⟩, ⟨l2, #[.int .i64 n23, .int .i64 n24, .int .i64 n25, .slice q4 l21 l22, .int .i64 n26, .string s11], 92, true⟩, ⟨l26, #[.int .i64 n27, .int .i64 n29], 138, true⟩]) w42 → I7 w42 ∧ rn Proofs.Tryz.prog (Builtin.append_ (#[90, 90]) 90 (#[.slice q5 l24 l25, .slice (some (⟨l26, 0, none⟩)) 1 1])) (fun v41 w43 => ∃ q6 : Option Addr, ∃ l27 : Nat, ∃ l28 : Nat, v41 = .slice q6 l27 l28 ∧ Fs S w ([⟨l0, #[.int .i64 0, .int .i64 0, .int .i64 0, .slice none 0 0, .int .i64 0, .string ⟨#[]⟩], 92, true⟩, ⟨l1, #[.string s13, .int .i64 n30, v40], 191, true⟩, ⟨l2, #[.int .i64 n23, .int .i64 n24, .int .i64 n25, .slice q4 l21 l22, .int .i64 n26, .string s11], 92, true⟩, ⟨l26, #[.int .i64 n27, .int .i64 n29], 138, true⟩]) w43 ∧ I7 w43 ∧ ∀ w44 : World, Fr S w w43 [l2] ([⟨l0, #[.int .i64 0, .int .i64 0, .int .i64 0, .slice none 0 0, .int .i64 0, .string ⟨#[]⟩], 92, true⟩, ⟨l1, #[.string s13, .int .i64 n30, v40], 191, true⟩, ⟨l2, #[.int .i64 n23, .int .i64 n24, .int .i64 n25, .slice q6 l27 l28, .int .i64 n26, .string s11], 92, true⟩, ⟨l26, #[.int .i64 n27, .int .i64 n29], 138, true⟩]) w44 → ∃ l29 : Nat, l29 < l23 ∧ I6 (IntKind.wrap .i64 ((n21 + 1))) s13 n30 v40 n23 n24 n25 q6 l27 l28 n26 s11 l29 w44) w42)))) ∧ (¬ (n21 < n6) → CallV Proofs.Tryz.prog 105 (#[.pointer (some (⟨l1, 0, none⟩))]) w37 (fun v42 w45 => ∃ n31 : Int, v42 = .int .i64 n31 ∧ ∃ s14 : ByteArray, ∃ n32 : Int, ∃ v43 : Value, Fs S w ([⟨l0, #[.int .i64 0, .int .i64 0, .int .i64 0, .slice none 0 0, .int .i64 0, .string ⟨#[]⟩], 92, true⟩, ⟨l1, #[.string s14, .int .i64 n32, v43], 191, true⟩, ⟨l2, #[.int .i64 n23, .int .i64 n24, .int .i64 n25, .slice q4 l21 l22, .int .i64 n26, .string s11], 92, true⟩]) w45 ∧ ((v43 : Value) = .nilIface → ∀ w46 : World, Fr S w w45 [l2] ([⟨l0, #[.int .i64 0, .int .i64 0, .int .i64 0, .slice none 0 0, .int .i64 0, .string ⟨#[]⟩], 92, true⟩, ⟨l1, #[.string s14, .int .i64 n32, v43], 191, true⟩, ⟨l2, #[.int .i64 n23, .int .i64 n24, .int .i64 n25, .slice q4 l21 l22, .int .i64 n31, .string s11], 92, true⟩]) w46 → CallV Proofs.Tryz.prog 106 (#[.string z0, .int .i64 n32, .int .i64 72057594037927935]) w46 (fun v44 w47 => ∃ s15 : ByteArray, ∃ n33 : Int, ∃ v45 : Value, v44 = .tuple (#[.string s15, .int .i64 n33, v45]) ∧ Fs S w ([⟨l0, #[.int .i64 0, .int .i64 0, .int .i64 0, .slice none 0 0, .int .i64 0, .string ⟨#[]⟩], 92, true⟩, ⟨l1, #[.string s14, .int .i64 n32, v43], 191, true⟩, ⟨l2, #[.int .i64 n23, .int .i64 n24, .int .i64 n25, .slice q4 l21 l22, .int .i64 n31, .string s11], 92, true⟩]) w47 ∧ (oneC v45 : Bool) = true ∧ ((v45 : Value) = .nilIface → (n33 < ((ByteArray.size z0 : Nat) : Int) → ∀ w48 : World, Fr S w w47 [l1, l1, l2] ([⟨l0, #[.int .i64 0, .int .i64 0, .int .i64 0, .slice none 0 0, .int .i64 0, .string ⟨#[]⟩], 92, true⟩, ⟨l1, #[.string s14, .int .i64 n33, v45], 191, true⟩]) w48 → ∃ I8 : World → Prop, I8 w48 ∧ (true : Bool) = true ∧ ∀ w49 : World, Fr S w w48 [l0] ([⟨l0, #[.int .i64 0, .int .i64 0, .int .i64 0, .slice none 0 0, .int .i64 0, .string ⟨#[]⟩], 92, true⟩, ⟨l1, #[.string s14, .int .i64 n33, v45], 191, true⟩]) w49 → I8 w49 ∧ K (.tuple (#[.agg (#[.int .i64 0, .int .i64 0, .int .i64 0, .slice none 0 0, .int .i64 0, .string ⟨#[]⟩]), .iface 175 (.agg (#[.int .i64 n33, .iface 77 (.int .i64 4)]))])) w49) ∧ (¬ (n33 < ((ByteArray.size z0 : Nat) : Int)) → ∀ w50 : World, Fr S w w47 [l1, l1, l2] ([⟨l0, #[.int .i64 0, .int .i64 0, .int .i64 0, .slice none 0 0, .int .i64 0, .string ⟨#[]⟩], 92, true⟩, ⟨l2, #[.int .i64 n23, .int .i64 n24, .int .i64 n25, .slice q4 l21 l22, .int .i64 n31, .string s15], 92, true⟩]) w50 → CallV Proofs.Tryz.prog 60 (#[.agg (#[.int .i64 n23, .int .i64 n24, .int .i64 n25, .slice q4 l21 l22, .int .i64 n31, .string s15])]) w50 (fun v46 w51 => ∃ v47 : Value, v46 = v47 ∧ Fs S w ([⟨l0, #[.int .i64 0, .int .i64 0, .int .i64 0, .slice none 0 0, .int .i64 0, .string ⟨#[]⟩], 92, true⟩, ⟨l2, #[.int .i64 n23, .int .i64 n24, .int .i64 n25, .slice q4 l21 l22, .int .i64 n31, .string s15], 92, true⟩]) w51 ∧ ((v47 : Value) = .nilIface → ∀ w52 : World, Fr S w w51 [l0] [] w52 → K (.tuple (#[.agg (#[.int .i64 n23, .int .i64 n24, .int .i64 n25, .slice q4 l21 l22, .int .i64 n31, .string s15]), .nilIface])) w52) ∧ (∀ x6 : Nat, ∀ v48 : Value, (v47 : Value) = .iface x6 v48 → ∀ w53 : World, Fr S w w51 [l0] [] w53 → K (.tuple (#[.agg (#[.int .i64 0, .int .i64 0, .int .i64 0, .slice none 0 0, .int .i64 0, .string ⟨#[]⟩]), v47])) w53) ∧ ((v47 : Value) = .nilIface ∨ ∃ l30 : Nat, ∃ v49 : Value, (v47 : Value) = .iface l30 v49)))) ∧ (∀ x7 : Nat, ∀ v50 : Value, (v45 : Value) = .iface x7 v50 → ∀ w54 : World, Fr S w w47 [l1, l1, l2] ([⟨l0, #[.int .i64 0, .int .i64 0, .int .i64 0, .slice none 0 0, .int .i64 0, .string ⟨#[]⟩], 92, true⟩, ⟨l1, #[.string s14, .int .i64 n33, v45], 191, true⟩]) w54 → ∃ I9 : World → Prop, I9 w54 ∧ ∀ w55 : World, Fr S w w54 [l0] ([⟨l0, #[.int .i64 0, .int .i64 0, .int .i64 0, .slice none 0 0, .int .i64 0, .string ⟨#[]⟩], 92, true⟩, ⟨l1, #[.string s14, .int .i64 n33, v45], 191, true⟩]) w55 → I9 w55 ∧ K (.tuple (#[.agg (#[.int .i64 0, .int .i64 0, .int .i64 0, .slice none 0 0, .int .i64 0, .string ⟨#[]⟩]), v45])) w55) ∧ ((v45 : Value) = .nilIface ∨ ∃ l31 : Nat, ∃ v51 : Value, (v45 : Value) = .iface l31 v51))) ∧ (∀ x8 : Nat, ∀ v52 : Value, (v43 : Value) = .iface x8 v52 → ((v43 : Value) = .nilIface → (n32 < ((ByteArray.size z0 : Nat) : Int) → ∀ w56 : World, Fr S w w45 [l2] ([⟨l0, #[.int .i64 0, .int .i64 0, .int .i64 0, .slice none 0 0, .int .i64 0, .string ⟨#[]⟩], 92, true⟩, ⟨l1, #[.string s14, .int .i64 n32, v43], 191, true⟩]) w56 → ∃ I10 : World → Prop, I10 w56 ∧ (true : Bool) = true ∧ ∀ w57 : World, Fr S w w56 [l0] ([⟨l0, #[.int .i64 0, .int .i64 0, .int .i64 0, .slice none 0 0, .int .i64 0, .string ⟨#[]⟩], 92, true⟩, ⟨l1, #[.string s14, .int .i64 n32, v43], 191, true⟩]) w57 → I10 w57 ∧ K (.tuple (#[.agg (#[.int .i64 0, .int .i64 0, .int .i64 0, .slice none 0 0, .int .i64 0, .string ⟨#[]⟩]), .iface 175 (.agg (#[.int .i64 n32, .iface 77 (.int .i64 4)]))])) w57) ∧ (¬ (n32 < ((ByteArray.size z0 : Nat) : Int)) → ∀ w58 : World, Fr S w w45 [l2] ([⟨l0, #[.int .i64 0, .int .i64 0, .int .i64 0, .slice none 0 0, .int .i64 0, .string ⟨#[]⟩], 92, true⟩, ⟨l2, #[.int .i64 n23, .int .i64 n24, .int .i64 n25, .slice q4 l21 l22, .int .i64 n31, .string s11], 92, true⟩]) w58 → CallV Proofs.Tryz.prog 60 (#[.agg (#[.int .i64 n23, .int .i64 n24, .int .i64 n25, .slice q4 l21 l22, .int .i64 n31, .string s11])]) w58 (fun v53 w59 => ∃ v54 : Value, v53 = v54 ∧ Fs S w ([⟨l0, #[.int .i64 0, .int .i64 0, .int .i64 0, .slice none 0 0, .int .i64 0, .string ⟨#[]⟩], 92, true⟩, ⟨l2, #[.int .i64 n23, .int .i64 n24, .int .i64 n25, .slice q4 l21 l22, .int .i64 n31, .string s11], 92, true⟩]) w59 ∧ ((v54 : Value) = .nilIface → ∀ w60 : World, Fr S w w59 [l0] [] w60 → K (.tuple (#[.agg (#[.int .i64 n23, .int .i64 n24, .int .i64 n25, .slice q4 l21 l22, .int .i64 n31, .string s11]), .nilIface])) w60) ∧ (∀ x9 : Nat, ∀ v55 : Value, (v54 : Value) = .iface x9 v55 → ∀ w61 : World, Fr S w w59 [l0] [] w61 → K (.tuple (#[.agg (#[.int .i64 0, .int .i64 0, .int .i64 0, .slice none 0 0, .int .i64 0, .string ⟨#[]⟩]), v54])) w61) ∧ ((v54 : Value) = .nilIface ∨ ∃ l32 : Nat, ∃ v56 : Value, (v54 : Value) = .iface l32 v56)))) ∧ (∀ x10 : Nat, ∀ v57 : Value, (v43 : Value) = .iface x10 v57 → ∀ w62 : World, Fr S w w45 [l2] ([⟨l0, #[.int .i64 0, .int .i64 0, .int .i64 0, .slice none 0 0, .int .i64 0, .string ⟨#[]⟩], 92, true⟩, ⟨l1, #[.string s14, .int .i64 n32, v43], 191, true⟩]) w62 → ∃ I11 : World → Prop, I11 w62 ∧ ∀ w63 : World, Fr S w w62 [l0] ([⟨l0, #[.int .i64 0, .int .i64 0, .int .i64 0, .slice none 0 0, .int .i64 0, .string ⟨#[]⟩], 92, true⟩, ⟨l1, #[.string s14, .int .i64 n32, v43], 191, true⟩]) w63 → I11 w63 ∧ K (.tuple (#[.agg (#[.int .i64 0, .int .i64 0, .int .i64 0, .slice none 0 0, .int .i64 0, .string ⟨#[]⟩]), v43])) w63) ∧ ((v43 : Value) = .nilIface ∨ ∃ l33 : Nat, ∃ v58 : Value, (v43 : Value) = .iface l33 v58)) ∧ ((v43 : Value) = .nilIface ∨ ∃ l34 : Nat, ∃ v59 : Value, (v43 : Value) = .iface l34 v59)))) ∧ ((v7 : Value) = .nilIface ∨ ∃ l35 : Nat, ∃ v60 : Value, (v7 : Value) = .iface l35 v60)))))) : CallV Go.Proofs.Tryz.prog 78 ⟨[.string z0]⟩ w K :=
  call_of_vc3 (okf := ⟨okL, []⟩) okL_ok (args := [.c (.v (.string z0))]) (H := []) (.s (.r ⟨(some []), true, [], []⟩) (.s (.r ⟨(some [2]), true, [], []⟩) (.s (.r ⟨(some [2, 4]), true, [], [(1, [999]), (3, [999]), (5, [999])]⟩) (.s (.r ⟨(some [2, 4, 5]), true, [], [(1, [999])]⟩) (.s (.s .z (.c (.s (.r ⟨(some [2, 5]), true, [], []⟩) (.s (.r ⟨(some [2, 5]), true, [], []⟩) .z)) .z)) (.s (.s .z (.b (.l (some [2, 4, 5]) (some [2, 4, 5]) [(35, .c (.int .i64))] [4, 5] (.s .z (.s .z (.s (.b (.r ⟨(some [2, 4, 5]), true, [4, 5], [(3, [999]), (5, [999])]⟩)) .z)))))) (.s (.r ⟨(some [2, 4, 5]), true, [], [(1, [999])]⟩) (.s (.s .z (.c (.r ⟨(some [2, 4, 5]), true, [], []⟩) .z)) (.s (.b (.s .z (.c (.s (.r ⟨(some [2, 4]), true, [2], []⟩) .z) (.s .z (.c (.s (.r ⟨(some [2, 4]), true, [2], []⟩) .z) .z))))) (.s (.s (.r ⟨(some [2, 5]), true, [], []⟩) (.s .z (.c (.s (.r ⟨(some [2]), true, [], []⟩) .z) .z))) (.s (.r ⟨(some [2, 5]), true, [], []⟩) .z))))))))))) Go.Proofs.Tryz.func78 rfl ⟨trivial, trivial⟩ trivial (Fr.init S w) trivial (cast_vc (by kernel_rfl) h)


/-- lading/sha.Sum -/
theorem sha_Sum' (y0 : Option Addr) (ly0 : Nat) (cy0 : Nat) (S : Nat → Prop) (K : Value → World → Prop) (w : World) (h : CallV Proofs.Tryz.prog 143 #[] w (fun v0 w0 => ∃ q0 : Option Addr, v0 = .pointer q0 ∧ Fs S w [] w0 ∧ CallV Proofs.Tryz.prog 144 (#[.pointer q0, .slice y0 ly0 cy0]) w0 (fun v1 w1 => v1 = .tuple #[] ∧ Fs S w [] w1 ∧ CallV Proofs.Tryz.prog 145 (#[.pointer q0]) w1 (fun v2 w2 => ∃ s0 : ByteArray, v2 = .string s0 ∧ Fs S w [] w2 ∧ K (.string s0) w2)))) : CallV Go.Proofs.Tryz.prog 120 ⟨[.slice y0 ly0 cy0]⟩ w K :=
  call_of_vc3 (okf := ⟨okL, []⟩) okL_ok (args := [.c (.v (.slice y0 ly0 cy0))]) (H := []) (.s .z (.s (.r ⟨(some []), false, [], []⟩) (.s (.r ⟨(some []), false, [], [(2, [999])]⟩) (.s (.r ⟨(some []), false, [], []⟩) .z)))) Go.Proofs.Tryz.func120 rfl ⟨trivial, trivial⟩ trivial (Fr.init S w) trivial (cast_vc (by kernel_rfl) h)


/-- lading/merkle.New -/
theorem merkle_New' (y0 : Option Addr) (ly0 : Nat) (cy0 : Nat) (S : Nat → Prop) (K : Value → World → Prop) (w : World) (h : rn Proofs.Tryz.prog (Instr.makeMap 207 none) (fun v0 w0 => ∃ q0 : Option Nat, v0 = .map q0 ∧ Fs S w [] w0 ∧ ∀ l0 : Nat, w0.heap.size ≤ l0 → ∀ w1 : World, Fr S w w0 [] ([⟨l0, #[.slice none 0 0, .map q0], 209, true⟩]) w1 → ∃ I0 : Int → (Option Addr) → Nat → Nat → (Option Nat) → Nat → World → Prop, (∃ l1 : Nat, I0 0 none 0 0 q0 l1 w1) ∧ ∀ n0 : Int, ∀ q1 : Option Addr, ∀ l2 : Nat, ∀ l3 : Nat, ∀ q2 : Option Nat, ∀ D0 : Nat → Value, ∀ l4 : Nat, ∀ w2 : World, I0 n0 q1 l2 l3 q2 l4 w2 → Fs S w ([⟨l0, #[.slice q1 l2 l3, .map q2], 209, true⟩]) w2 → (n0 < ((ly0 : Nat) : Int) → Dr y0 (fun a0 => (0 : Int) ≤ n0 ∧ n0 < ((ly0 : Nat) : Int) ∧ Dr (some (Addr.add a0 ((Int.toNat n0 * 1)))) (fun a1 => ∃ s0 : ByteArray, (World.cell? w2 a1 : Option Value) = some (.string s0) ∧ ∀ w3 : World, Fr S w w2 [] ([⟨l0, #[.slice q1 l2 l3, .map q2], 209, true⟩]) w3 → ∃ I1 : World → Prop, I1 w3 ∧ Dr (some (⟨l0, 0, none⟩)) (fun a2 => ∃ q3 : Option Addr, ∃ l5 : Nat, ∃ l6 : Nat, (∀ w4 : World, I1 w4 → (World.cell? w4 a2 : Option Value) = some (.slice q3 l5 l6)) ∧ CallV Proofs.Tryz.prog 118 (#[.string s0]) w3 (fun v1 w5 => ∃ s1 : ByteArray, v1 = .string s1 ∧ Fs S w ([⟨l0, #[.slice q1 l2 l3, .map q2], 209, true⟩]) w5 ∧ I1 w5 ∧ ∀ l7 : Nat, w5.heap.size ≤ l7 → ∀ w6 : World, Fr S w w5 [] ([⟨l0, #[.slice q1 l2 l3, .map q2], 209, true⟩, ⟨l7, #[.string s1], 9, true⟩]) w6 → I1 w6 ∧ rn Proofs.Tryz.prog (Builtin.append_ (#[52, 52]) 52 (#[.slice q3 l5 l6, .slice (some (⟨l7, 0, none⟩)) 1 1])) (fun v2 w7 => ∃ q4 : Option Addr, ∃ l8 : Nat, ∃ l9 : Nat, v2 = .slice q4 l8 l9 ∧ Fs S w ([⟨l0, #[.slice q1 l2 l3, .map q2], 209, true⟩, ⟨l7, #[.string s1], 9, true⟩]) w7 ∧ I1 w7 ∧ ∀ w8 : World, Fr S w w7 [l0] ([⟨l0, #[.slice q4 l8 l9, .map q2], 209, true⟩, ⟨l7, #[.string s1], 9, true⟩]) w8 → ∃ l10 : Nat, l10 < l4 ∧ I0 (IntKind.wrap .i64 ((n0 + 1))) q4 l8 l9 q2 l10 w8) w6))))) ∧ (¬ (n0 < ((ly0 : Nat) : Int)) → (((ly0 : Nat) : Int) > 0 → CallV Proofs.Tryz.prog 119 (#[.pointer (some (⟨l0, 0, none⟩)), .agg (#[.int .i64 0, .int .i64 (((ly0 : Nat) : Int))])]) w2 (fun v3 w9 => ∃ s2 : ByteArray, v3 = .string s2 ∧ ∃ q5 : Option Addr, ∃ l11 : Nat, ∃ l12 : Nat, ∃ q6 : Option Nat, Fs S w ([⟨l0, #[.slice q5 l11 l12, .map q6], 209, true⟩]) w9 ∧ K (.pointer (some (⟨l0, 0, none⟩))) w9)) ∧ (¬ (((ly0 : Nat) : Int) > 0) → K (.pointer (some (⟨l0, 0, none⟩))) w2))) w) : CallV Go.Proofs.Tryz.prog 89 ⟨[.slice y0 ly0 cy0]⟩ w K :=
  call_of_vc3 (okf := ⟨okL, []⟩) okL_ok (args := [.c (.v (.slice y0 ly0 cy0))]) (H := []) (.s .z (.s (.r ⟨(some []), true, [], []⟩) (.s (.s .z (.b (.l (some [3]) (some [3]) [(11, .c (.int .i64))] [3] (.s .z (.s .z (.s (.b (.s .z (.r ⟨(some [3]), true, [3], []⟩))) .z)))))) (.s (.s .z (.c (.r ⟨(some [3]), true, [], [(4, [999])]⟩) .z)) .z)))) Go.Proofs.Tryz.func89 rfl ⟨trivial, trivial⟩ trivial (Fr.init S w) trivial (cast_vc (by kernel_rfl) h)


/-- lading/merkle.Root -/
theorem merkle_Root' (y0 : Option Addr) (ly0 : Nat) (cy0 : Nat) (S : Nat → Prop) (K : Value → World → Prop) (w : World) (h : CallV Proofs.Tryz.prog 89 (#[.slice y0 ly0 cy0]) w (fun v0 w0 => ∃ q0 : Option Addr, v0 = .pointer q0 ∧ Fs S w [] w0 ∧ CallV Proofs.Tryz.prog 90 (#[.pointer q0]) w0 (fun v1 w1 => ∃ s0 : ByteArray, v1 = .string s0 ∧ Fs S w [] w1 ∧ K (.string s0) w1))) : CallV Go.Proofs.Tryz.prog 59 ⟨[.slice y0 ly0 cy0]⟩ w K :=
  call_of_vc3 (okf := ⟨okL, []⟩) okL_ok (args := [.c (.v (.slice y0 ly0 cy0))]) (H := []) (.s .z (.s (.r ⟨(some []), false, [], []⟩) .z)) Go.Proofs.Tryz.func59 rfl ⟨trivial, trivial⟩ trivial (Fr.init S w) trivial (cast_vc (by kernel_rfl) h)


end Go.Vc

/-! A part of the proof that two events of one line are one event: the calculus that follows known memory by computing, and its soundness. By an AI agent. -/



namespace Go.Vc
open Go
/-! ## rows of targets are read (gap): contracts, of what was put -/
theorem Short_put {s : ByteArray} {n : Nat} {r : List UInt8} {at_ : Int} (hs : s.size ≤ 4611686018427387904) (ha : 0 ≤ at_) (hd : s.data.toList.drop at_.toNat = putShort n ++ r) (hn : n ≤ 72057594037927935) {w : World} {K : Value → World → Prop}
    (hK : okAt s at_ → at_ + (putShort n).length ≤ s.size → K (.tuple #[.int .i64 n, .int .i64 (at_ + (putShort n).length), .nilIface]) w) : CallV PR F.octet_Short ⟨[.string s, .int .i64 at_]⟩ w K := by
  have hl : (s.data.toList.drop at_.toNat).length = s.size - at_.toNat := by rw [List.length_drop, len_data]
  have hp := putShort_pos n
  rw [hd, List.length_append] at hl
  have hok : okAt s at_ := ⟨ha, by omega⟩
  refine Short_spec hs (fun h => absurd hok h) fun _ => ?_
  rw [hd, getShort_of hn]
  exact hK hok (by omega)
theorem Turned_put {s : ByteArray} {x : Int} {r : List UInt8} {at_ : Int} (hs : s.size ≤ 4611686018427387904) (ha : 0 ≤ at_) (hx : okTurn x) (hd : s.data.toList.drop at_.toNat = putShort (turn x).toNat ++ r) {w : World} {K : Value → World → Prop}
    (hK : okAt s at_ → at_ + (putShort (turn x).toNat).length ≤ s.size → K (.tuple #[.int .i64 x, .int .i64 (at_ + (putShort (turn x).toNat).length), .nilIface]) w) : CallV PR F.octet_Turned ⟨[.string s, .int .i64 at_]⟩ w K := by
  have hl : (s.data.toList.drop at_.toNat).length = s.size - at_.toNat := by rw [List.length_drop, len_data]
  have hp := putShort_pos (turn x).toNat
  have t0 := turn_nn x
  have t1 := turn_le x
  rw [hd, List.length_append] at hl
  have hok : okAt s at_ := ⟨ha, by omega⟩
  have hg := getShort_of (n := (turn x).toNat) (by omega) r
  refine Turned_spec hs hok (fun n k h => ?_) (fun c h => ?_)
  · rw [hd, hg] at h
    cases h
    rw [Int.toNat_of_nonneg t0, back_turn hx]
    exact hK hok (by omega)
  · rw [hd, hg] at h; cases h
theorem count_put {s : ByteArray} {n : Nat} {r : List UInt8} {at_ nodes : Int} (hs : s.size ≤ 4611686018427387904) (ha : 0 ≤ at_) (hd : s.data.toList.drop at_.toNat = putShort n ++ r) (hn : (n : Int) ≤ nodes) (hn2 : nodes ≤ 4096) {w : World} {K : Value → World → Prop}
    (hK : okAt s at_ → at_ + (putShort n).length ≤ s.size → K (.tuple #[.int .i64 n, .int .i64 (at_ + (putShort n).length), .nilIface]) w) : CallV PR F.gap_count ⟨[.string s, .int .i64 at_, .int .i64 nodes]⟩ w K := by
  refine gap_count s at_ nodes S0 K w ?_
  refine Short_put hs ha hd (by omega) fun h1 h2 => ⟨_, _, _, rfl, .init _ w, fun _ => ⟨fun h => by omega, fun _ => hK h1 h2⟩, (fun t x h => by cases h), .inl rfl⟩
def rdr (s : ByteArray) (at_ nodes now : Int) : Array Value := #[.string s, .int .i64 at_, .int .i64 nodes, .int .i64 now]
theorem stepT_put {s : ByteArray} {t v at_ nodes : Int} {r : List UInt8} (hs : s.size ≤ 4611686018427387904) (ha : 0 ≤ at_) (hn : nodes ≤ 4096) (hv : 0 ≤ v ∧ v < nodes) (ht : 0 ≤ t ∧ t < nodes) (hd : s.data.toList.drop at_.toNat = putShort (turn (t - v)).toNat ++ r)
    {b : Nat} {w : World} (hb : w.heap[b]? = some (.cells (rdr s at_ nodes v) T.gap_reader (0, 0))) {K : Value → World → Prop}
    (hK : ∀ w', at_ + (putShort (turn (t - v)).toNat).length ≤ s.size → w'.heap[b]? = some (.cells (rdr s (at_ + (putShort (turn (t - v)).toNat).length) nodes t) T.gap_reader (0, 0)) → Chg (· = b) w w' → K .nilIface w') :
    CallV PR F.p_gap_reader_step ⟨[.pointer (some ⟨b, 0, none⟩), .bool true]⟩ w K := by
  refine gap_reader_step_t b s at_ nodes v (· = b) K w ((Fr.init _ w).entry hb (fun x h => by cases h) fun _ => rfl) ⟨rfl, trivial⟩ ?_
  intro w0 h0
  refine Turned_put hs ha (x := t - v) ⟨by omega, by omega⟩ hd fun h1 h2 => ⟨_, _, _, rfl, h0.reset, fun _ => ⟨fun h => ?_, fun _ => ⟨fun h => ?_, fun _ w6 h6 => ?_⟩⟩, (fun t x h => by cases h), .inl rfl⟩
  · rw [w64 (by omega) (by omega)] at h; omega
  · rw [w64 (by omega) (by omega)] at h; omega
  · have := h6.blk 0 rfl
    simp only [] at this
    rw [w64 (n := v + (t - v)) (by omega) (by omega), show v + (t - v) = t by omega] at this
    exact hK w6 h2 this h6.chg
theorem stepF_put {s : ByteArray} {t v at_ nodes : Int} {r : List UInt8} (hs : s.size ≤ 4611686018427387904) (ha : 0 ≤ at_) (hn : nodes ≤ 4096) (hv : 0 ≤ v ∧ v < t) (ht : t < nodes) (hd : s.data.toList.drop at_.toNat = putShort (t - v - 1).toNat ++ r)
    {b : Nat} {w : World} (hb : w.heap[b]? = some (.cells (rdr s at_ nodes v) T.gap_reader (0, 0))) {K : Value → World → Prop}
    (hK : ∀ w', at_ + (putShort (t - v - 1).toNat).length ≤ s.size → w'.heap[b]? = some (.cells (rdr s (at_ + (putShort (t - v - 1).toNat).length) nodes t) T.gap_reader (0, 0)) → Chg (· = b) w w' → K .nilIface w') :
    CallV PR F.p_gap_reader_step ⟨[.pointer (some ⟨b, 0, none⟩), .bool false]⟩ w K := by
  refine gap_reader_step_f b s at_ nodes v (· = b) K w ((Fr.init _ w).entry hb (fun x h => by cases h) fun _ => rfl) ⟨rfl, trivial⟩ ?_
  intro w0 h0
  refine Short_put hs ha hd (by omega) fun h1 h2 => ⟨_, _, _, rfl, h0.reset, fun _ => ⟨fun h => ?_, fun _ => ⟨fun h => ?_, fun _ w6 h6 => ?_⟩⟩, (fun t x h => by cases h), .inl rfl⟩
  · rw [w64 (by omega) (by omega), w64 (by omega) (by omega)] at h; omega
  · rw [w64 (by omega) (by omega), w64 (by omega) (by omega)] at h; omega
  · have := h6.blk 0 rfl
    simp only [] at this
    rw [w64 (n := (((t - v - 1).toNat : Nat) : Int) + 1) (by omega) (by omega), w64 (by omega) (by omega), show v + ((((t - v - 1).toNat : Nat) : Int) + 1) = t by omega] at this
    exact hK w6 h2 this h6.chg
theorem gapGet_put {s : ByteArray} {l : List Int} {r : List UInt8} {at_ nodes v : Int} (hs : s.size ≤ 4611686018427387904) (ha : 0 ≤ at_) (hn : 0 ≤ nodes ∧ nodes ≤ 4096) (hv : 0 ≤ v ∧ v < nodes) (hr : okRow nodes l) (hd : s.data.toList.drop at_.toNat = gapL v l ++ r)
    {w : World} {K : Value → World → Prop}
    (hK : ∀ w' q c, Grow w w' → at_ + (gapL v l).length ≤ s.size → Own T.int 1 w' q c (l.map iv) → l.length ≤ c → Off (fun k => k < w.heap.size) q → K (.tuple #[.slice q l.length c, .int .i64 (at_ + (gapL v l).length), .nilIface]) w') :
    CallV PR F.gap_Get ⟨[.string s, .int .i64 at_, .int .i64 nodes, .int .i64 v]⟩ w K := by
  have hlen := okRow_len hr
  refine gap_Get' s at_ nodes v S0 K w ?_
  refine may_spec hn hv ⟨_, rfl, .init _ w, fun _ => ?_, (fun t x h => by cases h), .inl rfl⟩
  have hd0 : s.data.toList.drop at_.toNat = putShort l.length ++ (cat (gapP v l) l.length ++ r) := by rw [hd, gapL, List.append_assoc]
  refine count_put hs ha hd0 (by omega) hn.2 fun h1 h2 => ⟨_, _, _, rfl, .init _ w, fun _ => ?_, (fun t x h => by cases h), .inl rfl⟩
  intro b hb w1 hF1
  refine ⟨fun q n c i s' p nn now m w' => ∃ k : Nat, i = k ∧ k ≤ l.length ∧ m = l.length - k ∧ s' = s ∧ p = at_ + ((putShort l.length).length + (cat (gapP v l) k).length : Nat) ∧ nn = nodes ∧ now = (if k = 0 then v else l.getD (k - 1) 0) ∧
      Own T.int 1 w' q c ((l.take k).map iv) ∧ n = k ∧ n ≤ c ∧ Off (fun j => j < w1.heap.size) q ∧ p ≤ s.size ∧ w1.heap.size ≤ w'.heap.size, ⟨_, 0, rfl, by omega, rfl, rfl, by simp [cat], rfl, rfl, .nil _ _ _, rfl, Nat.le_refl _, .none _, h2, Nat.le_refl _⟩, ?_⟩
  rintro q n c i s' p nn now D m w2 ⟨k, rfl, hk, rfl, rfl, rfl, rfl, rfl, ho, rfl, hnc, hoff, hp, hsz⟩ hF2
  refine ⟨fun hlt => ?_, fun hge => ?_⟩
  · have hk' : n < l.length := by omega
    have hr1 := hr.1 n hk'
    obtain ⟨r', hsp⟩ := cat_split (gapP v l) hk'
    have hdk : s'.data.toList.drop (at_ + ((putShort l.length).length + (cat (gapP v l) n).length : Nat)).toNat = gapP v l n ++ (r' ++ r) := by
      have e0 : s'.data.toList.drop at_.toNat = (putShort l.length ++ cat (gapP v l) n) ++ (gapP v l n ++ (r' ++ r)) := by rw [hd0, hsp]; simp [List.append_assoc]
      rw [show (at_ + ((putShort l.length).length + (cat (gapP v l) n).length : Nat)).toNat = at_.toNat + ((putShort l.length).length + (cat (gapP v l) n).length) by omega, ← List.drop_drop, e0, List.drop_left' (by simp)]
    have hbl := hF2.blk 0 rfl
    have hbw : b < w1.heap.size := hF1.lt _ List.mem_cons_self
    have fin : ∀ (w3 : World) (p' : Int), p' = at_ + ((putShort l.length).length + (cat (gapP v l) (n + 1)).length : Nat) → p' ≤ s'.size → w3.heap[b]? = some (.cells (rdr s' p' nn (l.getD n 0)) T.gap_reader (0, 0)) → Chg (· = b) w2 w3 →
        Fs S0 w [⟨b, rdr s' p' nn (l.getD n 0), T.gap_reader, true⟩] w3 ∧ ∀ (x : Nat), w3.heap.size ≤ x → ∀ w5, Fr S0 w w3 [] [⟨b, rdr s' p' nn (l.getD n 0), T.gap_reader, true⟩, ⟨x, #[iv (l.getD n 0)], T.int, true⟩] w5 →
          rn PR (Builtin.append_ #[T.sl_int, T.sl_int] T.sl_int #[.slice q n c, .slice (some ⟨x, 0, none⟩) 1 1]) (fun v6 w6 => ∃ (q1 : Option Addr) (l6 l7 : Nat), v6 = .slice q1 l6 l7 ∧
            Fs S0 w [⟨b, rdr s' p' nn (l.getD n 0), T.gap_reader, true⟩, ⟨x, #[iv (l.getD n 0)], T.int, true⟩] w6 ∧ ∃ l8 : Nat, l8 < l.length - n ∧ ∃ k : Nat, IntKind.wrap .i64 ((n : Int) + 1) = k ∧ k ≤ l.length ∧ l8 = l.length - k ∧ s' = s' ∧ p' = at_ + ((putShort l.length).length + (cat (gapP v l) k).length : Nat) ∧ nn = nn ∧ l.getD n 0 = (if k = 0 then v else l.getD (k - 1) 0) ∧
              Own T.int 1 w6 q1 l7 ((l.take k).map iv) ∧ l6 = k ∧ l6 ≤ l7 ∧ Off (fun j => j < w1.heap.size) q1 ∧ p' ≤ s'.size ∧ w1.heap.size ≤ w6.heap.size) w5 := by
      intro w3 p' hp' hle hb3 g3
      have hF3 := hF2.mod1 g3 hb3
      have ho3 : Own T.int 1 w3 q c ((l.take n).map iv) := ho.keep g3 (fun a ha e => by
        have h1 := hoff.le a ha
        have e' : a.block = b := e
        omega)
      refine ⟨hF3, fun x hx w5 h5 => ?_⟩
      refine app_iv (xs := l.take n) (ys := [l.getD n 0]) (ho3.grow h5.grow) (by simp; omega) hnc (h5.sl 1 rfl) rfl (by omega) fun q' c' w6 ho6 hc6 g6 hq6 => ?_
      have hF6 := h5.app2 g6 w1.heap.size w3.heap.size hoff (fun a ha => ho3.lt a ha) (fun y hy => by
        rcases List.mem_cons.1 hy with rfl | hy
        · exact .inl hbw
        · simp at hy; subst hy; exact .inr hx) hF1.chg.size
      refine ⟨_, _, _, rfl, hF6, l.length - (n + 1), by omega, n + 1, wr1 (by omega), by omega, rfl, rfl, hp', rfl, by simp, ?_, rfl, hc6, hoff.next hq6 (by have := g3.size; have := h5.grow.size; omega), hle, by have := g3.size; have := h5.grow.size; have := g6.size; omega⟩
      rw [take_next hk', ← getD_at hk']; exact ho6
    have hpl : ∀ y, gapP v l n = y → ((putShort l.length).length + (cat (gapP v l) (n + 1)).length : Nat) = ((putShort l.length).length + (cat (gapP v l) n).length : Nat) + y.length := by
      intro y hy; rw [cat, List.length_append, hy]; omega
    refine ⟨fun h0 => ?_, fun h0 => ?_⟩
    · have h0' : n = 0 := by omega
      have hg : gapP v l n = putShort (turn (l.getD n 0 - v)).toNat := by unfold gapP; rw [if_pos h0', h0']
      have hl2 := hpl _ hg
      rw [hg] at hdk
      rw [if_pos h0'] at hbl
      refine stepT_put hs (by omega) hn.2 hv hr1 hdk hbl fun w3 hle hb3 g3 => ?_
      obtain ⟨f1, f2⟩ := fin w3 _ (by rw [hl2]; omega) hle hb3 g3
      exact ⟨_, rfl, _, _, _, _, f1, fun _ => f2, (fun t x h => by cases h), .inl rfl⟩
    · have h0' : ¬ n = 0 := by omega
      have hg : gapP v l n = putShort (l.getD n 0 - l.getD (n - 1) 0 - 1).toNat := by unfold gapP; rw [if_neg h0']
      have hl2 := hpl _ hg
      rw [hg] at hdk
      rw [if_neg h0'] at hbl
      have hr2 := hr.1 (n - 1) (by omega)
      have hr3 := hr.2 (n - 1) (by omega)
      rw [show n - 1 + 1 = n by omega] at hr3
      refine stepF_put hs (by omega) hn.2 ⟨hr2.1, hr3⟩ hr1.2 hdk hbl fun w3 hle hb3 g3 => ?_
      obtain ⟨f1, f2⟩ := fin w3 _ (by rw [hl2]; omega) hle hb3 g3
      exact ⟨_, rfl, _, _, _, _, f1, fun _ => f2, (fun t x h => by cases h), .inl rfl⟩
  · have e : n = l.length := by omega
    subst e
    intro w3 h3
    rw [List.take_length] at ho
    have g3 : Grow w2 w3 := h3.grow
    rw [gapL, List.length_append] at *
    exact hK w3 q c h3.chg hp (ho.grow g3) hnc (hoff.mono hF1.chg.size)
end Go.Vc

/-! A part of the proof that two events of one line are one event: the calculus that follows known memory by computing, and its soundness. By an AI agent. -/



namespace Go.Vc
open Go Go.Lib
/-! ## strings.Builder: contracts -/
theorem sv_shape {P : Program} {r : Nat} {K : Option (TypeId × Nat) → World → Prop} {w : World} : sv P (shape r) K w ↔ K (w.shape? r) w := Iff.rfl
theorem shape_blk {w : World} {b : Nat} {cs : Array Value} {T : TypeId} {fz : Nat × Nat} (h : w.heap[b]? = some (.cells cs T fz)) : w.shape? b = some (T, cs.size) := by
  simp [World.shape?, h]
/-- a Builder lies in block b < m, its bytes in one from m on -/
structure BldP (w : World) (b m : Nat) (p q : Option Addr) (l c : Nat) (bs : List UInt8) : Prop where
  blk : w.heap[b]? = some (.cells #[.pointer p, .slice q l c] T.strings_Builder (0, 0))
  ptr : p = none ∨ p = some ⟨b, 0, none⟩
  own : Own T.uint8 1 w q c (bs.map bv)
  len : l = bs.length
  cap : l ≤ c
  off : Off (fun k => k < m) q
  lt : b < m
  zero : ∀ a, q = some a → a.off = 0 ∧ a.spot = none
theorem BldP.new {w : World} {b m : Nat} (h : w.heap[b]? = some (.cells #[.pointer none, .slice none 0 0] T.strings_Builder (0, 0))) (hm : b < m) : BldP w b m none none 0 0 [] :=
  ⟨h, .inl rfl, .nil _ _ _, rfl, Nat.le_refl _, .none _, hm, fun a h => by cases h⟩
theorem BldP.keep {S : Nat → Prop} {w w' : World} {b m : Nat} {p q : Option Addr} {l c : Nat} {bs : List UInt8} (h : BldP w b m p q l c bs) (g : Chg S w w') (hb : ¬ S b) (hq : Off S q) : BldP w' b m p q l c bs :=
  ⟨g.get h.blk hb, h.ptr, h.own.keep g hq, h.len, h.cap, h.off, h.lt, h.zero⟩
theorem BldP.grow {w w' : World} {b m : Nat} {p q : Option Addr} {l c : Nat} {bs : List UInt8} (h : BldP w b m p q l c bs) (g : Grow w w') : BldP w' b m p q l c bs := h.keep g id (Off.no q)
theorem BldP.mono {w : World} {b m n : Nat} {p q : Option Addr} {l c : Nat} {bs : List UInt8} (h : BldP w b m p q l c bs) (hn : n ≤ m) (hb : b < n) : BldP w b n p q l c bs :=
  ⟨h.blk, h.ptr, h.own, h.len, h.cap, h.off.mono hn, hb, h.zero⟩
theorem u_bptr : PR.underlying T.p_strings_Builder = some (.pointer T.strings_Builder) := by kernel_rfl
theorem u_uptr : PR.underlying T.unsafe_Pointer = some .unsafePointer := by kernel_rfl
theorem u_pu8 : PR.underlying T.p_uint8 = some (.pointer T.uint8) := by kernel_rfl
theorem k_bld : (PR.info? T.strings_Builder).isSome = true := by kernel_rfl
theorem s_bld : szOf PR T.strings_Builder = 2 := by kernel_rfl
theorem c_u8 : PR.cellsOf T.uint8 = 1 := by kernel_rfl
theorem lies_bld : liesAt PR (PR).depth T.strings_Builder (2 / (PR).cellsOf T.strings_Builder) 0 T.strings_Builder 1 = true := by kernel_rfl
theorem noEscape (v : Value) (K : Value → World → Prop) (w : World) : sv PR (callFunc F.internal_abi_NoEscape ⟨[v]⟩ >>= asVal) K w = K v w := by kernel_rfl
theorem to_unsafe {w : World} {b : Nat} {x y : Value} {K : Value → World → Prop} (hb : w.heap[b]? = some (.cells #[x, y] T.strings_Builder (0, 0))) (hK : K (.pointer (some ⟨b, 0, none⟩)) w) :
    sv PR (convert T.p_strings_Builder T.unsafe_Pointer (.pointer (some ⟨b, 0, none⟩))) K w := by
  have hs := shape_blk hb
  obtain ⟨i, hi⟩ := Option.isSome_iff_exists.1 k_bld
  simp only [convert, sv_bind, sv_underlying u_bptr, sv_underlying u_uptr, Conv.unsafePointer, Conv.seenAt, viewAt, cellsIn, sv_shape, hs, Option.isSome_some, if_true, sv_pure, sv_ite, sv_sizeOf hi]
  have h2 : i.size = 2 := by have := s_bld; simpa [szOf, hi] using this
  simp [h2]
  exact hK
theorem from_unsafe {w : World} {b : Nat} {x y : Value} {K : Value → World → Prop} (hb : w.heap[b]? = some (.cells #[x, y] T.strings_Builder (0, 0))) (hK : K (.pointer (some ⟨b, 0, none⟩)) w) :
    sv PR (convert T.unsafe_Pointer T.p_strings_Builder (.pointer (some ⟨b, 0, none⟩))) K w := by
  have hs := shape_blk hb
  have hl : liesAt PR (PR).depth T.strings_Builder ((#[x, y] : Array Value).size / (PR).cellsOf T.strings_Builder) 0 T.strings_Builder 1 = true := lies_bld
  obtain ⟨i, hi⟩ := Option.isSome_iff_exists.1 k_bld
  simp only [convert, sv_bind, sv_underlying u_bptr, sv_underlying u_uptr, Conv.unsafePointer, Conv.seenAt, viewAt, variablesAt, sv_shape, hs, Option.isSome_some, if_true, sv_pure, sv_ite, sv_sizeOf hi, sv_program, hl]
  simp
  exact hK
theorem copyCheck_spec {w : World} {b : Nat} {p q : Option Addr} {l c : Nat} (hp : p = none ∨ p = some ⟨b, 0, none⟩) (hb : w.heap[b]? = some (.cells #[.pointer p, .slice q l c] T.strings_Builder (0, 0))) {K : Value → World → Prop}
    (hK : ∀ w' p', (p' = none ∨ p' = some ⟨b, 0, none⟩) → w'.heap[b]? = some (.cells #[.pointer p', .slice q l c] T.strings_Builder (0, 0)) → Chg (· = b) w w' → K (.tuple #[]) w') :
    CallV PR F.p_strings_Builder_copyCheck ⟨[.pointer (some ⟨b, 0, none⟩)]⟩ w K := by
  have h0 : Fs (· = b) w [⟨b, #[.pointer p, .slice q l c], T.strings_Builder, true⟩] w := (Fr.init _ w).entry hb (fun x h => by cases h) fun _ => rfl
  refine strings_Builder_copyCheck b p q l c (· = b) K w h0 ⟨rfl, trivial⟩ ⟨fun hn => ?_, fun a0 ha => ?_⟩
  · refine rn_sv (to_unsafe hb ⟨_, rfl, h0, rn_sv ?_⟩)
    rw [noEscape]
    refine ⟨_, rfl, h0, rn_sv (from_unsafe hb ⟨_, rfl, h0, fun w3 h3 => ?_⟩)⟩
    exact hK w3 _ (.inr rfl) (h3.blk 0 rfl) h3.chg
  · have hp' : a0 = ⟨b, 0, none⟩ := by
      rcases hp with h | h
      · rw [h] at ha; cases ha
      · rw [h] at ha; exact (Option.some.inj ha).symm
    subst hp'
    rw [ha]
    exact Dr_some.2 (Dr_some.2 ⟨rfl, fun _ => hK w p hp hb (.refl _ _), fun h => h rfl⟩)
theorem app_text {w : World} {q : Option Addr} {l c : Nat} {bs : List UInt8} {s : ByteArray} {K : Value → World → Prop} (ho : Own T.uint8 1 w q c (bs.map bv)) (hl : l = bs.length) (hlc : l ≤ c) (hroom : l + s.size ≤ 70368744177664)
    (hK : ∀ q' c' w', Own T.uint8 1 w' q' c' ((bs ++ s.data.toList).map bv) → l + s.size ≤ c' → Chg (blkOf q) w w' → (∀ a, q' = some a → q = some a ∨ a = ⟨w.heap.size, 0, Option.none⟩) → K (.slice q' (l + s.size) c') w') :
    rn PR (Builtin.append_ #[T.sl_uint8, T.string] T.sl_uint8 #[.slice q l c, .string s]) K w := by
  obtain ⟨i8, hi8, hk8, hb8, hz8⟩ := t_u8
  refine rn_sv (sv_append_str (i := i8) u_bytes u_str hi8 hz8 hk8 hb8 ho (by simp [hl]) hlc hroom fun q' c' w' h1 h2 h3 h4 => hK q' c' w' ?_ h2 h3 h4)
  rw [List.map_append]; exact h1
theorem WriteString_spec {w : World} {b m : Nat} {p q : Option Addr} {l c : Nat} {bs : List UInt8} {s : ByteArray} {K : Value → World → Prop} (h : BldP w b m p q l c bs) (hm : m ≤ w.heap.size) (hroom : l + s.size ≤ 70368744177664)
    (hK : ∀ w' p' q' l' c', BldP w' b m p' q' l' c' (bs ++ s.data.toList) → Chg (fun k => k = b ∨ blkOf q k) w w' → (∀ a, q' = some a → q = some a ∨ w.heap.size ≤ a.block) → K (.tuple #[.int .i64 s.size, .nilIface]) w') :
    CallV PR F.p_strings_Builder_WriteString ⟨[.pointer (some ⟨b, 0, none⟩), .string s]⟩ w K := by
  have hqb : ∀ a, q = some a → a.block ≠ b := fun a ha e => by have := h.off.le a ha; have := h.lt; omega
  have h0 : Fs (fun k => k = b ∨ blkOf q k) w [⟨b, #[.pointer p, .slice q l c], T.strings_Builder, true⟩] w := (Fr.init _ w).entry h.blk (fun x h => by cases h) fun _ => .inl rfl
  refine strings_Builder_WriteString b p q l c s (fun k => k = b ∨ blkOf q k) K w h0 ⟨.inl rfl, trivial⟩ ?_
  refine copyCheck_spec h.ptr h.blk fun w1 p1 hp1 hb1 g1 => ?_
  have h1 := h0.mod1 g1 hb1
  refine ⟨rfl, _, _, _, _, h1, ?_⟩
  have ho1 : Own T.uint8 1 w1 q c (bs.map bv) := h.own.keep g1 fun a ha e => hqb a ha e
  refine app_text ho1 h.len h.cap hroom fun q' c' w2 ho2 hc2 g2 hq2 => ?_
  have h2 : Fs (fun k => k = b ∨ blkOf q k) w [⟨b, #[.pointer p1, .slice q l c], T.strings_Builder, true⟩] w2 := h1.step g2 (fun x hx ⟨a, ha, e⟩ => by
    simp at hx; subst hx; exact hqb a ha e.symm) fun k _ hk => .inr hk
  refine ⟨_, _, _, rfl, h2, fun w3 h3 => ?_⟩
  have hs1 : w1.heap.size = w1.heap.size := rfl
  have hsz : w.heap.size ≤ w1.heap.size := g1.size
  have hmb : ∀ a, q' = some a → m ≤ a.block := fun a ha => by
    rcases hq2 a ha with e | e
    · exact h.off.le a e
    · subst e; show m ≤ w1.heap.size; omega
  have g3 : Chg (· = b) w2 w3 := h3.stp.mono fun k _ hk => by simpa using hk
  refine hK w3 p1 q' _ c' ⟨h3.blk 0 rfl, hp1, ho2.keep g3 (fun a ha e => ?_), ?_, hc2, ?_, h.lt, ?_⟩ h3.chg ?_
  · have := hmb a ha; have := h.lt; have e' : a.block = b := e; omega
  · rw [List.length_append, len_data, h.len]
  · intro a ha hlt; have := hmb a ha; omega
  · intro a ha
    rcases hq2 a ha with e | e
    · exact h.zero a e
    · subst e; exact ⟨rfl, rfl⟩
  · intro a ha
    rcases hq2 a ha with e | e
    · exact .inl e
    · subst e; exact .inr hsz
theorem Len_spec {w : World} {b m : Nat} {p q : Option Addr} {l c : Nat} {bs : List UInt8} {K : Value → World → Prop} (h : BldP w b m p q l c bs) (hK : K (.int .i64 bs.length) w) : CallV PR F.p_strings_Builder_Len ⟨[.pointer (some ⟨b, 0, none⟩)]⟩ w K := by
  refine strings_Builder_Len b p q l c (· = b) K w ((Fr.init _ w).entry h.blk (fun x h => by cases h) fun _ => rfl) ⟨rfl, trivial⟩ ?_
  rw [h.len]; exact hK
theorem freeze_chg (w : World) (a : Addr) (n : Nat) : Chg (· = a.block) w (w.freeze a n) := by
  unfold World.freeze
  split
  · exact .refl _ _
  · refine ⟨rfl, rfl, rfl, Nat.le_refl _, by simp, fun k hk hn => ?_⟩
    simp only [Array.getElem?_modify]
    rw [if_neg (by omega)]
theorem String_spec {w : World} {b m : Nat} {p q : Option Addr} {l c : Nat} {bs : List UInt8} {K : Value → World → Prop} (h : BldP w b m p q l c bs)
    (hK : ∀ w', Chg (blkOf q) w w' → K (.string (str bs)) w') : CallV PR F.p_strings_Builder_String ⟨[.pointer (some ⟨b, 0, none⟩)]⟩ w K := by
  have hqb : ∀ a, q = some a → a.block ≠ b := fun a ha e => by have := h.off.le a ha; have := h.lt; omega
  refine strings_Builder_String b p q l c (fun k => k = b ∨ blkOf q k) K w ((Fr.init _ w).entry h.blk (fun x h => by cases h) fun _ => .inl rfl) ⟨.inl rfl, trivial⟩ ?_
  intro w0 h0
  have g0 : Grow w w0 := h0.grow
  have h := h.grow g0
  have fin : ∀ w', Chg (blkOf q) w0 w' → Fs (fun k => k = b ∨ blkOf q k) w [⟨b, #[.pointer p, .slice q l c], T.strings_Builder, true⟩] w' := fun w' g => h0.reset.step g (fun x hx ⟨a, ha, e⟩ => by
    simp at hx; subst hx; exact hqb a ha e.symm) fun k _ hk => .inr hk
  have g0' : ∀ {w'}, Chg (blkOf q) w0 w' → Chg (blkOf q) w w' := fun g => g0.then g
  have hlen := h.len
  rcases h.own with ⟨rfl, hc, hb0⟩ | ⟨blk, o, cs, rfl, hb, h1, h2, h3, h4⟩
  · have e : bs = [] := by simpa using hb0
    subst e
    subst hlen
    refine rn_run (run_unsafeSliceData_nil w0 _ _ _ _) ⟨_, rfl, h0.reset, rn_run (run_unsafeString_none w0 _ _ _ _) ⟨_, rfl, h0.reset, hK w0 g0.chg⟩⟩
  · have hz := h.zero _ rfl
    simp only [] at hz
    obtain ⟨ho, _⟩ := hz
    subst ho
    have hS2 : ∀ (w1 : World) (pp : Option Addr), Chg (blkOf (some ⟨blk, 0, none⟩)) w0 w1 → (bs ≠ [] → pp = some ⟨blk, 0, none⟩ ∧ w1 = w0) → rn PR (Builtin.unsafeString_ (#[T.p_uint8, T.int]) T.string (#[.pointer pp, .int .i64 (l : Int)])) (fun v1 w2 => ∃ s0, v1 = .string s0 ∧ Fs (fun k => k = b ∨ blkOf (some ⟨blk, 0, none⟩) k) w [⟨b, #[.pointer p, .slice (some ⟨blk, 0, none⟩) l c], T.strings_Builder, true⟩] w2 ∧ K (.string s0) w2) w1 := by
      intro w1 pp g1 hpp
      by_cases hbs : bs = []
      · subst hbs
        subst hlen
        exact rn_run (run_unsafeString_none w1 _ _ _ _) ⟨_, rfl, fin _ g1, hK _ (g0' g1)⟩
      · obtain ⟨rfl, rfl⟩ := hpp hbs
        subst hlen
        have g2 : Chg (blkOf (some ⟨blk, 0, none⟩)) w1 (w1.freeze ⟨blk, 0, none⟩ bs.length) := (freeze_chg w1 ⟨blk, 0, none⟩ bs.length).mono fun k _ e => ⟨_, rfl, e⟩
        refine rn_run (run_unsafeString_row w1 T.p_uint8 T.int T.string T.uint8 u_pu8 c_u8 blk cs.size (shape_blk hb) bs hbs ?_ ?_ ?_) ⟨_, rfl, fin _ g2, hK _ (g0' g2)⟩
        · simp only [List.length_map] at h3; omega
        · simp only [List.length_map] at h3; omega
        · intro j x hj
          have hjl : j < bs.length := by
            rcases Nat.lt_or_ge j bs.length with hl | hl
            · exact hl
            · simp [List.getElem?_eq_none hl] at hj
          rw [add_mk, cell_blk hb, h4 j (by simpa using hjl), List.getElem?_map, hj]; rfl
    by_cases hc : c = 0
    · subst hc
      have hbs : bs = [] := List.eq_nil_of_length_eq_zero (by have := h.cap; omega)
      refine rn_run (run_unsafeSliceData_zero w0 _ _ T.uint8 u_pu8 ⟨blk, 0, none⟩ l _ (shape_blk hb)) ⟨_, rfl, fin _ (Grow.chg (Chg.alloc w0 _)), ?_⟩
      exact hS2 _ _ (Grow.chg (Chg.alloc w0 _)) fun h => absurd hbs h
    · refine rn_run (run_unsafeSliceData_row w0 _ _ ⟨blk, 0, none⟩ l c hc) ⟨_, rfl, h0.reset, ?_⟩
      exact hS2 w0 _ (.refl _ _) fun _ => ⟨rfl, rfl⟩
end Go.Vc

/-! A part of the proof that two events of one line are one event: the calculus that follows known memory by computing, and its soundness. By an AI agent. -/



namespace Go.Vc
open Go
section
variable {S : Nat → Prop} {w0 wp w : World} {M : List Nat} {L : List Blk}
theorem Fr.modL (h : Fr S w0 wp M L w) {w' : World} {S' : Nat → Prop} (g : Chg S' w w') (L' : List Blk) (hb : L'.map (·.b) = L.map (·.b))
    (hx : ∀ x, x ∈ L' → (x ∈ L ∧ ¬ S' x.b) ∨ (w'.heap[x.b]? = some (.cells x.cs x.T (0, 0)) ∧ ∃ y, y ∈ L ∧ y.b = x.b ∧ y.wr = true)) (hs : ∀ k, k < w0.heap.size → S' k → S k) : Fs S w0 L' w' :=
  ⟨h.chg.trans g hs, .refl _ _, fun x hx' => by
    rcases hx x hx' with ⟨h1, h2⟩ | ⟨h1, _⟩
    · exact g.get (h.loc x h1) h2
    · exact h1, by rw [hb]; exact h.nodup, fun x hx' hw => by
    rcases hx x hx' with ⟨h1, _⟩ | ⟨_, y, hy, e, hyw⟩
    · exact h.new x h1 hw
    · rw [← e]; exact h.new y hy hyw⟩
end
/-! ## shards: contracts -/
theorem sshort_spec {n : Nat} (hn : n ≤ 72057594037927935) {w : World} {K : Value → World → Prop} (hK : ∀ w', Grow w w' → K (.string (str (putShort n))) w') : CallV PR F.shard_short ⟨[.int .i64 (n : Int)]⟩ w K :=
  shard_short n S0 K w (PutShort_spec (by omega) fun w1 g1 => ⟨_, _, rfl, (Fr.init _ w).after g1, hK w1 g1⟩)
theorem marks_succ (k : Nat) : marksN (k + 1) = if k % 8 = 0 then marksN k + 1 else marksN k := by
  unfold marksN; split <;> omega
theorem marks_at {k : Nat} (h : k % 8 = 0) : marksN k * 8 = k := by unfold marksN; omega
theorem rowsB_len {nodes first : Int} {R : Nat → List Int} {many : Nat} (hn : nodes ≤ 4096) (hf : 0 ≤ first) (hm : first + many ≤ nodes) (hR : ∀ j, j < many → okRow nodes (R j)) {k : Nat} (hk : k ≤ many) : (rowsB first R k).length ≤ 163840000 := by
  have := cat_len (fun j => gapL (first + j) (R j)) 40000 k fun i hi => gapL_len hn (by omega) (by omega) (hR i (by omega))
  have h2 : k * 40000 ≤ 4096 * 40000 := Nat.mul_le_mul_right _ (by omega)
  unfold rowsB; omega
theorem indexB_len {nodes first : Int} {R : Nat → List Int} {many : Nat} (hn : nodes ≤ 4096) (hf : 0 ≤ first) (hm : first + many ≤ nodes) (hR : ∀ j, j < many → okRow nodes (R j)) {k : Nat} (hk : k ≤ marksN many) : (indexB first R k).length ≤ 4200 := by
  have := cat_len (fun j => putShort (rowsB first R (j * 8)).length) 8 k fun i hi => putShort_le8 (by
    have := rowsB_len hn hf hm hR (k := i * 8) (by unfold marksN at hk; omega); omega)
  unfold indexB; unfold marksN at hk; omega
theorem laid_spec {w : World} {b nodes : Nat} {B Tg : List Int} (h : CsrAt w b nodes B Tg) (hL : CsrL nodes B Tg) (hn : nodes ≤ 4096) {first many : Nat} (hm : first + many ≤ nodes) {K : Value → World → Prop}
    (hK : ∀ w', Grow w w' → K (.tuple #[.string (str (indexB first (fun j => rowOf B Tg (first + j)) (marksN many))), .string (str (rowsB first (fun j => rowOf B Tg (first + j)) many))]) w') :
    CallV PR F.shard_laid ⟨[.pointer (some ⟨b, 0, none⟩), .int .i64 first, .int .i64 many]⟩ w K := by
  generalize hRdef : (fun j => rowOf B Tg (first + j)) = R at hK
  have hR : ∀ j, j < many → okRow nodes (R j) := fun j hj => by rw [← hRdef]; exact hL.row _ (by omega)
  refine shard_laid' _ first many S0 K w ?_
  intro b0 hb0 b1 hb1 w0 hF0
  have k0 := hF0.blk 0 rfl
  have k1 := hF0.blk 1 rfl
  have hlt0 : b0 < w0.heap.size := heap_lt k0
  have hlt1 : b1 < w0.heap.size := heap_lt k1
  have hne : b0 ≠ b1 := by
    have := hF0.nodup
    simp at this; exact this
  refine ⟨fun v p0 q0 l0 c0 p1 q1 l1 c1 m w' => ∃ k : Nat, v = first + k ∧ k ≤ many ∧ m = many - k ∧ BldP w' b0 w0.heap.size p0 q0 l0 c0 (indexB first R (marksN k)) ∧ BldP w' b1 w0.heap.size p1 q1 l1 c1 (rowsB first R k) ∧
    (∀ a a', q0 = some a → q1 = some a' → a.block ≠ a'.block) ∧ w0.heap.size ≤ w'.heap.size, ⟨_, 0, by simp, by omega, rfl, .new k0 hlt0, .new k1 hlt1, (fun a a' h => by cases h), Nat.le_refl _⟩, ?_⟩
  rintro v p0 q0 l0 c0 p1 q1 l1 c1 D m w1 ⟨k, rfl, hk, rfl, h0, h1, hd, hsz⟩ hF
  have hrl := rowsB_len (nodes := nodes) (first := first) (k := k) (by omega) (by omega) (by omega) hR hk
  have hil := indexB_len (nodes := nodes) (first := first) (k := marksN k) (by omega) (by omega) (by omega) hR (by unfold marksN; omega)
  rw [w64 (n := (first : Int) + many) (by omega) (by omega)]
  refine ⟨fun hlt => ?_, fun hge => ?_⟩
  · have hk' : k < many := by omega
    have hgl := gapL_len (nodes := nodes) (v := first + k) (by omega) (by omega) (by omega) (hR k hk')
    have hev : ((first : Int) + k) = ((first + k : Nat) : Int) := by omega
    -- a row
    have row : ∀ (w5 : World) (p0' q0' : Option Addr) (l0' c0' : Nat), BldP w5 b0 w0.heap.size p0' q0' l0' c0' (indexB first R (marksN (k + 1))) → BldP w5 b1 w0.heap.size p1 q1 l1 c1 (rowsB first R k) → (∀ a a', q0' = some a → q1 = some a' → a.block ≠ a'.block) → w0.heap.size ≤ w5.heap.size →
        Fs S0 w [⟨b0, #[.pointer p0', .slice q0' l0' c0'], T.strings_Builder, true⟩, ⟨b1, #[.pointer p1, .slice q1 l1 c1], T.strings_Builder, true⟩] w5 →
        CallV PR F.p_csr_Csr_Targets #[.pointer (some ⟨b, 0, none⟩), .int .i64 ((first : Int) + k)] w5 (fun v4 w6 => ∃ (q6 : Option Addr) (l10 l11 : Nat) (v5 : Value), v4 = .tuple #[.slice q6 l10 l11, v5] ∧ Fs S0 w [⟨b0, #[.pointer p0', .slice q0' l0' c0'], T.strings_Builder, true⟩, ⟨b1, #[.pointer p1, .slice q1 l1 c1], T.strings_Builder, true⟩] w6 ∧
          CallV PR F.p_csr_Csr_Nodes #[.pointer (some ⟨b, 0, none⟩)] w6 (fun v6 w7 => ∃ n3 : Int, v6 = .int .i64 n3 ∧ Fs S0 w [⟨b0, #[.pointer p0', .slice q0' l0' c0'], T.strings_Builder, true⟩, ⟨b1, #[.pointer p1, .slice q1 l1 c1], T.strings_Builder, true⟩] w7 ∧
            CallV PR F.gap_Put #[.int .i64 n3, .int .i64 ((first : Int) + k), .slice q6 l10 l11] w7 (fun v7 w8 => ∃ (s1 : ByteArray) (v8 : Value), v7 = .tuple #[.string s1, v8] ∧ Fs S0 w [⟨b0, #[.pointer p0', .slice q0' l0' c0'], T.strings_Builder, true⟩, ⟨b1, #[.pointer p1, .slice q1 l1 c1], T.strings_Builder, true⟩] w8 ∧
              CallV PR F.p_strings_Builder_WriteString #[.pointer (some ⟨b1, 0, none⟩), .string s1] w8 (fun v9 w9 => ∃ (n4 : Int) (v10 : Value), v9 = .tuple #[.int .i64 n4, v10] ∧ ∃ (q7 q8 : Option Addr) (l12 l13 : Nat), Fs S0 w [⟨b0, #[.pointer p0', .slice q0' l0' c0'], T.strings_Builder, true⟩, ⟨b1, #[.pointer q7, .slice q8 l12 l13], T.strings_Builder, true⟩] w9 ∧
                ∃ l14 : Nat, l14 < many - k ∧ ∃ k' : Nat, IntKind.wrap .i64 ((first : Int) + k + 1) = first + k' ∧ k' ≤ many ∧ l14 = many - k' ∧ BldP w9 b0 w0.heap.size p0' q0' l0' c0' (indexB first R (marksN k')) ∧ BldP w9 b1 w0.heap.size q7 q8 l12 l13 (rowsB first R k') ∧
                  (∀ a a', q0' = some a → q8 = some a' → a.block ≠ a'.block) ∧ w0.heap.size ≤ w9.heap.size)))) := by
      intro w5 p0' q0' l0' c0' i0 i1 hd' hsz' hF5
      rw [hev]
      refine Targets_spec (h.grow hF5.gr) hL hn (by omega) fun w6 q6 c6 g6 hs6 => ⟨_, _, _, _, rfl, hF5.after g6, ?_⟩
      have hF6 := hF5.after g6
      refine Nodes_spec (h.grow hF6.gr) hn ⟨_, rfl, hF6, ?_⟩
      have er : rowOf B Tg (first + k) = R k := by rw [← hRdef]
      rw [er] at hs6 ⊢
      refine gapPut_spec (by omega) (by omega) (hR k hk') hs6 rfl fun w8 g8 => ⟨_, _, rfl, hF6.after g8, ?_⟩
      have hF8 := hF6.after g8
      have i0 := (i0.grow g6).grow g8
      have i1 := (i1.grow g6).grow g8
      have hsz8 : w0.heap.size ≤ w8.heap.size := by have := g6.size; have := g8.size; omega
      have hl1 := i1.len
      refine WriteString_spec i1 hsz8 (by rw [str_size]; rw [← hev]; omega) fun w9 p' q' l' c' i1' g9 hq9 => ⟨_, _, rfl, p', q', l', c', hF8.modL g9 _ rfl ?_ ?_, many - (k + 1), by omega, k + 1, ?_, by omega, rfl, i0.keep g9 ?_ ?_, ?_, ?_, by have := g9.size; omega⟩
      · intro x hx
        rcases List.mem_cons.1 hx with rfl | hx
        · refine .inl ⟨List.mem_cons_self, ?_⟩
          rintro (e | ⟨a, ha, e⟩)
          · exact hne e
          · have := i1.off.le a ha; simp only [] at e; omega
        · simp at hx; subst hx
          exact .inr ⟨i1'.blk, _, List.mem_cons_of_mem _ List.mem_cons_self, rfl, rfl⟩
      · rintro j hj (e | ⟨a, ha, e⟩)
        · omega
        · have := i1.off.le a ha; have := hF0.chg.size; omega
      · rw [w64 (by omega) (by omega)]; omega
      · rintro (e | ⟨a, ha, e⟩)
        · exact hne e
        · have := i1.off.le a ha; omega
      · rintro a ha (e | ⟨a', ha', e⟩)
        · have := i0.off.le a ha; omega
        · exact hd' a a' ha ha' e
      · have : rowsB first R (k + 1) = rowsB first R k ++ gapL (first + k) (R k) := rfl
        rw [this, hev]
        rw [str_data] at i1'
        exact i1'
      · intro a a' ha ha'
        rcases hq9 a' ha' with e | e
        · exact hd' a a' ha e
        · have := i0.own.lt a ha; omega
    rw [w64 (n := (first : Int) + k - first) (by omega) (by omega), show ((first : Int) + k - first) = k by omega, Int.tmod_eq_emod_of_nonneg (by omega)]
    refine ⟨fun he => ?_, fun he => ?_⟩
    · have he' : k % 8 = 0 := by omega
      refine Len_spec h1 ⟨_, rfl, hF, ?_⟩
      refine sshort_spec (by omega) fun w3 g3 => ⟨_, rfl, hF.after g3, ?_⟩
      have hF3 := hF.after g3
      have i0 := h0.grow g3
      have i1 := h1.grow g3
      have hsz3 : w0.heap.size ≤ w3.heap.size := by have := g3.size; omega
      have h8 := putShort_le8 (n := (rowsB first R k).length) (by omega)
      have hl0 := i0.len
      refine WriteString_spec i0 hsz3 (by rw [str_size]; omega) fun w5 p' q' l' c' i0' g5 hq5 => ⟨_, _, rfl, p', q', l', c', hF3.modL g5 _ rfl ?_ ?_, row w5 p' q' l' c' ?_ (i1.keep g5 ?_ ?_) ?_ (by have := g5.size; omega) (hF3.modL g5 _ rfl ?_ ?_)⟩
      · intro x hx
        rcases List.mem_cons.1 hx with rfl | hx
        · exact .inr ⟨i0'.blk, _, List.mem_cons_self, rfl, rfl⟩
        · simp at hx; subst hx
          refine .inl ⟨List.mem_cons_of_mem _ List.mem_cons_self, ?_⟩
          rintro (e | ⟨a, ha, e⟩)
          · exact hne e.symm
          · have := i0.off.le a ha; simp only [] at e; omega
      · rintro j hj (e | ⟨a, ha, e⟩)
        · omega
        · have := i0.off.le a ha; have := hF0.chg.size; omega
      · rw [marks_succ, if_pos he']
        have : indexB first R (marksN k + 1) = indexB first R (marksN k) ++ putShort (rowsB first R (marksN k * 8)).length := rfl
        rw [this, marks_at he']
        rw [str_data] at i0'
        exact i0'
      · rintro (e | ⟨a, ha, e⟩)
        · exact hne e.symm
        · have := i0.off.le a ha; omega
      · rintro a ha (e | ⟨a', ha', e⟩)
        · have := i1.off.le a ha; omega
        · exact hd a' a ha' ha e.symm
      · intro a a' ha ha'
        rcases hq5 a ha with e | e
        · exact hd a a' e ha'
        · have := i1.own.lt a' ha'; omega
      · intro x hx
        rcases List.mem_cons.1 hx with rfl | hx
        · exact .inr ⟨i0'.blk, _, List.mem_cons_self, rfl, rfl⟩
        · simp at hx; subst hx
          refine .inl ⟨List.mem_cons_of_mem _ List.mem_cons_self, ?_⟩
          rintro (e | ⟨a, ha, e⟩)
          · exact hne e.symm
          · have := i0.off.le a ha; simp only [] at e; omega
      · rintro j hj (e | ⟨a, ha, e⟩)
        · omega
        · have := i0.off.le a ha; have := hF0.chg.size; omega
    · have he' : ¬ k % 8 = 0 := by omega
      refine row w1 p0 q0 l0 c0 ?_ h1 hd hsz hF
      rw [marks_succ, if_neg he']; exact h0
  · have e : k = many := by omega
    subst e
    refine String_spec h0 fun w2 g2 => ⟨_, rfl, ?_, ?_⟩
    · refine hF.step g2 (fun x hx ⟨a, ha, e⟩ => ?_) fun j hj ⟨a, ha, e⟩ => ?_
      · have := h0.off.le a ha
        rcases List.mem_cons.1 hx with rfl | hx
        · simp only [] at e; omega
        · simp at hx; subst hx; simp only [] at e; omega
      · have := h0.off.le a ha; have := hF0.chg.size; omega
    · have h1' : BldP w2 b1 w0.heap.size p1 q1 l1 c1 (rowsB first R k) := h1.keep g2 (fun ⟨a, ha, e⟩ => by have := h0.off.le a ha; omega) (fun a ha ⟨a', ha', e⟩ => hd a' a ha' ha e.symm)
      have hF2 : Fs S0 w [⟨b0, #[.pointer p0, .slice q0 l0 c0], T.strings_Builder, true⟩, ⟨b1, #[.pointer p1, .slice q1 l1 c1], T.strings_Builder, true⟩] w2 := hF.step g2 (fun x hx ⟨a, ha, e⟩ => by
        have := h0.off.le a ha
        rcases List.mem_cons.1 hx with rfl | hx
        · simp only [] at e; omega
        · simp at hx; subst hx; simp only [] at e; omega) fun j hj ⟨a, ha, e⟩ => by
        have := h0.off.le a ha; have := hF0.chg.size; omega
      refine String_spec h1' fun w3 g3 => ?_
      have hF3 : Fs S0 w [⟨b0, #[.pointer p0, .slice q0 l0 c0], T.strings_Builder, true⟩, ⟨b1, #[.pointer p1, .slice q1 l1 c1], T.strings_Builder, true⟩] w3 := hF2.step g3 (fun x hx ⟨a, ha, e⟩ => by
        have := h1'.off.le a ha
        rcases List.mem_cons.1 hx with rfl | hx
        · simp only [] at e; omega
        · simp at hx; subst hx; simp only [] at e; omega) fun j hj ⟨a, ha, e⟩ => by
        have := h1'.off.le a ha; have := hF0.chg.size; omega
      exact ⟨_, rfl, hF3, hK w3 hF3.chg⟩
end Go.Vc

/-! A part of the proof that two events of one line are one event: the calculus that follows known memory by computing, and its soundness. By an AI agent. -/

namespace Go.Vc
open Go
/-! ## shards: what was put is read -/
def Dj (q r : Option Addr) : Prop := ∀ a a', q = some a → r = some a' → a.block ≠ a'.block
theorem Dj.none (r : Option Addr) : Dj Option.none r := fun a a' h => by cases h
theorem Dj.none' (r : Option Addr) : Dj r Option.none := fun a a' _ h => by cases h
theorem Dj.symm {q r : Option Addr} (h : Dj q r) : Dj r q := fun a a' h1 h2 => (h a' a h2 h1).symm
theorem Dj.next {q q' r : Option Addr} {n : Nat} (h : Dj q r) (hq : ∀ a, q' = some a → q = some a ∨ a = ⟨n, 0, Option.none⟩) (hr : ∀ a, r = some a → a.block < n) : Dj q' r := fun a a' h1 h2 => by
  rcases hq a h1 with e | e
  · exact h a a' e h2
  · subst e; have := hr a' h2; simp only []; omega
theorem Dj.off {q r : Option Addr} (h : Dj q r) : Off (blkOf q) r := fun a ha ⟨a', ha', e⟩ => h a' a ha' ha e.symm
theorem marks_spec {first many at_ : Int} (h0 : 0 ≤ many ∧ many ≤ 4096) {w : World} {K : Value → World → Prop} (hK : ∀ w', Grow w w' → K (.int .i64 (marksN many.toNat)) w') : CallV PR F.shard_head_marks ⟨[.agg #[.int .i64 first, .int .i64 many, .int .i64 at_]]⟩ w K := by
  refine shard_head_marks first many at_ S0 K w fun b hb w0 h0' => ?_
  rw [w64 (n := many + 8) (by omega) (by omega), w64 (n := many + 8 - 1) (by omega) (by omega), Int.tdiv_eq_ediv_of_nonneg (by omega), w64 (by omega) (by omega)]
  have : (many + 8 - 1) / 8 = ((marksN many.toNat : Nat) : Int) := by unfold marksN; omega
  rw [this]; exact hK w0 h0'.chg
theorem heads_put {s : ByteArray} {nodes : Int} {first many : Nat} {r : List UInt8} (hn : nodes ≤ 4096) (hm : (first : Int) + many ≤ nodes) (h1 : 1 ≤ many) (hs : s.size ≤ 4611686018427387904) (hd : s.data.toList = putShort first ++ (putShort many ++ r)) {w : World} {K : Value → World → Prop}
    (hK : ∀ w', Grow w w' → K (.tuple #[.agg #[.int .i64 first, .int .i64 many, .int .i64 ((putShort first).length + (putShort many).length : Nat)], .nilIface]) w') : CallV PR F.shard_heads ⟨[.string s, .int .i64 nodes]⟩ w K := by
  refine shard_heads s nodes S0 K w fun b hb => ⟨fun h => by omega, fun _ => ⟨fun h => by omega, fun _ w2 hF2 => ?_⟩⟩
  refine Short_put (at_ := 0) (n := first) hs (by omega) (by simpa using hd) (by omega) fun _ _ => ⟨_, _, _, rfl, hF2.reset, fun _ => ?_, (fun t x h => by cases h), .inl rfl⟩
  refine Short_put (n := many) hs (by omega) (r := r) (by rw [show ((0 : Int) + (putShort first).length).toNat = (putShort first).length by omega, hd, List.drop_left' rfl]) (by omega) fun _ _ => ⟨_, _, _, rfl, hF2.reset, fun _ => ?_, (fun t x h => by cases h), .inl rfl⟩
  rw [w64 (n := nodes - first) (by omega) (by omega)]
  refine ⟨fun h => by omega, fun _ => ⟨fun h => by omega, fun _ => ⟨fun h => by omega, fun _ w11 h11 => ?_⟩⟩⟩
  have e : (0 : Int) + (putShort first).length + (putShort many).length = (((putShort first).length + (putShort many).length : Nat) : Int) := by omega
  rw [e]; exact hK w11 h11.chg
/-- the numbers of an index -/
def marksL (f : Nat → Nat) (n : Nat) : List Int := (List.range n).map fun i => ((f i : Nat) : Int)
theorem marksL_succ (f : Nat → Nat) (n : Nat) : marksL f (n + 1) = marksL f n ++ [((f n : Nat) : Int)] := by simp [marksL, List.range_succ]
theorem marksL_len (f : Nat → Nat) (n : Nat) : (marksL f n).length = n := by simp [marksL]
theorem marksL_at (f : Nat → Nat) {n i : Nat} (h : i < n) : (marksL f n).getD i 0 = f i := by simp [marksL, h]
theorem index_put {s : ByteArray} {first many at_ : Int} {f : Nat → Nat} {n : Nat} {r : List UInt8} (hs : s.size ≤ 4611686018427387904) (hn : n ≤ 4096) (hf : ∀ i, i < n → f i ≤ 72057594037927935) (ha : 0 ≤ at_) (hd : s.data.toList.drop at_.toNat = cat (fun i => putShort (f i)) n ++ r) (hat : at_ ≤ s.size)
    {w : World} {K : Value → World → Prop}
    (hK : ∀ w' q c q2 n2 c2, Grow w w' → Sl w' q ((marksL f n).map iv) → n2 = n → K (.tuple #[.slice q n c, .slice q2 n2 c2, .int .i64 (at_ + (cat (fun i => putShort (f i)) n).length), .nilIface]) w') :
    CallV PR F.shard_head_index ⟨[.agg #[.int .i64 first, .int .i64 many, .int .i64 at_], .string s, .int .i64 n]⟩ w K := by
  refine shard_head_index first many at_ s n S0 K w fun b hb w0 hF0 => ?_
  refine ⟨fun q l c q2 l2 c2 p i m w' => ∃ (k : Nat) (pl : List Int), i = k ∧ k ≤ n ∧ m = n - k ∧ p = at_ + (cat (fun i => putShort (f i)) k).length ∧ Own T.int 1 w' q c ((marksL f k).map iv) ∧ k = l ∧ l ≤ c ∧ Own T.int 1 w' q2 c2 (pl.map iv) ∧ pl.length = k ∧ k = l2 ∧ l2 ≤ c2 ∧
    Off (fun j => j < w0.heap.size) q ∧ Off (fun j => j < w0.heap.size) q2 ∧ Dj q q2 ∧ w0.heap.size ≤ w'.heap.size ∧ p ≤ s.size, ⟨_, 0, [], rfl, by omega, rfl, by simp [cat], .nil _ _ _, rfl, Nat.le_refl _, .nil _ _ _, rfl, rfl, Nat.le_refl _, .none _, .none _, .none _, Nat.le_refl _, hat⟩, ?_⟩
  rintro q l c q2 l2 c2 p i D m w1 ⟨k, pl, rfl, hk, rfl, rfl, ho, rfl, hlc, ho2, hpl, rfl, hlc2, hof, hof2, hdj, hsz, hp⟩ hF
  refine ⟨fun hlt => ?_, fun hge => ?_⟩
  · have hk' : k < n := by omega
    obtain ⟨r', hsp⟩ := cat_split (fun i => putShort (f i)) hk'
    have hdk : s.data.toList.drop (at_ + (cat (fun i => putShort (f i)) k).length).toNat = putShort (f k) ++ (r' ++ r) := by
      have e0 : s.data.toList.drop at_.toNat = cat (fun i => putShort (f i)) k ++ (putShort (f k) ++ (r' ++ r)) := by rw [hd, hsp]; simp [List.append_assoc]
      rw [show (at_ + (cat (fun i => putShort (f i)) k).length).toNat = at_.toNat + (cat (fun i => putShort (f i)) k).length by omega, ← List.drop_drop, e0, List.drop_left' rfl]
    refine Short_put hs (by omega) hdk (hf k hk') fun _ hle => ⟨_, _, _, rfl, hF, fun _ => ?_, (fun t x h => by cases h), .inl rfl⟩
    intro b1 hb1 w3 hF3
    refine app_iv (ho.grow hF3.grow) (by rw [marksL_len]) hlc (ys := [((f k : Nat) : Int)]) (hF3.sl 0 rfl) rfl (by omega) fun q' c' w4 ho4 hc4 g4 hq4 => ?_
    have hF4 := hF3.app2 g4 w0.heap.size w1.heap.size hof (fun a ha => ho.lt a ha) (fun y hy => by simp at hy; subst hy; exact .inr hb1) hF0.chg.size
    refine ⟨_, _, _, rfl, hF4, fun b2 hb2 w5 hF5 => ?_⟩
    have ho2' : Own T.int 1 w4 q2 c2 (pl.map iv) := (ho2.grow hF3.grow).keep g4 hdj.off
    have ho4' := ho4.grow hF5.grow
    have hs3 : w1.heap.size ≤ w3.heap.size := hF3.grow.size
    refine app_iv (ho2'.grow hF5.grow) (by rw [hpl]) hlc2 (ys := [at_ + ((cat (fun i => putShort (f i)) k).length : Nat)]) (hF5.sl 1 rfl) rfl (by omega) fun q2' c2' w6 ho6 hc6 g6 hq6 => ?_
    have hF6 := hF5.app2 g6 w0.heap.size w1.heap.size hof2 (fun a ha => by have := ho2.lt a ha; omega) (fun y hy => by
      rcases List.mem_cons.1 hy with rfl | hy
      · exact .inr hb1
      · simp at hy; subst hy; exact .inr (by have := g4.size; simp only []; omega)) hF0.chg.size
    have hdj4 : Dj q' q2 := hdj.next hq4 (fun a ha => by have := ho2.lt a ha; omega)
    have hdj6 : Dj q2' q' := hdj4.symm.next hq6 (fun a ha => ho4'.lt a ha)
    refine ⟨_, _, _, rfl, hF6, n - (k + 1), by omega, k + 1, _, wr1 (by omega), by omega, rfl, ?_, ?_, rfl, hc4, ho6, by simp [hpl], rfl, hc6, hof.next hq4 (by omega), hof2.next hq6 (by have := g4.size; have := hF5.grow.size; omega), hdj6.symm, by have := g4.size; have := hF5.grow.size; have := g6.size; omega, hle⟩
    · rw [cat, List.length_append]; omega
    · rw [marksL_succ]; exact ho4'.keep g6 hdj4.symm.off
  · have e : k = n := by omega
    subst e
    exact hK w1 q c q2 k c2 hF.gr ho.sl rfl
theorem u_rows : PR.underlying T.sl_sl_int = some (.slice T.sl_int) := by kernel_rfl
theorem t_rows : tyI T.sl_int 1 24 (.slice none 0 0) := by
  have h : (match PR.info? T.sl_int with | some i => i.size == 1 && i.bytes == 24 && (match i.zero with | some (.slice none 0 0) => true | _ => false) | none => false) = true := by kernel_rfl
  split at h
  · rename_i i hi
    simp only [Bool.and_eq_true, beq_iff_eq] at h
    refine ⟨i, hi, h.1.1, h.1.2, ?_⟩
    have h2 := h.2
    split at h2
    · assumption
    · cases h2
  · cases h
end Go.Vc
