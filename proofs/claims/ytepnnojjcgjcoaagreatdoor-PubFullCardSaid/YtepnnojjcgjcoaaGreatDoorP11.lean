/-
  A part of the proof of the statement PubFullCardSaid, in Lean: Fu2, RoF. By an AI agent.
-/
import Derived.Test.YtepnnojjcgjcoaaGreatDoorP10
set_option linter.unusedSimpArgs false
set_option linter.unusedVariables false
set_option maxRecDepth 1000000
/-! A part of the proof that two events of one line are one event: the calculus that follows known memory by computing, and its soundness. By an AI agent. -/

namespace Go.Vc
open Go Go.MapKept
/-! ## the law of room: the walk -/
def u16v (n : Int) : Value := .int .u16 n
theorem tmodN {a b : Int} (h : 0 ≤ a) : Int.tmod a b = a % b := Int.tmod_eq_emod_of_nonneg h
theorem PubFull_spec {w : World} (hE : ErrT w) {y : Option Addr} {n c : Nat} {ns : List Int} {each : Int} (hs : Sl w y (ns.map u16v)) (hr : ∀ n ∈ ns, 0 ≤ n ∧ n < 65536) (hl : n = ns.length) {K : Value → World → Prop} (hK : ∀ w', Grow w w' → K (.bool true) w') :
    CallV PR F.ladinglaw22_PubFull ⟨[.slice y n c, .int .i64 each]⟩ w K := by
  subst hl
  have h0 : Fs S0 w [] w := Fr.init _ w
  refine ladinglaw22_PubFull y ns.length c each S0 K w (awake22_spec fun w1 g1 => ⟨true, rfl, (fun _ => ⟨h0.after g1, fun _ => hK w1 g1, fun hle => ?_⟩), fun h => by cases h⟩)
  have hF1 := h0.after g1
  refine DNew_spec fun w2 bd g2 hbd hd => ⟨_, rfl, hF1.after g2, ?_⟩
  have hF2 := hF1.after g2
  by_cases hea : each < 1 ∨ 4096 < each
  · have bad : ((none : Option Addr) = none → CallV PR F.api_Code #[E1] w2 (fun v4 w3 => ∃ n0 : Int, v4 = .int .i64 n0 ∧ Fs S0 w [] w3 ∧ (n0 = 1 → K (.bool true) w3) ∧ (¬ (n0 = 1) → K (.bool false) w3))) ∧ ∀ a0 : Addr, (none : Option Addr) = some a0 → K (.bool false) w2 :=
      ⟨fun _ => Code1 (hE.grow hF2.gr) fun w3 g3 => ⟨_, rfl, hF2.after g3, fun _ => hK w3 (hF2.after g3).gr, fun h => absurd rfl h⟩, fun a h => by cases h⟩
    refine OpenE_spec hea ⟨_, _, rfl, hF2, fun _ => bad, fun h1 => ⟨fun _ => bad, fun h4 => by omega⟩⟩
  obtain ⟨e, rfl⟩ := Int.eq_ofNat_of_zero_le (a := each) (by omega)
  have s12 := hF2.gr.size
  refine Open0_spec (N := w.heap.size) (each := e) hd (by have := g1.size; omega) s12 (by omega) (by omega) fun w3 x0 g3 hx0 e1 e2 e3 e4 e5 hp => ⟨_, _, rfl, hF2.after g3, fun h => by omega, fun _ => ⟨fun h => by omega, fun _ => ⟨fun _ => ?_, (fun t x h => by cases h), .inl rfl⟩⟩⟩
  have hF3 := hF2.after g3
  have hroom0 : x0.room = 200000 := by unfold PubS.room; rw [e5]; rfl
  refine Room_spec hx0 ⟨_, rfl, hF3, fun _ => ?_, fun hne => absurd (by rw [hroom0]; rfl) hne⟩
  have step : ∀ {wa wb : World} {x : PubS}, Fs S0 w [] wa → PubAt w.heap.size wa x → Chg x.reg wa wb → Fs S0 w [] wb := fun hF hx g => hF.step g (fun y hy => by cases hy) fun k hk e => by have := hx.lo k e; omega
  refine ⟨fun last i m w' => ∃ (k : Nat) (x : PubS), last = x.last ∧ i = k ∧ k ≤ ns.length ∧ m = ns.length - k ∧ PubAt w.heap.size w' x ∧ x.p = x0.p ∧ x.each = e, ⟨_, 0, x0, by rw [e3]; rfl, rfl, by omega, rfl, hx0, rfl, e2⟩, ?_⟩
  rintro last i D m w4 ⟨k, x, rfl, rfl, hk, rfl, hx, ep, ee⟩ hF4
  rw [← ep]
  have next : ((k : Int) + 1) = ((k + 1 : Nat) : Int) := by omega
  have wn : IntKind.wrap .i64 ((k : Int) + 1) = ((k + 1 : Nat) : Int) := by rw [w64 (by omega) (by omega)]; exact next
  obtain ⟨hsm1, hsm2, hsm3⟩ := hx.small
  have wl : IntKind.wrap .i64 ((x.last : Int) + 1) = ((x.last + 1 : Nat) : Int) := by rw [w64 (by omega) (by omega)]; omega
  refine ⟨fun hlt => ?_, fun hge => ?_⟩
  · have hk' : k < ns.length := by omega
    have hnr := hr _ (List.getElem_mem hk')
    refine (hs.grow hF4.gr).rd (v := u16v ns[k]) (by simp) (by omega) (by simp [hk']) fun a ha => ⟨_, ha, ?_⟩
    generalize ns[k] = nk at hnr ha
    have wT : Int.tmod (IntKind.wrap .i64 nk) 4000 = ((nk.toNat % 4000 : Nat) : Int) := by
      rw [w64 (by omega) (by omega), tmodN hnr.1]; omega
    rw [wT]
    have hT : nk.toNat % 4000 < 4000 := Nat.mod_lt _ (by decide)
    generalize nk.toNat % 4000 = Q at hT
    refine ⟨fun q l c i m w' => ∃ (j : Nat) (es : List (Int × Int)), i = j ∧ j ≤ Q ∧ m = Q - j ∧ l = es.length ∧ es.length = j ∧ l ≤ c ∧ Own T.api_Edge 2 w' q c (encE es) ∧ Off (fun b => b < w4.heap.size) q ∧ (∀ z ∈ es, 0 ≤ z.1 ∧ z.1 < 500 ∧ 0 ≤ z.2 ∧ z.2 < 500) ∧ Grow w4 w', ⟨_, 0, [], rfl, by omega, rfl, rfl, rfl, Nat.le_refl _, .nil _ _ _, .none _, (fun z hz => by cases hz), .refl _ _⟩, ?_⟩
    rintro q l c i D1 m w5 ⟨j, es, rfl, hj, rfl, rfl, hel, hlc, ho, hof, hes, g45⟩ hF5
    refine ⟨fun hlt2 => ?_, fun hge2 => ?_⟩
    · intro b hb w6 hF6
      have g56 : Grow w5 w6 := hF6.grow
      have v1 : Int.tmod (j : Int) 500 = (j : Int) % 500 := tmodN (by omega)
      have v2 : Int.tmod (IntKind.wrap .i64 (IntKind.wrap .i64 ((j : Int) * 7) + (k : Int))) 500 = ((j : Int) * 7 + k) % 500 := by
        rw [w64 (n := (j : Int) * 7) (by omega) (by omega), w64 (by omega) (by omega), tmodN (by omega)]
      rw [v1, v2] at hF6 ⊢
      refine app_pair u_edges tyI_edge (ho.grow g56) rfl hlc (ys := [((j : Int) % 500, ((j : Int) * 7 + k) % 500)]) (hF6.sl 0 rfl) rfl (by omega) fun q2 c2 w7 ho7 hc7 g7 hq7 => ?_
      have s45 := g45.size
      have hF7 := hF6.app2 g7 w4.heap.size w5.heap.size hof (fun a ha => ho.lt a ha) (fun y hy => by simp at hy; subst hy; exact .inr hb) (by have := hF4.gr.size; omega)
      refine ⟨_, _, _, rfl, hF7, Q - (j + 1), by omega, j + 1, es ++ [((j : Int) % 500, ((j : Int) * 7 + k) % 500)], by rw [w64 (by omega) (by omega)]; rfl, by omega, rfl, by simp, by simp [hel], by simpa using hc7, ho7, hof.next hq7 (by have := g56.size; omega), fun z hz => ?_, (g45.trans g56).own g7 hof⟩
      rcases List.mem_append.1 hz with hz | hz
      · exact hes z hz
      · rw [List.mem_singleton.1 hz]; simp only []; omega
    · have hx5 := hx.grow g45
      refine Room_spec hx5 ⟨_, rfl, hF5, ?_⟩
      obtain ⟨ms, clock, hm, hst, hkey, hsz⟩ := hx5.keys
      refine Kept_spec hx5 hm hst hkey hsz fun w6 q6 c6 g6 => ⟨_, _, _, rfl, hF5.after g6, ?_⟩
      have hF6 := hF5.after g6
      have hx6 := hx5.grow g6
      have hgood : goodG 500 es := ⟨by decide, by decide, by omega, hes⟩
      refine Publish_full hx6 hF6.gr.size (ho.sl.grow g6) rfl (by omega) (fun w7 x7 mn list hok hrecs hman hx7 g7 f1 f2 f3 f4 f5 f6 fr fx f7 f8 => ?_) fun w7 v cc g7 hx7 hv herr hno => ?_
      · have hF7 := step hF6 hx6 g7
        refine ⟨_, _, rfl, hF7, Code0 fun w8 g8 => ⟨_, rfl, hF7.after g8, fun _ => ⟨fun _ => ?_, fun hne => absurd (by rw [wl, f4]) hne⟩, fun hne => absurd rfl hne⟩⟩
        have hx8 := hx7.grow g8
        have hF8 := hF7.after g8
        rw [wl, wn, ← f1]
        refine Room_spec hx8 ⟨_, rfl, hF8, fun h => by omega, fun _ => Room_spec hx8 ⟨_, rfl, hF8, fun h => by omega, fun _ => ⟨ns.length - (k + 1), by omega, k + 1, x7, by rw [f4], rfl, by omega, rfl, hx8, by rw [f1, ep], by rw [f3, ee]⟩⟩⟩
      · have hF7 := hF6.after g7
        have hc : cc = 7 ∨ cc = 6 := by
          rcases herr with h | ⟨h, _⟩
          · rcases h with ⟨h, hn⟩ | ⟨h, _⟩ | ⟨h, _⟩
            · exact absurd hgood hn
            · exact .inr h
            · exact .inl h
          · exact .inl h
        refine ⟨_, _, rfl, hF7, CodeC (hE.grow hF7.gr) hv (by omega) fun w8 g8 => ⟨_, rfl, hF7.after g8, fun h => by omega, fun _ => ?_⟩⟩
        have hF8 := hF7.after g8
        have hx8 := hx7.grow g8
        have hm8 := Grow.get ((g6.trans g7).trans g8) hm
        have fin : ∀ {last : Int} {len : Nat}, last = x.last → len = ms.size → (0 : Int) = 0 → CallV PR F.p_pub_Pub_Room #[.pointer (some ⟨x.p, 0, none⟩)] w8 (fun v15 w16 => ∃ n12 : Int, v15 = .int .i64 n12 ∧ Fs S0 w [] w16 ∧ (n12 = (x.room : Nat) → CallV PR F.p_pub_Pub_Kept #[.pointer (some ⟨x.p, 0, none⟩)] w16 (fun v16 w17 => ∃ q5 : Option Addr, ∃ l13 l14 : Nat, v16 = .slice q5 l13 l14 ∧ Fs S0 w [] w17 ∧ (((l13 : Nat) : Int) = ((len : Nat) : Int) → CallV PR F.p_pub_Pub_Last #[.pointer (some ⟨x.p, 0, none⟩)] w17 (fun v17 w18 => ∃ n13 : Int, v17 = .int .i64 n13 ∧ Fs S0 w [] w18 ∧ (n13 = last → ∃ l15 : Nat, l15 < ns.length - k ∧ ∃ (k' : Nat) (x' : PubS), last = x'.last ∧ IntKind.wrap .i64 ((k : Int) + 1) = k' ∧ k' ≤ ns.length ∧ l15 = ns.length - k' ∧ PubAt w.heap.size w18 x' ∧ x'.p = x.p ∧ x'.each = e) ∧ (¬ (n13 = last) → K (.bool false) w18))) ∧ (¬ (((l13 : Nat) : Int) = ((len : Nat) : Int)) → K (.bool false) w17))) ∧ (¬ (n12 = (x.room : Nat)) → K (.bool false) w16)) := by
          rintro last len rfl rfl _
          refine Room_spec hx8 ⟨_, rfl, hF8, fun _ => Kept_spec hx8 hm8 hst hkey hsz fun w9 q9 c9 g9 => ⟨_, _, _, rfl, hF8.after g9, fun _ => Last_spec (hx8.grow g9) ⟨_, rfl, hF8.after g9, fun _ => ⟨ns.length - (k + 1), by omega, k + 1, x, rfl, wn, by omega, rfl, hx8.grow g9, rfl, ee⟩, fun hne => absurd rfl hne⟩, fun hne => absurd rfl hne⟩, fun hne => absurd rfl hne⟩
        rcases hc with rfl | rfl
        · exact ⟨fun _ => ⟨fun _ => fin rfl rfl rfl, fun h => absurd rfl h⟩, fun h => absurd rfl h⟩
        · exact ⟨fun h => by omega, fun _ => ⟨fun _ => ⟨fun _ => fin rfl rfl rfl, fun h => absurd rfl h⟩, fun h => absurd rfl h⟩⟩
  · refine PublishN ⟨_, _, rfl, hF4, ManifestN fun w5 g5 => ⟨_, _, _, _, _, _, _, _, _, rfl, hF4.after g5, fun l5 hl5 w6 hF6 => ?_⟩⟩
    have hF6' := (hF6.unM hl5).reset
    refine BlockN fun w7 g7 => ⟨_, _, _, _, _, _, _, _, rfl, hF6'.after g7, fun l7 hl7 w8 hF8 => ?_⟩
    have hF8' := (hF8.unM hl7).reset
    refine OfferN fun w9 g9 => ⟨_, _, _, _, _, _, _, _, rfl, hF8'.after g9, fun l9 hl9 w10 hF10 => ?_⟩
    have hF10' := (hF10.unM hl9).reset
    refine GraphN fun w11 g11 => ⟨_, _, rfl, hF10'.after g11, fun _ => ?_, fun a h => by cases h⟩
    have hFa := hF10'.after g11
    refine Code1 (hE.grow hFa.gr) fun w12 g12 => ⟨_, rfl, hFa.after g12, fun _ => ?_, fun h => absurd rfl h⟩
    have hFb := hFa.after g12
    refine Code1 (hE.grow hFb.gr) fun w13 g13 => ⟨_, rfl, hFb.after g13, fun _ => ?_, fun h => absurd rfl h⟩
    have hFc := hFb.after g13
    refine Code1 (hE.grow hFc.gr) fun w14 g14 => ⟨_, rfl, hFc.after g14, fun _ => ?_, fun h => absurd rfl h⟩
    have hFd := hFc.after g14
    refine Code1 (hE.grow hFd.gr) fun w15 g15 => ⟨_, rfl, hFd.after g15, fun _ => ?_, fun h => absurd rfl h⟩
    have hFe := hFd.after g15
    refine Code1 (hE.grow hFe.gr) fun w16 g16 => ⟨_, rfl, hFe.after g16, fun _ => ?_, fun h => absurd rfl h⟩
    have hFf := hFe.after g16
    refine CommitN ⟨_, rfl, hFf, Code1 (hE.grow hFf.gr) fun w17 g17 => ⟨_, rfl, hFf.after g17, fun _ => ?_, fun h => absurd rfl h⟩⟩
    have hFg := hFf.after g17
    exact LastN ⟨_, rfl, hFg, CommittedN ⟨_, rfl, hFg, RoomN ⟨_, rfl, hFg, KeptN ⟨_, _, _, rfl, hFg, fun _ => hK w17 hFg.gr, fun h => absurd (by decide) h⟩⟩⟩⟩
end Go.Vc

/-! A part of the proof that two events of one line are one event: the calculus that follows known memory by computing, and its soundness. By an AI agent. -/


namespace Go.Vc
open Go Go.ChangeShapes Go.WideShapes Go.ChangeAt Go.RowKit Go.Deep Go.Proofs Go.Proofs.YtepnnojjcgjcoaaGreatDoor
/-! ## PubFull: the row, the card -/
theorem paramsF : Tryz.f5.params = #[T.sl_uint16, T.int] := by kernel_rfl
theorem uSl16 : PR.underlying T.sl_uint16 = some (.slice T.uint16) := by kernel_rfl
theorem u16 : PR.underlying T.uint16 = some (.int .u16) := by kernel_rfl
theorem c16 : PR.cellsOf T.uint16 = 1 := by kernel_rfl
theorem rec16 : PR.readableRec T.sl_uint16 = true := by kernel_rfl
theorem range16 {n : Int} (h : (Lit.int .u16 n).wf = true) : 0 ≤ n ∧ n < 65536 := by
  simp [Lit.wf, IntKind.min, IntKind.max, IntKind.bits, IntKind.signed] at h; omega
section
variable {H : Type} {enc : TypeId × Value → H} {w : World} {base : Nat} {spare : Nat → Bool} {held : Bool}
theorem u16s_of {fuel : Nat} {v : Value} {x : DataW H × List MemPlace} (h : DataW.trod enc PR w base spare held fuel T.sl_uint16 [v] = some x) : ∃ (q : Option Addr) (ns : List Int) (c : Nat), v = .slice q ns.length c ∧ Sl w q (ns.map u16v) ∧ ∀ n ∈ ns, 0 ≤ n ∧ n < 65536 := by
  obtain ⟨q, l, c, h1, h2, h3, _⟩ := slice_of (α := Int) (s := 1) (f := fun n => [u16v n]) (fun _ => rfl) (by decide) uSl16 c16 (G := fun n => 0 ≤ n ∧ n < 65536) (fun n cs x hx hlen => by
    obtain ⟨s, e, _, r⟩ := DataW.trod_int u16 hx
    exact ⟨s, e, range16 r⟩) h
  rw [flat_one] at h2
  exact ⟨q, l, c, h1, h2, h3⟩
end
theorem contractF (H : Type) (enc : TypeId × Value → H) (W : World) (base : Nat) (args : Array Value) (ds gs : List (DataW H)) (before : List MemPlace)
    (hval : ∀ (j : Nat) t v, Tryz.f5.params[j]? = some t → args[j]? = some v → Value.okWide Tryz.prog W .any base t v)
    (hW : DataW.Whole enc Tryz.prog Tryz.f5.params.toList Rows.pubFullSpec.vars false W args.toList ds gs before) (hL : laidMetH Tryz.prog Rows.pubFullRow.laid W) :
    Calls Tryz.prog 5 args W fun e W' => ∃ v, e = .returned v ∧ Rows.pubFullSpec.post enc Tryz.prog Tryz.f5 false true false false W args v W' := by
  have hW' := hW
  obtain ⟨p, q, hA0, hV, rfl, hfz, hnd⟩ := hW
  have hA : DataW.TrodAll enc Tryz.prog W 0 (fun _ => true) true Tryz.f5.params.toList args.toList ds p := hA0
  rw [paramsF] at hA hval
  obtain ⟨v0, v1, d0, d1, p0, p1, rfl, rfl, rfl, h0, h1⟩ := trodAll_two hA
  obtain ⟨rfl, rfl⟩ := trodVars_none hV
  have h0k := h0
  have h1k := h1
  obtain ⟨q0, l0, c0, rfl⟩ := okWide_slice uSl16 (hval 0 _ _ rfl rfl)
  obtain ⟨n, rfl⟩ := okWide_int uInt (hval 1 _ _ rfl rfl)
  obtain ⟨fuel0, hf0⟩ := h0
  obtain ⟨y, ns, c, e, sn, rn⟩ := u16s_of (v := .slice q0 l0 c0) hf0
  cases e
  have hl0 : ∀ x ∈ p0 ++ p1, x.block < W.heap.size := fun x hx => hW'.lt x (by simpa using hx)
  refine PubFull_spec (errT_of hL) sn rn rfl fun W' g => ?_
  have hb := below_of_grow g
  refine post_of_below (pa := p0 ++ (p1 ++ [])) (pv := []) hW' (fun _ _ _ => trodAll_cons_mk (shut_bool uBool _) trodAll_mk0)
    (fun sp hsp => ?_) (fun _ _ => rfl) (by simp) hb (ok_one (by kernel_rfl) rfl (okWide_bool_mk uBool _))
  rw [paramsF]
  have stay : ∀ {t : TypeId} {v : Value} {d : DataW H} {q : List MemPlace}, PR.readableRec t = true → decide (t < PR.types.size) = true → (∀ x ∈ q, x ∈ p0 ++ p1) → DataW.Trod enc PR W 0 (fun _ => true) true t v d q → DataW.Trod enc PR W' 0 sp true t v d q := fun hr hz hq h =>
    WideElems.Trod_stays layG hr (of_decide_eq_true hz) h (fun x hx => hb.same (hl0 x (hq x hx))) (fun x hx => hsp x (by simpa using hq x hx))
  exact trodAll_cons_mk (stay rec16 (by kernel_rfl) (fun x hx => by simp [hx]) h0k) (trodAll_cons_mk (stay (show PR.readableRec T.int = true by kernel_rfl) (by kernel_rfl) (fun x hx => by simp [hx]) h1k) trodAll_mk0)
def zInF : Array Value := #[.slice none 0 0, .int .i64 0]
theorem readsF (os : Os) {H : Type} (enc : TypeId × Value → H) : ∃ places, DataW.whole enc Tryz.prog ((laidWorld os).forCall (fun _ _ => 0) ⟨#[], zInF, []⟩).memory Tryz.f5.params.toList Rows.pubFullSpec.vars false zInF.toList 8 =
    some ([.nil, .lit (.int .i64 0)], [], places) :=
  ⟨[], by kernel_rfl⟩
theorem liftedF (os : Os) (started : os.Started) (H : Type) (enc : TypeId × Value → H) (F : Stop.Interp) :
    ReturnsInHanded {} Tryz.checked os 5 .any ((OpenSpec.ofChange Rows.pubFullSpec).preRow enc Tryz.prog Tryz.f5 Rows.pubFullRow.domain false Rows.pubFullRow.laid) (((OpenSpec.ofChange Rows.pubFullSpec).at F).post enc Tryz.prog Tryz.f5 false true false false) := by
  obtain ⟨places, hx⟩ := readsF os enc
  refine returnsInHanded_of_row (C := Tryz.checked) (s := OpenSpec.ofChange Rows.pubFullSpec) ownG started (by kernel_rfl) Tryz.func5
    (witness_row_atRef (enc := enc) (C := Tryz.checked) false (laidWorld os) zInF rfl (by kernel_rfl) (by kernel_rfl) (by kernel_rfl)
      (OpenSpec.preRow_of_cond 8 hx (by kernel_rfl) (fun k hk => by cases hk) (by kernel_rfl) (laid_met os _))) ?_
  intro W base args ds gs before hval hW _ _ _ hL hsh _
  exact contractF H enc W base args ds gs before hval hW hL
theorem saidF : Rows.PubFullSaid :=
  OpenClaim.holds_of_cond 5 Tryz.f5 rfl rfl rfl rfl rfl rfl rfl ⟨rfl, rfl, rfl, rfl, rfl⟩ rfl rfl rfl rfl rfl (by kernel_rfl) Tryz.func5 (by kernel_rfl)
    (of_decide_eq_true (by kernel_rfl)) (by unfold Func.isWrapper; first | (rw [if_pos (by decide +kernel)]; kernel_rfl) | (rw [if_neg (by decide +kernel)]; exact ⟨rfl, rfl⟩))
    (fun os started H enc _ F => by rw [OpenClaim.pre_eq_preRow]; exact liftedF os started H enc F)
theorem plainF (f : FuncId) (fn : Func) (hf : Tryz.pinned.checked.prog.funcNamed "lading/ladinglaw22.PubFull" = some f) (hfn : Tryz.pinned.checked.prog.funcs[f]? = some fn) :
    true = Tryz.pinned.checked.prog.looks [] ∧ ∀ (j : Nat) t, fn.params[j]? = some t → Tryz.pinned.checked.prog.wantsStandIn t = false := by
  obtain rfl : f = 5 := Option.some.inj ((show Tryz.prog.funcNamed "lading/ladinglaw22.PubFull" = some 5 by kernel_rfl).symm.trans hf) |>.symm
  obtain rfl : fn = Tryz.f5 := (Option.some.inj (Tryz.func5.symm.trans hfn)).symm
  refine ⟨by kernel_rfl, fun j t ht => ?_⟩
  rw [paramsF] at ht
  have ht : t = T.sl_uint16 ∨ t = T.int := by simpa using Array.mem_of_getElem? ht
  rcases ht with rfl | rfl
  · exact (show Tryz.prog.wantsStandIn T.sl_uint16 = false by kernel_rfl)
  · exact (show Tryz.prog.wantsStandIn T.int = false by kernel_rfl)
theorem cardF : Rows.PubFullCardSaid :=
  Claim7.holds_tied_plain_at .later [] _ _ _ _ saidF (fun _ h => by cases h) (by kernel_rfl) (fun _ h => by cases h) pubFull_row_tie rfl ⟨rfl, rfl⟩ (by kernel_rfl) rfl plainF (by kernel_rfl)
end Go.Vc
