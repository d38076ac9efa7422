/-
  What edges.Text answers. By an AI agent.
-/
import Derived.Test.YtfmmpnaljkdigaaGreatDoorLin2
import Derived.Lib.ItoaLen
set_option linter.unusedSimpArgs false
set_option maxRecDepth 100000
set_option linter.unusedVariables false
namespace Go.Vc
open Go
/-! ## a graph's text -/
def i64 (n : Int) : Prop := -9223372036854775808 ≤ n ∧ n ≤ 9223372036854775807
def edgeT (e : Int × Int) : List UInt8 := Lib.itoa e.1 ++ [62] ++ Lib.itoa e.2
def textL (n : Int) (es : List (Int × Int)) : List UInt8 := Lib.join (Lib.itoa n :: es.map edgeT) [32]
theorem strS_app (a b : List UInt8) : str a ++ str b = str (a ++ b) := str_append a b
theorem lens_le (xs : List (List UInt8)) (k : Nat) (h : ∀ x, x ∈ xs → x.length ≤ k) : Lib.lens xs ≤ k * xs.length := by
  induction xs with
  | nil => simp [Lib.lens]
  | cons x xs ih =>
    have h1 := h x List.mem_cons_self
    have h2 := ih fun y hy => h y (List.mem_cons_of_mem _ hy)
    simp only [Lib.lens, List.map_cons, List.sum_cons, List.length_cons] at h2 ⊢
    rw [Nat.mul_succ]; omega
theorem join_le (xs : List (List UInt8)) (sep : List UInt8) (k : Nat) (h : ∀ x, x ∈ xs → x.length ≤ k) : (Lib.join xs sep).length ≤ (k + sep.length) * xs.length := by
  cases xs with
  | nil => simp [Lib.join_nil]
  | cons x xs =>
    rw [Lib.join_length]
    have := lens_le (x :: xs) k h
    simp only [List.length_cons] at this ⊢
    rw [Nat.mul_succ] at this
    rw [Nat.add_mul, Nat.mul_succ, Nat.mul_succ]; omega
theorem edgeT_le {e : Int × Int} (h : i64 e.1 ∧ i64 e.2) : (edgeT e).length ≤ 43 := by
  have := Lib.itoa_length_le e.1 h.1.1 h.1.2
  have := Lib.itoa_length_le e.2 h.2.1 h.2.2
  simp [edgeT]; omega
theorem Text_spec {n : Int} {q : Option Addr} {l c : Nat} {es : List (Int × Int)} {w : World} {K : Value → World → Prop} (ht : Tab w) (hn : i64 n) (hes : ∀ e, e ∈ es → i64 e.1 ∧ i64 e.2) (he : Sl w q (ecs es)) (hl : l = es.length) (hb : l ≤ 100000)
    (hK : ∀ w', Grow w w' → K (.string (str (textL n es))) w') : CallV PR F.edges_Text ⟨[.int .i64 n, .slice q l c]⟩ w K := by
  refine edges_Text n q l c (fun _ => False) K w ?_
  refine Itoa_spec hn.1 hn.2 ht fun w0 g0 => ⟨_, rfl, (Fr.init _ w).after g0, ?_⟩
  intro r0 hr0 w1 h1
  refine ⟨fun x lx cx m k w' => ∃ i : Nat, m = i ∧ i ≤ es.length ∧ k = es.length - i ∧ Own T.string 1 w' x cx ((str (Lib.itoa n) :: (es.take i).map fun e => str (edgeT e)).map sv1) ∧ lx = i + 1 ∧ lx ≤ cx ∧ Off (fun k => k < w.heap.size) x,
    ⟨_, 0, rfl, by omega, rfl, h1.own 0 rfl rfl (by omega), rfl, Nat.le_refl _, .fresh (by have := g0.size; omega)⟩, ?_⟩
  rintro x lx cx m D k w2 ⟨i, rfl, hi, rfl, ho, rfl, hlc, hoff⟩ hF
  refine ⟨fun hlt => ?_, fun hge => ?_⟩
  · have hi' : i < es.length := by omega
    have hei := hes es[i] (List.getElem_mem hi')
    refine (he.grow hF.gr).rd2 hl (by omega) (e := es[i]) (by simp [hi']) fun a ha1 ha2 => ⟨es[i].1, ha1, es[i].2, ha2, ?_⟩
    intro r5 hr5 w3 h3
    have g3 : Grow w2 w3 := h3.stp.mono fun j hj e => by simp at e; omega
    refine Itoa_spec hei.1.1 hei.1.2 (ht.grow h3.gr) fun w4 g4 => ?_
    have h4 := h3.after g4
    have l1 := Lib.itoa_length_le _ hei.1.1 hei.1.2
    have l2 := Lib.itoa_length_le _ hei.2.1 hei.2.2
    refine ⟨_, rfl, h4, by rw [str_size]; omega, ?_⟩
    refine Itoa_spec hei.2.1 hei.2.2 (ht.grow h4.gr) fun w5 g5 => ?_
    have h5 := h4.after g5
    refine ⟨_, rfl, h5, ?_, ?_⟩
    · have e1 : str (Lib.itoa es[i].1) ++ ⟨#[62]⟩ = str (Lib.itoa es[i].1 ++ [62]) := strS_app _ [62]
      rw [e1, str_size, str_size]; simp; omega
    · have e1 : str (Lib.itoa es[i].1) ++ ⟨#[62]⟩ ++ str (Lib.itoa es[i].2) = str (edgeT es[i]) := by
        have : str (Lib.itoa es[i].1) ++ ⟨#[62]⟩ = str (Lib.itoa es[i].1 ++ [62]) := strS_app _ [62]
        rw [this, strS_app]; rfl
      rw [e1]
      intro r6 hr6 w6 h6
      have g26 : Grow w2 w6 := ((g3.trans g4).trans g5).trans h6.grow
      refine app_str (ys := [str (edgeT es[i])]) (ho.grow g26) (by simp; omega) hlc (h6.sl 1 rfl) rfl (by omega) fun q' c' w7 ho7 hc7 g7 hq7 => ?_
      refine ⟨_, _, _, rfl, h6.keep g7 ?_ hoff, es.length - (i + 1), by omega, i + 1, wr1 (by omega), by omega, rfl, ?_, rfl, hc7, hoff.next hq7 (by have := h6.chg.size; omega)⟩
      · rintro a rfl y hy
        have := ho.lt a rfl
        have := g26.size
        have := g3.size; have := g4.size; have := g5.size
        simp at hy
        rcases hy with rfl | rfl
        · simp only []; omega
        · simp only []; omega
      · rw [take_next hi', List.map_append]; exact ho7
  · have e : i = es.length := by omega
    subst e
    rw [List.take_length] at ho
    have hmap : ((str (Lib.itoa n) :: es.map fun e => str (edgeT e)).map (fun s => s.data.toList)) = Lib.itoa n :: es.map edgeT := by
      simp [str_data]
    refine Join_spec ho.sl (by simp) hlc (by omega) ?_ fun w8 g8 => ⟨_, rfl, hF.after g8, ?_⟩
    · rw [hmap]
      refine Nat.le_trans (join_le _ _ 43 fun x hx => ?_) ?_
      · rcases List.mem_cons.1 hx with rfl | hx
        · have := Lib.itoa_length_le n hn.1 hn.2; omega
        · obtain ⟨e, he', rfl⟩ := List.mem_map.1 hx
          exact edgeT_le (hes e he')
      · simp; omega
    · have := hK w8 (hF.gr.trans g8)
      rw [hmap]; exact this
end Go.Vc
