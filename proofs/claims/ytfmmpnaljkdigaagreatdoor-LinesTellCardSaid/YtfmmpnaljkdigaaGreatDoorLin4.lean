/-
  What lines.Line answers: the line of an event, as a list of bytes. By an AI agent.
-/
import Derived.Test.YtfmmpnaljkdigaaGreatDoorLin3
set_option linter.unusedSimpArgs false
set_option maxRecDepth 100000
set_option linter.unusedVariables false
namespace Go.Vc
open Go
/-! ## an event's line -/
/-- names, how many numbers, and what stands behind them -/
def vt : List (List UInt8 × Nat × Nat) := [([], 0, 0), ([80, 85, 66, 76, 73, 83, 72], 1, 1), ([84, 73, 67, 75], 1, 0), ([68, 69, 76, 73, 86, 69, 82], 1, 0), ([68, 82, 79, 80], 1, 0), ([84, 87, 73, 67, 69], 1, 0), ([84, 85, 82, 78], 2, 0), ([83, 80, 79, 73, 76], 3, 0), ([70, 79, 82, 71, 69], 1, 2), ([67, 82, 65, 83, 72], 2, 3), ([70, 85, 83, 69], 2, 0), ([82, 79, 84], 4, 0), ([79, 80, 69, 78], 1, 0), ([67, 76, 79, 83, 69], 2, 0), ([84, 65, 82, 71, 69, 84, 83], 3, 0), ([68, 69, 71, 82, 69, 69], 3, 0), ([83, 69, 65, 82, 67, 72], 5, 0), ([83, 84, 69, 80], 3, 0), ([77, 69, 84], 2, 0), ([82, 79, 85, 78, 68], 1, 0), ([83, 69, 84, 84, 76, 69], 0, 0), ([65, 67, 84, 73, 86, 69], 1, 0)]
def vn (k : Nat) : List UInt8 := (vt.getD k ([], 0, 0)).1
def vm (k : Nat) : Nat := (vt.getD k ([], 0, 0)).2.1
def vo (k : Nat) : Nat := (vt.getD k ([], 0, 0)).2.2
theorem verbs_spec {w : World} {K : Value → World → Prop} (hK : ∀ w', Grow w w' → K (.agg #[.string ⟨#[]⟩, .int .i64 0, .int .i64 0, .string ⟨#[80, 85, 66, 76, 73, 83, 72]⟩, .int .i64 1, .int .i64 1, .string ⟨#[84, 73, 67, 75]⟩, .int .i64 1, .int .i64 0, .string ⟨#[68, 69, 76, 73, 86, 69, 82]⟩, .int .i64 1, .int .i64 0, .string ⟨#[68, 82, 79, 80]⟩, .int .i64 1, .int .i64 0, .string ⟨#[84, 87, 73, 67, 69]⟩, .int .i64 1, .int .i64 0, .string ⟨#[84, 85, 82, 78]⟩, .int .i64 2, .int .i64 0, .string ⟨#[83, 80, 79, 73, 76]⟩, .int .i64 3, .int .i64 0, .string ⟨#[70, 79, 82, 71, 69]⟩, .int .i64 1, .int .i64 2, .string ⟨#[67, 82, 65, 83, 72]⟩, .int .i64 2, .int .i64 3, .string ⟨#[70, 85, 83, 69]⟩, .int .i64 2, .int .i64 0, .string ⟨#[82, 79, 84]⟩, .int .i64 4, .int .i64 0, .string ⟨#[79, 80, 69, 78]⟩, .int .i64 1, .int .i64 0, .string ⟨#[67, 76, 79, 83, 69]⟩, .int .i64 2, .int .i64 0, .string ⟨#[84, 65, 82, 71, 69, 84, 83]⟩, .int .i64 3, .int .i64 0, .string ⟨#[68, 69, 71, 82, 69, 69]⟩, .int .i64 3, .int .i64 0, .string ⟨#[83, 69, 65, 82, 67, 72]⟩, .int .i64 5, .int .i64 0, .string ⟨#[83, 84, 69, 80]⟩, .int .i64 3, .int .i64 0, .string ⟨#[77, 69, 84]⟩, .int .i64 2, .int .i64 0, .string ⟨#[82, 79, 85, 78, 68]⟩, .int .i64 1, .int .i64 0, .string ⟨#[83, 69, 84, 84, 76, 69]⟩, .int .i64 0, .int .i64 0, .string ⟨#[65, 67, 84, 73, 86, 69]⟩, .int .i64 1, .int .i64 0]) w') : CallV PR F.lines_verbs ⟨[]⟩ w K :=
  lines_verbs (fun _ => False) K w fun r hr w0 h0 => hK w0 h0.gr
theorem verbs_ext {k : Nat} (h : k < 22) : Array.extract (#[.string ⟨#[]⟩, .int .i64 0, .int .i64 0, .string ⟨#[80, 85, 66, 76, 73, 83, 72]⟩, .int .i64 1, .int .i64 1, .string ⟨#[84, 73, 67, 75]⟩, .int .i64 1, .int .i64 0, .string ⟨#[68, 69, 76, 73, 86, 69, 82]⟩, .int .i64 1, .int .i64 0, .string ⟨#[68, 82, 79, 80]⟩, .int .i64 1, .int .i64 0, .string ⟨#[84, 87, 73, 67, 69]⟩, .int .i64 1, .int .i64 0, .string ⟨#[84, 85, 82, 78]⟩, .int .i64 2, .int .i64 0, .string ⟨#[83, 80, 79, 73, 76]⟩, .int .i64 3, .int .i64 0, .string ⟨#[70, 79, 82, 71, 69]⟩, .int .i64 1, .int .i64 2, .string ⟨#[67, 82, 65, 83, 72]⟩, .int .i64 2, .int .i64 3, .string ⟨#[70, 85, 83, 69]⟩, .int .i64 2, .int .i64 0, .string ⟨#[82, 79, 84]⟩, .int .i64 4, .int .i64 0, .string ⟨#[79, 80, 69, 78]⟩, .int .i64 1, .int .i64 0, .string ⟨#[67, 76, 79, 83, 69]⟩, .int .i64 2, .int .i64 0, .string ⟨#[84, 65, 82, 71, 69, 84, 83]⟩, .int .i64 3, .int .i64 0, .string ⟨#[68, 69, 71, 82, 69, 69]⟩, .int .i64 3, .int .i64 0, .string ⟨#[83, 69, 65, 82, 67, 72]⟩, .int .i64 5, .int .i64 0, .string ⟨#[83, 84, 69, 80]⟩, .int .i64 3, .int .i64 0, .string ⟨#[77, 69, 84]⟩, .int .i64 2, .int .i64 0, .string ⟨#[82, 79, 85, 78, 68]⟩, .int .i64 1, .int .i64 0, .string ⟨#[83, 69, 84, 84, 76, 69]⟩, .int .i64 0, .int .i64 0, .string ⟨#[65, 67, 84, 73, 86, 69]⟩, .int .i64 1, .int .i64 0] : Array Value) (k * 3) (k * 3 + 3) = #[.string (str (vn k)), .int .i64 ((vm k : Nat) : Int), .int .i64 ((vo k : Nat) : Int)] := by
  have : k = 0 ∨ k = 1 ∨ k = 2 ∨ k = 3 ∨ k = 4 ∨ k = 5 ∨ k = 6 ∨ k = 7 ∨ k = 8 ∨ k = 9 ∨ k = 10 ∨ k = 11 ∨ k = 12 ∨ k = 13 ∨ k = 14 ∨ k = 15 ∨ k = 16 ∨ k = 17 ∨ k = 18 ∨ k = 19 ∨ k = 20 ∨ k = 21 := by omega
  rcases this with rfl | rfl | rfl | rfl | rfl | rfl | rfl | rfl | rfl | rfl | rfl | rfl | rfl | rfl | rfl | rfl | rfl | rfl | rfl | rfl | rfl | rfl <;> rfl
theorem vn_le (k : Nat) : (vn k).length ≤ 7 := by
  by_cases h : k < 22
  · have : k = 0 ∨ k = 1 ∨ k = 2 ∨ k = 3 ∨ k = 4 ∨ k = 5 ∨ k = 6 ∨ k = 7 ∨ k = 8 ∨ k = 9 ∨ k = 10 ∨ k = 11 ∨ k = 12 ∨ k = 13 ∨ k = 14 ∨ k = 15 ∨ k = 16 ∨ k = 17 ∨ k = 18 ∨ k = 19 ∨ k = 20 ∨ k = 21 := by omega
    rcases this with rfl | rfl | rfl | rfl | rfl | rfl | rfl | rfl | rfl | rfl | rfl | rfl | rfl | rfl | rfl | rfl | rfl | rfl | rfl | rfl | rfl | rfl <;> decide
  · have : vt[k]? = none := List.getElem?_eq_none (by simp only [vt, List.length_cons, List.length_nil]; omega)
    simp [vn, List.getD, this]
theorem vm_le (k : Nat) : vm k ≤ 5 := by
  by_cases h : k < 22
  · have : k = 0 ∨ k = 1 ∨ k = 2 ∨ k = 3 ∨ k = 4 ∨ k = 5 ∨ k = 6 ∨ k = 7 ∨ k = 8 ∨ k = 9 ∨ k = 10 ∨ k = 11 ∨ k = 12 ∨ k = 13 ∨ k = 14 ∨ k = 15 ∨ k = 16 ∨ k = 17 ∨ k = 18 ∨ k = 19 ∨ k = 20 ∨ k = 21 := by omega
    rcases this with rfl | rfl | rfl | rfl | rfl | rfl | rfl | rfl | rfl | rfl | rfl | rfl | rfl | rfl | rfl | rfl | rfl | rfl | rfl | rfl | rfl | rfl <;> decide
  · have : vt[k]? = none := List.getElem?_eq_none (by simp only [vt, List.length_cons, List.length_nil]; omega)
    simp [vm, List.getD, this]
def wordL (l : List UInt8) : List UInt8 := if l = [] then [46] else l
def hexL (s : ByteArray) : List UInt8 := s.data.toList.flatMap hexB
def tailL (more : Nat) (s : ByteArray) (bs : List Bool) : List (List UInt8) := if more = 2 then [wordL (hexL s)] else if more = 3 then [wordL (bs.map bitB)] else []
def lineL (k : Int) (xs : List Int) (es : List (Int × Int)) (s : ByteArray) (bs : List Bool) : List UInt8 :=
  if k < 1 ∨ k ≥ 22 then [] else
  if fitsB xs es s bs (vm k.toNat) (vo k.toNat) = true then
    (if vo k.toNat = 1 then vn k.toNat ++ [32] ++ textL (xs.getD 0 0) es
     else Lib.join (vn k.toNat :: ((xs.take (vm k.toNat)).map Lib.itoa ++ tailL (vo k.toNat) s bs)) [32])
  else []
theorem word_str (l : List UInt8) : (if str l = ⟨#[]⟩ then (⟨#[46]⟩ : ByteArray) else str l) = str (wordL l) := by
  unfold wordL
  by_cases h : l = []
  · subst h; rfl
  · rw [if_neg h, if_neg fun (e : str l = ⟨#[]⟩) => h (str_inj (b := []) e)]
theorem data_str (xs : List (List UInt8)) : (xs.map str).map (fun s => s.data.toList) = xs := by
  rw [List.map_map]
  conv => rhs; rw [← List.map_id xs]
  exact List.map_congr_left fun x _ => str_data x
theorem data_itoa (xs : List Int) : (xs.map fun e => str (Lib.itoa e)).map (fun s => s.data.toList) = xs.map Lib.itoa := by
  rw [List.map_map]
  exact List.map_congr_left fun x _ => str_data _
theorem hexL_len (l : List UInt8) : (l.flatMap hexB).length = 2 * l.length := by
  induction l with
  | nil => rfl
  | cons a l ih => simp only [List.flatMap_cons, List.length_append, ih, List.length_cons]; simp [hexB]; omega
theorem fits_of {xs : List Int} {es : List (Int × Int)} {s : ByteArray} {bs : List Bool} {many more : Int} (h : fitsB xs es s bs many more = true) :
    es.all smallE = true ∧ zeroFrom many 0 xs = true ∧ xs.all smallN = true ∧ es.length ≤ 200 ∧ s.size ≤ 300 ∧ bs.length ≤ 100 ∧ (more = 1 ∨ es.length = 0) ∧ (more = 2 ∨ s = ⟨#[]⟩) ∧ (more = 3 ∨ bs.length = 0) := by
  unfold fitsB at h
  simp only [Bool.and_eq_true, Bool.or_eq_true, decide_eq_true_eq] at h
  exact ⟨h.1, h.2.1, h.2.2.1, h.2.2.2.1, h.2.2.2.2.1, h.2.2.2.2.2.1, h.2.2.2.2.2.2.1, h.2.2.2.2.2.2.2.1, h.2.2.2.2.2.2.2.2⟩
theorem small_i64 {n : Int} (h : smallN n = true) : i64 n := by
  unfold smallN at h
  simp only [Bool.not_eq_true', Bool.or_eq_false_iff, decide_eq_false_iff_not] at h
  unfold i64; omega
theorem smallE_i64 {e : Int × Int} (h : smallE e = true) : i64 e.1 ∧ i64 e.2 := by
  simp only [smallE, Bool.and_eq_true] at h
  exact ⟨small_i64 h.1, small_i64 h.2⟩
theorem Line_spec {k a1 a2 a3 a4 a5 : Int} {qe qk : Option Addr} {le ce lk ck : Nat} {s : ByteArray} {es : List (Int × Int)} {bs : List Bool} {w : World} {K : Value → World → Prop} (ht : Tab w)
    (he : Sl w qe (ecs es)) (hk : Sl w qk (bs.map .bool)) (hle : le = es.length) (hlk : lk = bs.length) (hb : le ≤ 100000)
    (hK : ∀ w', Grow w w' → K (.string (str (lineL k [a1, a2, a3, a4, a5] es s bs))) w') :
    CallV PR F.lines_Line ⟨[.agg #[.int .i64 k, .int .i64 a1, .int .i64 a2, .int .i64 a3, .int .i64 a4, .int .i64 a5, .slice qe le ce, .string s, .slice qk lk ck]]⟩ w K := by
  refine lines_Line k a1 a2 a3 a4 a5 qe le ce s qk lk ck (fun _ => False) K w ?_
  intro r0 hr0
  refine ⟨fun hk1 w0 h0 => ?_, fun hk1 w1 h1 => ?_⟩
  · have := hK w0 h0.gr
    unfold lineL at this; rw [if_pos (.inl hk1)] at this; exact this
  refine verbs_spec fun w2 g2 => ⟨_, _, _, _, _, _, _, _, _, _, _, _, _, _, _, _, _, _, _, _, _, _, _, _, _, _, _, _, _, _, _, _, _, _, _, _, _, _, _, _, _, _, _, _, _, _, _, _, _, _, _, _, _, _, _, _, _, _, _, _, _, _, _, _, _, _, rfl, h1.after g2, fun hk2 => ?_, fun hk2 => ?_⟩
  · have := hK w2 (h1.gr.trans g2)
    unfold lineL at this; rw [if_pos (.inr hk2)] at this; exact this
  have h2 := h1.after g2
  obtain ⟨j, rfl⟩ : ∃ j : Nat, k = j := ⟨k.toNat, by omega⟩
  have hj : j < 22 := by omega
  have hext := verbs_ext hj
  refine ⟨fun w3 h3 => verbs_spec fun w4 g4 => ⟨_, _, _, _, _, _, _, _, _, _, _, _, _, _, _, _, _, _, _, _, _, _, _, _, _, _, _, _, _, _, _, _, _, _, _, _, _, _, _, _, _, _, _, _, _, _, _, _, _, _, _, _, _, _, _, _, _, _, _, _, _, _, _, _, _, _, rfl, h3.after g4, by omega, by omega, str (vn j), vm j, vo j, hext, fun r1 hr1 w5 h5 => ?_⟩,
    fun r1 hr1 w3 h3 => verbs_spec fun w4 g4 => ⟨_, _, _, _, _, _, _, _, _, _, _, _, _, _, _, _, _, _, _, _, _, _, _, _, _, _, _, _, _, _, _, _, _, _, _, _, _, _, _, _, _, _, _, _, _, _, _, _, _, _, _, _, _, _, _, _, _, _, _, _, _, _, _, _, _, _, rfl, h3.after g4, by omega, by omega, str (vn j), vm j, vo j, hext, fun w5 h5 => ?_⟩⟩
  all_goals
    have hlen := vn_le j
    have hm5 := vm_le j
    refine fits_spec (he.grow h5.gr) hle hlk (by omega) fun w6 g6 => ⟨_, rfl, fun hfit => ⟨h5.after g6, fun ho => ?_, fun ho => ?_⟩, fun hfit => ⟨h5.after g6, ?_⟩⟩
    · -- a graph's text behind
      obtain ⟨f1, f2, f3, f4, f5, f6, f7, f8, f9⟩ := fits_of hfit
      have fx : ∀ x, x ∈ [a1, a2, a3, a4, a5] → i64 x := fun x hx => small_i64 (List.all_eq_true.1 f3 x hx)
      refine ⟨by rw [str_size]; omega, by omega, by omega, fun w7 h7 => ?_⟩
      refine Text_spec (ht.grow h7.gr) (fx a1 (by simp)) (fun e hm => smallE_i64 (List.all_eq_true.1 f1 e hm)) (he.grow h7.gr) hle hb fun w8 g8 => ⟨_, rfl, h7.after g8, ?_, ?_⟩
      · have e1 : str (vn j) ++ ⟨#[32]⟩ = str (vn j ++ [32]) := strS_app _ [32]
        rw [e1, str_size, str_size]
        have : (textL a1 es).length ≤ 44 * (es.length + 1) := by
          refine Nat.le_trans (join_le _ _ 43 fun x hx => ?_) (by simp)
          rcases List.mem_cons.1 hx with rfl | hx
          · have := Lib.itoa_length_le a1 (fx a1 (by simp)).1 (fx a1 (by simp)).2; omega
          · obtain ⟨e, he', rfl⟩ := List.mem_map.1 hx
            exact edgeT_le (smallE_i64 (List.all_eq_true.1 f1 e he'))
        simp; omega
      · have e1 : str (vn j) ++ ⟨#[32]⟩ ++ str (textL a1 es) = str (vn j ++ [32] ++ textL a1 es) := by
          have : str (vn j) ++ ⟨#[32]⟩ = str (vn j ++ [32]) := strS_app _ [32]
          rw [this, strS_app]
        rw [e1]
        have := hK w8 (h7.gr.trans g8)
        unfold lineL at this
        rw [if_neg (by omega), Int.toNat_natCast, if_pos hfit, if_pos (by omega)] at this
        exact this
    · -- numbers, and perhaps a word behind
      obtain ⟨f1, f2, f3, f4, f5, f6, f7, f8, f9⟩ := fits_of hfit
      have fx : ∀ x, x ∈ [a1, a2, a3, a4, a5] → i64 x := fun x hx => small_i64 (List.all_eq_true.1 f3 x hx)
      intro r2 hr2
      refine ⟨by omega, by omega, fun w9 h9 => ?_⟩
      refine ⟨fun x lx cx m d w' => ∃ i : Nat, m = i ∧ i ≤ vm j ∧ d = vm j - i ∧ Own T.string 1 w' x cx ((str (vn j) :: ([a1, a2, a3, a4, a5].take i).map fun e => str (Lib.itoa e)).map sv1) ∧ lx = i + 1 ∧ lx ≤ cx ∧ Off (fun k => k < w.heap.size) x ∧ ∀ a, x = some a → a.block ≠ r0 ∧ a.block ≠ r1,
        ⟨_, 0, rfl, by omega, rfl, h9.own 2 rfl rfl (by omega), rfl, Nat.le_refl _, .fresh (by have := (h5.after g6).chg.size; omega), fun a ha => ?_⟩, ?_⟩
      · cases ha
        have q0 := (h5.after g6).lt _ (List.mem_cons_self)
        have q1 := (h5.after g6).lt _ (List.mem_cons_of_mem _ List.mem_cons_self)
        simp only [] at q0 q1 ⊢
        exact ⟨by omega, by omega⟩
      rintro x lx cx m D d w10 ⟨i, rfl, hi, rfl, ho', rfl, hlc, hoff, hne⟩ hF
      have fin : ∀ (tl : List (List UInt8)) (q : Option Addr) (c : Nat) (w11 : World), tl = tailL (vo j) s bs → (∀ t, t ∈ tl → t.length ≤ 1000) → i = vm j → tl.length ≤ 1 → Grow w w11 →
          Own T.string 1 w11 q c ((str (vn j) :: ([a1, a2, a3, a4, a5].take i).map (fun e => str (Lib.itoa e)) ++ tl.map str).map sv1) → i + 1 + tl.length ≤ c →
          CallV PR F.strings_Join ⟨[.slice q (i + 1 + tl.length) c, .string ⟨#[32]⟩]⟩ w11 (fun v w' => ∃ s0 : ByteArray, v = .string s0 ∧ Fs (fun _ => False) w [] w' ∧ K (.string s0) w') := by
        intro tl q c w11 htl hle' hi' hl1 g11 hown hcc
        have hti : ([a1, a2, a3, a4, a5].take i).length = i := by rw [List.length_take]; simp; omega
        have hmap : ((str (vn j) :: ([a1, a2, a3, a4, a5].take i).map (fun e => str (Lib.itoa e)) ++ tl.map str).map (fun s => s.data.toList)) = vn j :: (([a1, a2, a3, a4, a5].take i).map Lib.itoa ++ tl) := by
          rw [List.map_append, List.map_cons, data_str, data_itoa, str_data]; rfl
        refine Join_spec hown.sl ?_ hcc (by omega) ?_ fun w12 g12 => ⟨_, rfl, ((Fr.init _ w).after g11).after g12, ?_⟩
        · simp only [List.length_append, List.length_cons, List.length_map, hti]
        · rw [hmap]
          refine Nat.le_trans (join_le _ _ 1000 fun x hx => ?_) ?_
          · rcases List.mem_cons.1 hx with rfl | hx
            · omega
            · rcases List.mem_append.1 hx with hx | hx
              · obtain ⟨e, he', rfl⟩ := List.mem_map.1 hx
                have := fx e (List.mem_of_mem_take he')
                have := Lib.itoa_length_le e this.1 this.2; omega
              · exact hle' x hx
          · simp only [List.length_append, List.length_cons, List.length_map, hti]
            show (1000 + 1) * _ ≤ _
            omega
        · have := hK w12 (g11.trans g12)
          unfold lineL at this
          rw [if_neg (by omega), Int.toNat_natCast, if_pos hfit, if_neg (by omega), ← htl, ← hi'] at this
          rw [hmap]; exact this
      refine ⟨fun hlt => ?_, fun hge => ?_⟩
      · have hi' : i < vm j := by omega
        have hl5 : i < [a1, a2, a3, a4, a5].length := by simp; omega
        refine ⟨by omega, by omega, [a1, a2, a3, a4, a5][i], ?_, ?_⟩
        · have : i = 0 ∨ i = 1 ∨ i = 2 ∨ i = 3 ∨ i = 4 := by omega
          rcases this with rfl | rfl | rfl | rfl | rfl <;> rfl
        · have hx := fx _ (List.getElem_mem hl5)
          refine Itoa_spec hx.1 hx.2 (ht.grow hF.gr) fun w12 g12 => ⟨_, rfl, hF.after g12, fun r7 hr7 w13 h13 => ?_⟩
          have g13 : Grow w10 w13 := g12.trans h13.grow
          refine app_str (ys := [str (Lib.itoa [a1, a2, a3, a4, a5][i])]) (ho'.grow g13) (by simp; omega) hlc (h13.sl 2 rfl) rfl (by omega) fun q' c' w14 ho14 hc14 g14 hq14 => ?_
          refine ⟨_, _, _, rfl, h13.keep g14 ?_ hoff, vm j - (i + 1), by omega, i + 1, wr1 (by omega), by omega, rfl, ?_, rfl, hc14, hoff.next hq14 (by have := h13.chg.size; omega), fun a ha => ?_⟩
          · rintro a rfl y hy
            have := ho'.lt a rfl
            have := g12.size
            have := hne a rfl
            simp at hy
            rcases hy with rfl | rfl | rfl
            · exact fun e => this.1 e.symm
            · exact fun e => this.2 e.symm
            · simp only []; omega
          · rw [take_next hl5, List.map_append]; exact ho14
          · rcases hq14 a ha with h | h
            · exact hne a h
            · subst h
              have q0 := h13.lt _ (List.mem_cons_self)
              have q1 := h13.lt _ (List.mem_cons_of_mem _ List.mem_cons_self)
              simp only [] at q0 q1 ⊢
              exact ⟨by omega, by omega⟩
      · have ei : i = vm j := by omega
        have wd : ∀ (wl : List UInt8) (B : Blk) (w14 : World), tailL (vo j) s bs = [wordL wl] → wl.length ≤ 900 → Grow w10 w14 → Fs (fun _ => False) w [B] w14 → (∀ a, x = some a → B.b ≠ a.block) →
            CallV PR F.lines_word ⟨[.string (str wl)]⟩ w14 (fun v7 w15 => ∃ s48 : ByteArray, v7 = .string s48 ∧ Fs (fun _ => False) w [B] w15 ∧ ∀ l11 : Nat, w15.heap.size ≤ l11 → ∀ w16 : World, Fr (fun _ => False) w w15 [] [B, ⟨l11, #[.string s48], 9, true⟩] w16 →
              sv PR (Builtin.append_ #[T.sl_string, T.sl_string] T.sl_string #[.slice x (i + 1) cx, .slice (some ⟨l11, 0, none⟩) 1 1]) (fun v8 w17 => ∃ q2 : Option Addr, ∃ l12 : Nat, ∃ l13 : Nat, v8 = .slice q2 l12 l13 ∧ Fs (fun _ => False) w [B, ⟨l11, #[.string s48], 9, true⟩] w17 ∧
                CallV PR F.strings_Join #[.slice q2 l12 l13, .string ⟨#[32]⟩] w17 (fun v9 w18 => ∃ s49 : ByteArray, v9 = .string s49 ∧ Fs (fun _ => False) w [] w18 ∧ K (.string s49) w18)) w16) := by
          intro wl B w14 htl hwl g14 hB hBne
          refine word_spec ?_
          rw [word_str]
          refine ⟨_, rfl, hB, fun r hr w16 h16 => ?_⟩
          have hwl' : (wordL wl).length ≤ 900 := by
            unfold wordL; split
            · simp
            · exact hwl
          have g16 : Grow w10 w16 := g14.trans h16.grow
          refine app_str (ys := [str (wordL wl)]) (ho'.grow g16) (by simp; omega) hlc (h16.sl 1 rfl) rfl (by omega) fun q' c' w17 ho17 hc17 g17 hq17 => ⟨_, _, _, rfl, h16.keep g17 ?_ hoff, ?_⟩
          · rintro a rfl y hy
            have := ho'.lt a rfl
            have := g14.size
            simp at hy
            rcases hy with rfl | rfl
            · exact hBne a rfl
            · simp only []; omega
          · exact fin [wordL wl] q' c' w17 htl.symm (fun t htm => by simp at htm; subst htm; omega) ei (by simp) (h16.gr.own g17 hoff) ho17 hc17
        refine ⟨fun h2' => hex_spec (by omega) fun w14 g14 => ⟨_, rfl, (hF.sub (.cons_cons _ (.cons _ .slnil))).after g14, ?_⟩, fun h2' => ⟨fun h3' => bits_spec (hk.grow hF.gr) hlk (by omega) fun w14 g14 => ⟨_, rfl, (hF.sub (.cons_cons _ (.cons _ .slnil))).after g14, ?_⟩, fun h3' => ?_⟩⟩
        · refine wd _ _ w14 ?_ ?_ g14 ((hF.sub (.cons_cons _ (.cons _ .slnil))).after g14) fun a ha => (hne a ha).1.symm
          · unfold tailL; rw [if_pos (by omega)]; rfl
          · rw [hexL_len, len_data]; omega
        · refine wd _ _ w14 ?_ ?_ g14 ((hF.sub (.cons_cons _ (.cons _ .slnil))).after g14) fun a ha => (hne a ha).1.symm
          · unfold tailL; rw [if_neg (by omega), if_pos (by omega)]
          · simp; omega
        · exact fin [] x cx w10 (by unfold tailL; rw [if_neg (by omega), if_neg (by omega)]) (fun t htm => by cases htm) ei (by simp) hF.gr (by simpa using ho') (by simpa using hlc)
    · have := hK w6 (h5.gr.trans g6)
      unfold lineL at this
      rw [if_neg (by omega), Int.toNat_natCast, if_neg (by rw [hfit]; decide)] at this
      exact this
end Go.Vc
