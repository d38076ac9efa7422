/-
  What ladingref04.Digits and ladingref29.Numbers answer. By an AI agent.
-/
import Derived.Test.YtfmmpnaljkdigaaGreatDoorLin6
import Derived.Lib.ItoaNum
import Derived.Lib.ItoaLen
set_option linter.unusedSimpArgs false
set_option maxRecDepth 100000
set_option linter.unusedVariables false
namespace Go.Vc
open Go
/-! ## The document's numbers, and what is told -/
theorem dig_str : ∀ k : Fin 10, ByteArray.extract ⟨#[48, 49, 50, 51, 52, 53, 54, 55, 56, 57]⟩ k.val (k.val + 1) = str [UInt8.ofNat (48 + k.val)] := by decide
theorem itoa_neg_step {n : Int} (h : n ≤ -10) : Lib.itoa n = Lib.itoa (Int.tdiv n 10) ++ [UInt8.ofNat (48 + (-(Int.tmod n 10)).toNat)] := by
  have e1 : Int.tmod n 10 = n - 10 * Int.tdiv n 10 := by have := Int.tmod_add_mul_tdiv n 10; omega
  have b1 : n ≤ 10 * Int.tdiv n 10 ∧ 10 * Int.tdiv n 10 < n + 10 := by
    have h1 := Int.tmod_add_mul_tdiv n 10
    have h2 : Int.tmod n 10 = - Int.tmod (-n) 10 := by rw [Int.neg_tmod]; omega
    have h3 := Int.tmod_nonneg (10 : Int) (show (0 : Int) ≤ -n by omega)
    have h4 := Int.tmod_lt_of_pos (-n) (show (0 : Int) < 10 by omega)
    omega
  unfold Lib.itoa
  rw [if_pos (by omega), if_pos (by omega)]
  rw [Lib.decDigits, dif_neg (by omega)]
  have e2 : (Int.tdiv n 10).natAbs = n.natAbs / 10 := by omega
  have e3 : (-(Int.tmod n 10)).toNat = n.natAbs % 10 := by omega
  rw [e2, e3]; rfl
theorem itoa_pos_step {n : Int} (h : 10 ≤ n) : Lib.itoa n = Lib.itoa (Int.tdiv n 10) ++ [UInt8.ofNat (48 + (Int.tmod n 10).toNat)] := by
  have h1 := Int.tmod_add_mul_tdiv n 10
  have h3 := Int.tmod_nonneg (10 : Int) (show (0 : Int) ≤ n by omega)
  have h4 := Int.tmod_lt_of_pos n (show (0 : Int) < 10 by omega)
  unfold Lib.itoa
  rw [if_neg (by omega), if_neg (by omega)]
  rw [Lib.decDigits, dif_neg (by omega)]
  have e2 : (Int.tdiv n 10).toNat = n.toNat / 10 := by omega
  have e3 : (Int.tmod n 10).toNat = n.toNat % 10 := by omega
  rw [e2, e3]
theorem Digits_spec : ∀ (m : Nat) {n : Int}, n.natAbs ≤ m → -9223372036854775808 ≤ n → n ≤ 9223372036854775807 → ∀ {w : World} {K : Value → World → Prop},
    (∀ w', Grow w w' → K (.string (str (Lib.itoa n))) w') → CallV PR F.ladingref04_Digits ⟨[.int .i64 n]⟩ w K := by
  intro m
  induction m using Nat.strongRecOn with
  | ind m ih =>
    intro n hm h0 h1 w K hK
    refine ladingref04_Digits n (fun _ => False) K w ⟨fun hneg => ?_, fun hpos => ?_⟩
    · have q1 := Int.tmod_add_mul_tdiv n 10
      have q2 : Int.tmod n 10 = - Int.tmod (-n) 10 := by rw [Int.neg_tmod]; omega
      have q3 := Int.tmod_nonneg (10 : Int) (show (0 : Int) ≤ -n by omega)
      have q4 := Int.tmod_lt_of_pos (-n) (show (0 : Int) < 10 by omega)
      have ea : IntKind.wrap .i64 (0 - Int.tmod n 10) = -(Int.tmod n 10) := by rw [wrap_id (by omega) (by omega)]; omega
      have eb : IntKind.wrap .i64 (1 - Int.tmod n 10) = -(Int.tmod n 10) + 1 := by rw [wrap_id (by omega) (by omega)]; omega
      rw [ea, eb]
      have ed := dig_str ⟨(-(Int.tmod n 10)).toNat, by omega⟩
      have eb' : (-(Int.tmod n 10) + 1).toNat = (-(Int.tmod n 10)).toNat + 1 := by omega
      simp only at ed
      rw [eb', ed]
      refine ⟨by omega, by omega, by omega, by omega, fun hs => ?_, fun hs => ?_⟩
      · refine ⟨by rw [str_size]; simp, ?_⟩
        have e : Lib.itoa n = [45, UInt8.ofNat (48 + (-(Int.tmod n 10)).toNat)] := by
          unfold Lib.itoa
          rw [if_pos hneg, Lib.decDigits_one (by omega)]
          have : n.natAbs = (-(Int.tmod n 10)).toNat := by omega
          rw [this]
        have := hK w (.refl _ _)
        rw [e] at this
        have e5 : (⟨#[45]⟩ : ByteArray) ++ str [UInt8.ofNat (48 + (-(Int.tmod n 10)).toNat)] = str [45, UInt8.ofNat (48 + (-(Int.tmod n 10)).toNat)] := strS_app [45] _
        rwa [e5]
      · rw [wrap_id (by omega) (by omega)]
        refine ih (Int.tdiv n 10).natAbs (by omega) (Nat.le_refl _) (by omega) (by omega) fun w' g => ⟨_, rfl, (Fr.init _ w).after g, ?_, ?_⟩
        · have := Lib.itoa_length_le (Int.tdiv n 10) (by omega) (by omega)
          rw [str_size, str_size]; simp; omega
        · rw [strS_app, ← itoa_neg_step (by omega)]
          exact hK w' g
    · have q1 := Int.tmod_add_mul_tdiv n 10
      have q3 := Int.tmod_nonneg (10 : Int) (show (0 : Int) ≤ n by omega)
      have q4 := Int.tmod_lt_of_pos n (show (0 : Int) < 10 by omega)
      have eb : IntKind.wrap .i64 (Int.tmod n 10 + 1) = Int.tmod n 10 + 1 := wrap_id (by omega) (by omega)
      rw [eb]
      have ed := dig_str ⟨(Int.tmod n 10).toNat, by omega⟩
      have eb' : (Int.tmod n 10 + 1).toNat = (Int.tmod n 10).toNat + 1 := by omega
      simp only at ed
      rw [eb', ed]
      refine ⟨by omega, by omega, by omega, by omega, fun hs => ?_, fun hs => ?_⟩
      · have e : Lib.itoa n = [UInt8.ofNat (48 + (Int.tmod n 10).toNat)] := by
          unfold Lib.itoa
          rw [if_neg hpos, Lib.decDigits_one (by omega)]
          have : n.toNat = (Int.tmod n 10).toNat := by omega
          rw [this]
        have := hK w (.refl _ _)
        rwa [e] at this
      · rw [wrap_id (by omega) (by omega)]
        refine ih (Int.tdiv n 10).natAbs (by omega) (Nat.le_refl _) (by omega) (by omega) fun w' g => ⟨_, rfl, (Fr.init _ w).after g, ?_, ?_⟩
        · have := Lib.itoa_length_le (Int.tdiv n 10) (by omega) (by omega)
          rw [str_size, str_size]; simp; omega
        · rw [strS_app, ← itoa_pos_step (by omega)]
          exact hK w' g
/-- a blank, and each -/
def numL (ns : List Int) : List UInt8 := ns.flatMap fun n => 32 :: Lib.itoa n
theorem numL_le {ns : List Int} (h : ∀ n, n ∈ ns → i64 n) : (numL ns).length ≤ 22 * ns.length := by
  induction ns with
  | nil => simp [numL]
  | cons n ns ih =>
    have := ih fun x hx => h x (List.mem_cons_of_mem _ hx)
    have := Lib.itoa_length_le n (h n List.mem_cons_self).1 (h n List.mem_cons_self).2
    simp only [numL, List.flatMap_cons, List.length_append, List.length_cons] at *
    omega
theorem numL_next {ns : List Int} {i : Nat} (h : i < ns.length) : numL (ns.take (i + 1)) = numL (ns.take i) ++ 32 :: Lib.itoa ns[i] := by
  unfold numL
  rw [take_next h, List.flatMap_append]
  simp
theorem Numbers_spec {q : Option Addr} {l c : Nat} {ns : List Int} {w : World} {K : Value → World → Prop} (hs : Sl w q (ns.map iv)) (hl : l = ns.length) (hb : l ≤ 1000000) (hn : ∀ n, n ∈ ns → i64 n)
    (hK : ∀ w', Grow w w' → K (.string (str (numL ns))) w') : CallV PR F.ladingref29_Numbers ⟨[.slice q l c]⟩ w K := by
  refine ladingref29_Numbers q l c (fun _ => False) K w ⟨fun s n m w' => ∃ i : Nat, n = i ∧ i ≤ ns.length ∧ m = ns.length - i ∧ s = str (numL (ns.take i)), ⟨_, 0, rfl, by omega, rfl, rfl⟩, ?_⟩
  rintro s n D m w1 ⟨i, rfl, hi, rfl, rfl⟩ hF
  have hlen := numL_le (ns := ns.take i) fun n h => hn n (List.mem_of_mem_take h)
  rw [List.length_take] at hlen
  refine ⟨fun hlt => ?_, fun hge => ?_⟩
  · have hi' : i < ns.length := by omega
    have hni := hn ns[i] (List.getElem_mem hi')
    have hl2 := Lib.itoa_length_le _ hni.1 hni.2
    refine ⟨by rw [str_size]; omega, ?_⟩
    refine (hs.grow hF.gr).rd (by simp [hl]) (by omega) (v := iv ns[i]) (by simp [hi']) fun a ha => ⟨ns[i], ha, ?_⟩
    refine Digits_spec _ (Nat.le_refl _) hni.1 hni.2 fun w2 g2 => ?_
    have e1 : str (numL (ns.take i)) ++ ⟨#[32]⟩ = str (numL (ns.take i) ++ [32]) := strS_app _ [32]
    rw [e1]
    refine ⟨_, rfl, hF.after g2, by rw [str_size, str_size]; simp; omega, ns.length - (i + 1), by omega, i + 1, wr1 (by omega), by omega, rfl, ?_⟩
    rw [strS_app, numL_next hi']; simp
  · have : i = ns.length := by omega
    subst this
    rw [List.take_length]
    exact hK _ hF.gr
end Go.Vc
