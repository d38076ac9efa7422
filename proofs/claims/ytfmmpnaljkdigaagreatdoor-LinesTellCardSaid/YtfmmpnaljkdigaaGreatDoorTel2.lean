/-
  What lines.Tell answers, of no error and of one. By an AI agent.
-/
import Derived.Test.YtfmmpnaljkdigaaGreatDoorTel1
set_option linter.unusedSimpArgs false
set_option maxRecDepth 100000
set_option linter.unusedVariables false
namespace Go.Vc
open Go
theorem Tell_ok {q : Option Addr} {l c : Nat} {ns : List Int} {w : World} {K : Value → World → Prop} (ht : Tab w) (hs : Sl w q (ns.map iv)) (hl : l = ns.length) (hb : l ≤ 1000000) (hn : ∀ n, n ∈ ns → i64 n)
    (hK : ∀ w', Grow w w' → K (.string (str ([111, 107] ++ numL ns))) w') : CallV PR F.lines_Tell ⟨[.slice q l c, .nilIface]⟩ w K := by
  refine lines_Tell q l c .nilIface (fun _ => False) K w ⟨fun _ => ?_, (fun t v h => by cases h), .inl rfl⟩
  refine ⟨fun s n m w' => ∃ i : Nat, n = i ∧ i ≤ ns.length ∧ m = ns.length - i ∧ s = str ([111, 107] ++ numL (ns.take i)), ⟨_, 0, rfl, by omega, rfl, rfl⟩, ?_⟩
  rintro s n D m w1 ⟨i, rfl, hi, rfl, rfl⟩ hF
  have hlen := numL_le (ns := ns.take i) fun n h => hn n (List.mem_of_mem_take h)
  rw [List.length_take] at hlen
  refine ⟨fun hlt => ?_, fun hge => ?_⟩
  · have hi' : i < ns.length := by omega
    have hni := hn ns[i] (List.getElem_mem hi')
    have hl2 := Lib.itoa_length_le _ hni.1 hni.2
    refine (hs.grow hF.gr).rd (by simp [hl]) (by omega) (v := iv ns[i]) (by simp [hi']) fun a ha => ⟨ns[i], ha, ?_⟩
    refine Itoa_spec hni.1 hni.2 (ht.grow hF.gr) fun w2 g2 => ?_
    have e1 : (⟨#[32]⟩ : ByteArray) ++ str (Lib.itoa ns[i]) = str (32 :: Lib.itoa ns[i]) := strS_app [32] _
    refine ⟨_, rfl, hF.after g2, by rw [str_size]; omega, ?_⟩
    rw [e1]
    refine ⟨by rw [str_size, str_size]; simp; omega, ns.length - (i + 1), by omega, i + 1, wr1 (by omega), by omega, rfl, ?_⟩
    rw [strS_app, numL_next hi']; simp
  · have : i = ns.length := by omega
    subst this
    rw [List.take_length]
    exact hK _ hF.gr
theorem Tell_err {q : Option Addr} {l c : Nat} {ns : List Int} {t : Nat} {v : Value} {code : Int} {w : World} {K : Value → World → Prop} (ht : Tab w) (hs : Sl w q (ns.map iv)) (hl : l = ns.length) (hb : l ≤ 1000000) (hn : ∀ n, n ∈ ns → i64 n) (hcode : i64 code)
    (hc : ∀ K' : Value → World → Prop, (∀ w', Grow w w' → K' (.int .i64 code) w') → CallV PR F.api_Code #[.iface t v] w K')
    (hK : ∀ w', Grow w w' → K (.string (str ([101, 114, 114, 111, 114, 32] ++ Lib.itoa code ++ numL ns))) w') : CallV PR F.lines_Tell ⟨[.slice q l c, .iface t v]⟩ w K := by
  refine lines_Tell q l c (.iface t v) (fun _ => False) K w ⟨(fun h => by cases h), fun t' v' e => ?_, .inr ⟨_, _, rfl⟩⟩
  cases e
  refine hc _ fun w2 g2 => ⟨code, rfl, (Fr.init _ w).after g2, ?_⟩
  have hl0 := Lib.itoa_length_le _ hcode.1 hcode.2
  refine Itoa_spec hcode.1 hcode.2 (ht.grow g2) fun w3 g3 => ⟨_, rfl, ((Fr.init _ w).after g2).after g3, by rw [str_size]; omega, ?_⟩
  have e0 : (⟨#[101, 114, 114, 111, 114, 32]⟩ : ByteArray) ++ str (Lib.itoa code) = str ([101, 114, 114, 111, 114, 32] ++ Lib.itoa code) := strS_app [101, 114, 114, 111, 114, 32] _
  rw [e0]
  refine ⟨fun s n m w' => ∃ i : Nat, n = i ∧ i ≤ ns.length ∧ m = ns.length - i ∧ s = str ([101, 114, 114, 111, 114, 32] ++ Lib.itoa code ++ numL (ns.take i)), ⟨_, 0, rfl, by omega, rfl, by simp [numL]⟩, ?_⟩
  rintro s n D m w1 ⟨i, rfl, hi, rfl, rfl⟩ hF
  have hlen := numL_le (ns := ns.take i) fun n h => hn n (List.mem_of_mem_take h)
  rw [List.length_take] at hlen
  refine ⟨fun hlt => ?_, fun hge => ?_⟩
  · have hi' : i < ns.length := by omega
    have hni := hn ns[i] (List.getElem_mem hi')
    have hl2 := Lib.itoa_length_le _ hni.1 hni.2
    refine (hs.grow hF.gr).rd (by simp [hl]) (by omega) (v := iv ns[i]) (by simp [hi']) fun a ha => ⟨ns[i], ha, ?_⟩
    refine Itoa_spec hni.1 hni.2 (ht.grow hF.gr) fun w2 g2 => ?_
    have e1 : (⟨#[32]⟩ : ByteArray) ++ str (Lib.itoa ns[i]) = str (32 :: Lib.itoa ns[i]) := strS_app [32] _
    refine ⟨_, rfl, hF.after g2, by rw [str_size]; omega, ?_⟩
    rw [e1]
    refine ⟨by rw [str_size, str_size]; simp; omega, ns.length - (i + 1), by omega, i + 1, wr1 (by omega), by omega, rfl, ?_⟩
    rw [strS_app, numL_next hi']; simp
  · have : i = ns.length := by omega
    subst this
    rw [List.take_length]
    exact hK _ hF.gr
end Go.Vc
