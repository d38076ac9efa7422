/-
  Contracts of Go's library (Itoa, Join, Atoi, Split), in the words of these texts. By an AI agent.
-/
import Derived.Test.YtfmmpnaljkdigaaGreatDoorShelf
import Derived.Test.YtfmmpnaljkdigaaGreatDoorTy
set_option linter.unusedSimpArgs false
set_option maxRecDepth 100000
set_option linter.unusedVariables false
namespace Go.Vc
open Go
/-! ## Go's library: contracts of the shelf, in our words -/
theorem grow_drewN (w : World) (k : Nat) (os : Array Obj) : Grow w (Go.Sort.grow (w.drewN k) os) :=
  ⟨rfl, rfl, rfl, by simp [Go.Sort.grow, World.drewN], fun i hi _ => by
    show (w.heap ++ os)[i]? = w.heap[i]?
    rw [Array.getElem?_append_left hi]⟩
theorem grow_below {w w' : World} (h : Go.RowKit.Below w.heap.size w w') : Grow w w' := ⟨h.os, h.tape, h.output, h.size, fun k hk _ => h.block k hk⟩
/-- the table of powers of ten, which the start lays -/
def Tab (w : World) : Prop := Lib.TabIs PR w "internal/strconv.uint64pow10" .u64 Lib.pow10Tab
theorem Tab.grow {w w' : World} (h : Tab w) (g : Grow w w') : Tab w' := by
  unfold Tab Lib.TabIs World.var? at h ⊢
  cases hg : PR.globalNamed "internal/strconv.uint64pow10" with
  | none => rw [hg] at h; cases h
  | some b =>
    rw [hg] at h
    simp only [Option.bind_some] at h ⊢
    split at h
    · rename_i cs e f hb
      rw [g.get hb]; exact h
    · cases h
theorem callV_of {f : FuncId} {args : Array Value} {w : World} {Q : Ending → World → Prop} {K : Value → World → Prop} (h : Calls PR f args w Q) (k : ∀ e w', Q e w' → ∃ v, e = .returned v ∧ K v w') : CallV PR f args w K := Calls.mono h k
theorem Itoa_spec {n : Int} {w : World} {K : Value → World → Prop} (h0 : -9223372036854775808 ≤ n) (h1 : n ≤ 9223372036854775807) (ht : Tab w)
    (hK : ∀ w', Grow w w' → K (.string (str (Lib.itoa n))) w') : CallV PR F.strconv_Itoa ⟨[.int .i64 n]⟩ w K :=
  callV_of (Go.Proofs.Tryz.strconv_Itoa n h0 h1 w ht) fun e w' ⟨he, k, os, hw⟩ => ⟨_, he, by subst hw; exact hK _ (grow_drewN w k os)⟩
theorem Join_spec {q : Option Addr} {l c : Nat} {xs : List ByteArray} {sep : ByteArray} {w : World} {K : Value → World → Prop} (hs : Sl w q (xs.map sv1)) (hl : l = xs.length) (hlc : l ≤ c) (hN : l ≤ 1000000)
    (hlen : (Lib.join (xs.map (·.data.toList)) sep.data.toList).length ≤ 140737488355328)
    (hK : ∀ w', Grow w w' → K (.string (str (Lib.join (xs.map (·.data.toList)) sep.data.toList))) w') : CallV PR F.strings_Join ⟨[.slice q l c, .string sep]⟩ w K := by
  subst hl
  cases xs with
  | nil =>
    refine callV_of (Go.Proofs.Tryz.strings_Join_none q c sep w) fun e w' ⟨he, hw⟩ => ⟨_, he, ?_⟩
    subst hw; exact hK _ (.refl _ _)
  | cons x xs =>
    rcases hs with h | ⟨b, o, rfl, h⟩
    · cases h
    · refine callV_of (Go.Proofs.Tryz.strings_Join b o c (x :: xs) sep w (fun j y hy => ?_) h.lt (by omega) hlc hlen) fun e w' ⟨he, hw⟩ => ⟨_, he, hK _ (grow_below hw)⟩
      exact h.cell (by rw [List.getElem?_map, hy]; rfl)
theorem Atoi_spec {s : ByteArray} {n : Int} {w : World} {K : Value → World → Prop} (hl : s.size ≤ 18) (h : Lib.atoi s.data.toList = some n)
    (hK : ∀ w', Grow w w' → K (.tuple #[.int .i64 n, .nilIface]) w') : CallV PR F.strconv_Atoi ⟨[.string s]⟩ w K := by
  refine callV_of (Go.Proofs.Tryz.strconv_Atoi s n hl h w) fun e w' ⟨he, t, hw⟩ => ⟨_, he, ?_⟩
  subst hw
  refine hK _ ⟨rfl, rfl, rfl, ?_, fun k hk _ => ?_⟩
  · simp only [Lib.bytesWorld, World.freeze]
    split <;> simp
  · simp only [Lib.bytesWorld, World.freeze]
    split
    · show (w.heap.push _)[k]? = _
      rw [Array.getElem?_push, if_neg (by omega)]
    · simp only [Array.getElem?_modify]
      rw [if_neg (by omega)]
      show (w.heap.push _)[k]? = _
      rw [Array.getElem?_push, if_neg (by omega)]
theorem Split_spec {s sep : ByteArray} {m : Int} {w : World} {K : Value → World → Prop} (hs : s.size < 4294967281) (hm : w.cell? ⟨G.internal_bytealg_MaxLen, 0, none⟩ = some (.int .i64 m)) (h1 : 1 ≤ sep.size)
    (hK : ∀ w' b, b = w.heap.size → Grow w w' → Own T.string 1 w' (some ⟨b, 0, none⟩) (Lib.countB s sep + 1) ((Lib.splitB sep 0 (Lib.countB s sep) s).map sv1) → K (.slice (some ⟨b, 0, none⟩) (Lib.countB s sep + 1) (Lib.countB s sep + 1)) w')
    (hlen : (Lib.splitB sep 0 (Lib.countB s sep) s).length = Lib.countB s sep + 1) (hc : Lib.countB s sep + 1 ≤ 9223372036854775807) : CallV PR F.strings_Split ⟨[.string s, .string sep]⟩ w K := by
  refine callV_of (Go.Proofs.Tryz.strings_Split s sep m w hs hm h1) fun e w' ⟨he, hw⟩ => ⟨_, he, ?_⟩
  subst hw
  refine hK _ _ rfl (Chg.alloc w _) (.inr ⟨_, 0, _, rfl, by show (w.heap.push _)[w.heap.size]? = _; simp; rfl, by simp [hlen], hc, by simp [hlen], fun i _ => by simp; rfl⟩)
end Go.Vc
