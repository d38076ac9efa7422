/-
  A part of the proof that two events of one line are one event: the calculus that follows known memory by computing, and its soundness. By an AI agent.
-/
import Derived.Test.YtfmmpnaljkdigaaGreatDoorLb2
import Derived.Laws.BitsLemmas
set_option linter.unusedVariables false
set_option linter.unusedSimpArgs false
namespace Go.Vc
open Go

/-! ## bytes and texts -/
def bv (b : UInt8) : Value := .int .u8 b.toNat
def str (l : List UInt8) : ByteArray := ⟨l.toArray⟩
theorem str_size (l : List UInt8) : (str l).size = l.length := by simp [str, ByteArray.size]
theorem str_data (l : List UInt8) : (str l).data.toList = l := by simp [str]
theorem str_of (s : ByteArray) : str s.data.toList = s := by cases s; simp [str]
theorem str_inj {a b : List UInt8} (h : str a = str b) : a = b := by
  have := congrArg (fun s : ByteArray => s.data.toList) h
  simpa [str] using this
theorem str_append (a b : List UInt8) : str a ++ str b = str (a ++ b) := by
  apply ByteArray.ext
  simp [str]
theorem bv_one (b : UInt8) : oneC (bv b) = true := rfl
theorem wrap_id {n : Int} (h0 : -9223372036854775808 ≤ n) (h1 : n ≤ 9223372036854775807) : IntKind.wrap .i64 n = n := by
  rw [IntKind.wrap_i64]; omega
theorem wrap_u8 (n : Int) : IntKind.wrap .u8 n = n % 256 := IntKind.wrap_u8 n
theorem wrap_u32 (n : Int) : IntKind.wrap .u32 n = n % 4294967296 := IntKind.wrap_u32 n
theorem bv_mod (n : Nat) : (.int .u8 ((n : Int) % 256) : Value) = bv (UInt8.ofNat n) := by
  unfold bv; congr 1
theorem ofInt_toNat {n : Int} (h0 : 0 ≤ n) (h1 : n ≤ 9223372036854775807) : (BitVec.ofInt 64 n).toNat = n.toNat := by
  obtain ⟨m, rfl⟩ := Int.eq_ofNat_of_zero_le h0
  have : m < 2 ^ 64 := by omega
  simp [Nat.mod_eq_of_lt this]
section
variable {P : Program}
/-- 'string(b)' of bytes. -/
theorem sv_string {ts td e : TypeId} (hu : P.underlying ts = some (.slice e)) (hd : P.underlying td = some .string) (he : P.underlying e = some (.int .u8))
    {w : World} {q : Option Addr} {l c : Nat} {bs : List UInt8} {K : Value → World → Prop} (hs : Sl w q (bs.map bv)) (hl : l = bs.length)
    (hK : K (.string (str bs)) w) : sv P (convert ts td (.slice q l c)) K w := by
  unfold convert
  rw [sv_bind, sv_underlying hu, sv_bind, sv_underlying hd]
  simp only []
  rw [sv_bind, sv_underlying he]
  simp only []
  have hnil : ∀ q, bs = [] → q = none → sv P (Conv.bytesToString (.slice q l c)) K w := by
    intro q h1 h2
    subst h1; subst h2
    have : K (.string .empty) w := hK
    exact this
  unfold Conv.bytesToString
  cases q with
  | none =>
    rcases hs with h | ⟨b, o, h, _⟩
    · have : bs = [] := by simpa using h
      subst this
      exact hK
    · cases h
  | some a =>
    simp only []
    have loop : ∀ (bs : List UInt8) (s : ByteArray) (K : ByteArray → World → Prop), K (s ++ str bs) w →
        sv P (forIn (bs.map bv) s (fun c s => do
          let .int .u8 n := c | stuck "bytesToString: byte expected"
          pure (.yield (s.push (UInt8.ofNat n.toNat)))) : Sem ByteArray) K w := by
      intro bs
      induction bs with
      | nil =>
        intro s K h
        have e : s ++ str [] = s := by apply ByteArray.ext; simp [str]
        rw [e] at h; exact h
      | cons x bs ih =>
        intro s K h
        simp only [List.map_cons, List.forIn_cons]
        rw [sv_bind]
        simp only [bv, sv_pure]
        refine ih _ _ ?_
        have e : s.push (UInt8.ofNat (Int.toNat (x.toNat : Int))) ++ str bs = s ++ str (x :: bs) := by
          apply ByteArray.ext
          simp [str]
        rw [e]; exact h
    have fin : ∀ (xs : List Value), xs = bs.map bv → sv P (do
        let mut s := ByteArray.empty
        for c in xs.toArray do
          let .int .u8 n := c | stuck "bytesToString: byte expected"
          s := s.push (UInt8.ofNat n.toNat)
        pure (Value.string s) : Sem Value) K w := by
      intro xs hx
      subst hx
      rw [sv_bind, List.forIn_toArray]
      refine loop bs _ _ ?_
      rw [sv_pure]
      simpa using hK
    rcases hs with h | ⟨b, o, h, hr⟩
    · have e : bs = [] := by simpa using h
      subst e
      rw [sv_bind, hl]
      exact fin [] rfl
    · cases h
      rw [sv_bind]
      exact sv_loadCells (by simp [hl]) hr (fin _ rfl)
end
end Go.Vc
