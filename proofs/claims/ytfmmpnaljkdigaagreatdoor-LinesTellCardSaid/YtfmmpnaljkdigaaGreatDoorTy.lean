/-
  Facts on the program's types, and on appends to owned slices. By an AI agent.
-/
import Derived.Test.YtfmmpnaljkdigaaGreatDoorNm
import Derived.Test.YtfmmpnaljkdigaaGreatDoorLb4
set_option linter.unusedSimpArgs false
set_option maxRecDepth 100000
set_option linter.unusedVariables false
namespace Go.Vc
open Go
/-! ## types, by their names -/
theorem u_bytes : PR.underlying T.sl_uint8 = some (.slice T.uint8) := by kernel_rfl
theorem u_u8 : PR.underlying T.uint8 = some (.int .u8) := by kernel_rfl
theorem u_str : PR.underlying T.string = some .string := by kernel_rfl
theorem u_strs : PR.underlying T.sl_string = some (.slice T.string) := by kernel_rfl
/-- a type's size, bytes, and zero -/
def tyI (t : TypeId) (k by_ : Nat) (z : Value) : Prop := ∃ i, PR.info? t = some i ∧ i.size = k ∧ i.bytes = by_ ∧ i.zero = some z
noncomputable def tyChk (t : TypeId) (k by_ : Nat) (z : Value) : Bool := match PR.info? t with
  | some i => i.size == k && i.bytes == by_ && (match i.zero, z with
    | some (.int k n), .int k' n' => k == k' && n == n'
    | some (.bool b), .bool b' => b == b'
    | some (.string s), .string s' => s.data == s'.data
    | some (.pointer none), .pointer none => true
    | _, _ => false)
  | none => false
theorem tyI_of {t : TypeId} {k by_ : Nat} {z : Value} (h : tyChk t k by_ z = true) : tyI t k by_ z := by
  unfold tyChk at h
  split at h
  · rename_i i hi
    simp only [Bool.and_eq_true, beq_iff_eq] at h
    obtain ⟨⟨h1, h2⟩, h3⟩ := h
    refine ⟨i, hi, h1, h2, ?_⟩
    split at h3
    · simp only [Bool.and_eq_true, beq_iff_eq] at h3; rename_i h4; rw [h4, h3.1, h3.2]
    · simp only [beq_iff_eq] at h3; rename_i h4; rw [h4, h3]
    · rename_i s s' h4
      have : s = s' := by cases s; cases s'; simp only [beq_iff_eq] at h3; simp_all
      rw [h4, this]
    · rename_i h4; rw [h4]
    · cases h3
  · cases h
theorem t_u8 : tyI T.uint8 1 1 (.int .u8 0) := tyI_of (by kernel_rfl)
theorem t_str : tyI T.string 1 16 (.string ⟨#[]⟩) := tyI_of (by kernel_rfl)
theorem t_int : tyI T.int 1 8 (.int .i64 0) := tyI_of (by kernel_rfl)
theorem t_bool : tyI T.bool 1 1 (.bool false) := tyI_of (by kernel_rfl)

/-- 'append(s, x...)' of elements of one cell -/
theorem app1 {ts e : TypeId} {by_ : Nat} {z : Value} (hu : PR.underlying ts = some (.slice e)) (ht : tyI e 1 by_ z) (hz : z.cells = #[z]) (hby : by_ ≠ 0) {w : World} {q q2 : Option Addr} {l c l2 c2 : Nat} {xs ys : List Value} {K : Value → World → Prop}
    (ho : Own e 1 w q c xs) (hl : l = xs.length) (hlc : l ≤ c) (hs : Sl w q2 ys) (hl2 : l2 = ys.length) (hone : ∀ y, y ∈ ys → oneC y = true) (hroom : (2 * (l + l2) + 1024) * by_ ≤ 281474976710656)
    (hK : ∀ q' c' w', Own e 1 w' q' c' (xs ++ ys) → l + l2 ≤ c' → Chg (blkOf q) w w' → (∀ a, q' = some a → q = some a ∨ a = ⟨w.heap.size, 0, none⟩) → K (.slice q' (l + l2) c') w') :
    sv PR (Builtin.append_ #[ts, ts] ts #[.slice q l c, .slice q2 l2 c2]) K w := by
  obtain ⟨i, hi, hk, hb, hz'⟩ := ht
  exact sv_append' (i := i) (k := 1) (by_ := by_) hu hu hi hz' hk hb (by rw [hz]; rfl) hby ho (by omega) hlc hs (by omega) hone hroom hK
/-- a byte, or bytes, are appended -/
theorem app_u8 {w : World} {q q2 : Option Addr} {l c l2 c2 : Nat} {xs ys : List UInt8} {K : Value → World → Prop}
    (ho : Own T.uint8 1 w q c (xs.map bv)) (hl : l = xs.length) (hlc : l ≤ c) (hs : Sl w q2 (ys.map bv)) (hl2 : l2 = ys.length) (hroom : l + l2 ≤ 70368744177664)
    (hK : ∀ q' c' w', Own T.uint8 1 w' q' c' ((xs ++ ys).map bv) → l + l2 ≤ c' → Chg (blkOf q) w w' → (∀ a, q' = some a → q = some a ∨ a = ⟨w.heap.size, 0, none⟩) →
      K (.slice q' (l + l2) c') w') :
    sv PR (Builtin.append_ #[T.sl_uint8, T.sl_uint8] T.sl_uint8 #[.slice q l c, .slice q2 l2 c2]) K w :=
  app1 u_bytes t_u8 rfl (by decide) ho (by simp [hl]) hlc hs (by simp [hl2]) (fun y hy => by obtain ⟨b, _, rfl⟩ := List.mem_map.1 hy; rfl) (by omega) fun q' c' w' h => hK q' c' w' (by simpa using h)
def sv1 (s : ByteArray) : Value := .string s
theorem app_str {w : World} {q q2 : Option Addr} {l c l2 c2 : Nat} {xs ys : List ByteArray} {K : Value → World → Prop}
    (ho : Own T.string 1 w q c (xs.map sv1)) (hl : l = xs.length) (hlc : l ≤ c) (hs : Sl w q2 (ys.map sv1)) (hl2 : l2 = ys.length) (hroom : l + l2 ≤ 4398046511104)
    (hK : ∀ q' c' w', Own T.string 1 w' q' c' ((xs ++ ys).map sv1) → l + l2 ≤ c' → Chg (blkOf q) w w' → (∀ a, q' = some a → q = some a ∨ a = ⟨w.heap.size, 0, none⟩) →
      K (.slice q' (l + l2) c') w') :
    sv PR (Builtin.append_ #[T.sl_string, T.sl_string] T.sl_string #[.slice q l c, .slice q2 l2 c2]) K w :=
  app1 u_strs t_str rfl (by decide) ho (by simp [hl]) hlc hs (by simp [hl2]) (fun y hy => by obtain ⟨b, _, rfl⟩ := List.mem_map.1 hy; rfl) (by omega) fun q' c' w' h => hK q' c' w' (by simpa using h)
/-- what a slice that isn't empty points to -/
theorem Sl.ex {w : World} {q : Option Addr} {xs : List Value} (h : Sl w q xs) (h0 : xs ≠ []) : ∃ b o, q = some ⟨b, o, none⟩ ∧ ∀ j : Nat, j < xs.length → w.cell? ⟨b, o + j, none⟩ = xs[j]? := by
  rcases h with h | ⟨b, o, rfl, h⟩
  · exact absurd h h0
  · exact ⟨b, o, rfl, fun j hj => by rw [h.cell (v := xs[j]) (by simp [hj])]; simp [hj]⟩
/-- one element of one cell is read -/
theorem Sl.rd {w : World} {q : Option Addr} {xs : List Value} (h : Sl w q xs) {n : Int} {l : Nat} {v : Value} {K : Addr → Prop} (hl : l = xs.length) (h0 : 0 ≤ n) (hv : xs[n.toNat]? = some v) (hK : ∀ a, w.cell? a = some v → K a) :
    Dr q (fun a => 0 ≤ n ∧ n < ((l : Nat) : Int) ∧ Dr (some (Addr.add a (n.toNat * 1))) K) := by
  subst hl
  have hl : n.toNat < xs.length := by
    rcases Nat.lt_or_ge n.toNat xs.length with hl | hl
    · exact hl
    · simp [List.getElem?_eq_none hl] at hv
  obtain ⟨b, o, rfl, hc⟩ := h.ex (by intro e; subst e; simp at hl)
  refine Dr_some.2 ⟨h0, by omega, Dr_some.2 ?_⟩
  rw [add_mk, Nat.mul_one]
  exact hK _ (by rw [hc _ hl, hv])
/-- of the blocks that are known one reads as its cells -/
theorem Fr.sl {S : Nat → Prop} {w0 wp w : World} {M : List Nat} {L : List Blk} (h : Fr S w0 wp M L w) (j : Nat) {b : Nat} {cs : List Value} {T : TypeId} {wr : Bool} (hj : L[j]? = some ⟨b, ⟨cs⟩, T, wr⟩) : Sl w (some ⟨b, 0, none⟩) cs :=
  .inr ⟨b, 0, rfl, ⟨cs⟩, T, (0, 0), h.blk j hj, fun i _ => by simp⟩
theorem Fr.own {S : Nat → Prop} {w0 wp w : World} {M : List Nat} {L : List Blk} (h : Fr S w0 wp M L w) (j : Nat) {b c : Nat} {cs : List Value} {T : TypeId} {wr : Bool} (hj : L[j]? = some ⟨b, ⟨cs⟩, T, wr⟩) (hc : cs.length = c) (hc2 : c ≤ 9223372036854775807) : Own T 1 w (some ⟨b, 0, none⟩) c cs :=
  .inr ⟨b, 0, ⟨cs⟩, rfl, h.blk j hj, by simp [hc], hc2, by omega, fun i _ => by simp⟩
theorem Fr.gr {w0 wp w : World} {M : List Nat} {L : List Blk} (h : Fr (fun _ => False) w0 wp M L w) : Grow w0 w := h.chg
/-- behind a step that leaves the blocks of L alone -/
theorem Fr.keep {S : Nat → Prop} {w0 wp w w' : World} {M : List Nat} {L : List Blk} (h : Fr S w0 wp M L w) {q : Option Addr} (g : Chg (blkOf q) w w') (ho : ∀ a, q = some a → ∀ x, x ∈ L → x.b ≠ a.block) (hn : Off (fun k => k < w0.heap.size) q) : Fs S w0 L w' :=
  h.step g (fun x hx ⟨a, ha, e⟩ => ho a ha x hx e) fun k hk ⟨a, ha, e⟩ => absurd (e ▸ hk) (hn a ha)
/-- one more of those that are done -/
theorem take_next {α : Type} {l : List α} {k : Nat} (h : k < l.length) : l.take (k + 1) = l.take k ++ [l[k]] := by
  rw [List.take_succ_eq_append_getElem h]
theorem wr1 {k : Nat} (h : k < 9223372036854775807) : IntKind.wrap .i64 ((k : Int) + 1) = ((k + 1 : Nat) : Int) := by
  rw [wrap_id (by omega) (by omega)]; omega
theorem len_data (s : ByteArray) : s.data.toList.length = s.size := by rw [Array.length_toList]; rfl
theorem byteAt_at {s : ByteArray} {k : Nat} (h : k < s.data.toList.length) : byteAt s k = (s.data.toList[k]).toNat := by
  unfold byteAt
  have h' : k < s.size := by rw [← len_data]; exact h
  simp [Array.getD, h']
theorem chg_nil {w w' : World} (g : Chg (blkOf none) w w') : Grow w w' := g.mono fun _ _ ⟨_, h, _⟩ => by cases h
end Go.Vc
