/-
  A part of the proof that two events of one line are one event: the calculus that follows known memory by computing, and its soundness. By an AI agent.
-/
import Derived.Test.YtfmmpnaljkdigaaGreatDoorVc1
import Derived.Laws.Strings
import Derived.Laws.Slices
import Derived.Laws.StructEq
set_option linter.unusedVariables false
set_option linter.unusedSimpArgs false
namespace Go.Vc
open Go

def szOf (P : Program) (t : TypeId) : Nat := ((P.info? t).map (·.size)).getD 0
def known (P : Program) (t : TypeId) : Bool := (P.info? t).isSome && (P.underlying t).isSome

theorem bsEq (a b : ByteArray) : (a.toList == b.toList) = decide (a = b) := by
  rw [ByteArray.toList_eq, ByteArray.toList_eq]
  by_cases h : a = b
  · simp [h]
  · have : ¬ a.data = b.data := fun e => h (ByteArray.ext e)
    simp [h, this]

/-- Two integers compared. -/
def cmpI (op : BinOp) (a b : Int) (K : Value → Prop) : Prop :=
  match op with
  | .eql => splitP (a = b) K
  | .neq => splitN (a = b) K
  | .lss => splitP (a < b) K
  | .leq => splitP (a ≤ b) K
  | .gtr => splitP (a > b) K
  | .geq => splitP (a ≥ b) K
  | _ => False
def isCmp : BinOp → Bool
  | .eql | .neq | .lss | .leq | .gtr | .geq => true
  | _ => false
/-- Is a value the nil of its type? -/
def nilTest (x y : Value) (A B : Prop) : Prop :=
  match y with
  | .nilIface => (x = .nilIface → A) ∧ (∀ t v, x = .iface t v → B) ∧ (x = .nilIface ∨ ∃ t v, x = .iface t v)
  | .nilFunc => (x = .nilFunc → A) ∧ (∀ f a b, x = .func f a b → B) ∧ (x = .nilFunc ∨ ∃ f a b, x = .func f a b)
  | .pointer none => (match x with | .pointer p => (p = none → A) ∧ (∀ a, p = some a → B) | _ => False)
  | .slice none _ _ => (match x with | .slice p _ _ => (p = none → A) ∧ (∀ a, p = some a → B) | _ => False)
  | .map none => (match x with | .map p => (p = none → A) ∧ (∀ a, p = some a → B) | _ => False)
  | _ => False
def nilTy (P : Program) (t : TypeId) : Operand → Bool
  | .const .nilIface => (match P.underlying t with | some (.interface _) => true | _ => false)
  | .const .nilFunc => (match P.underlying t with | some (.func _ _ _) => true | _ => false)
  | .const (.pointer none) => (match P.underlying t with | some (.pointer _) => true | _ => false)
  | .const (.slice none _ _) => (match P.underlying t with | some (.slice _) => true | _ => false)
  | .const (.map none) => (match P.underlying t with | some (.map _ _) => true | _ => false)
  | _ => false
def asVal : Next → Sem Value
  | .value v => pure v
  | _ => stuck "no value"
def gen (P : Program) (R : Addr → Value → Prop) (env : List Value) (o : Oper) (K : Value → Prop) : Prop :=
  ss P R (execOp (ev env) o >>= asVal) K
def strCmp (op : BinOp) (a b : ByteArray) (K : Value → Prop) : Prop :=
  match op with
  | .eql => splitP (a = b) K
  | .neq => splitN (a = b) K
  | .lss => splitP (Op.bytesLess a.toList b.toList = true) K
  | .add => a.size + b.size ≤ 9223372036854775807 ∧ K (.string (a ++ b))
  | _ => False
/-- structs of numbers, compared -/
def eqOk : List Value → List Value → Bool
  | [], [] => true
  | .int k _ :: xs, .int k' _ :: ys => decide (k = k') && eqOk xs ys
  | _, _ => false
def eqP : List Value → List Value → Prop
  | .int _ a :: xs, .int _ b :: ys => a = b ∧ eqP xs ys
  | _, _ => True
def plainFs (P : Program) : List Field → Nat → Bool
  | [], _ => true
  | f :: fs, i => f.offset == i && f.name != "_" && known P f.type && (match P.underlying f.type with | some (.int _) => true | _ => false) && plainFs P fs (i + 1)
def plainStruct (P : Program) (t : TypeId) (n : Nat) : Bool :=
  match P.underlying t with
  | some (.struct fs) => plainFs P fs.toList 0 && fs.size == n && !P.stoodInHeld t && !P.eqGuardType P.depth t
  | _ => false
def eqS (P : Program) (t : TypeId) (op : BinOp) (xs ys : Array Value) (K : Value → Prop) : Prop :=
  match eqOk xs.toList ys.toList && plainStruct P t xs.size, op with
  | true, .eql => splitP (eqP xs.toList ys.toList) K
  | true, .neq => splitN (eqP xs.toList ys.toList) K
  | _, _ => False
/-- a number that is no literal constant of the text -/
def varO : Operand → Bool
  | .const _ => false
  | _ => true
def binS (P : Program) (R : Addr → Value → Prop) (env : List Value) (o : Oper) (op : BinOp) (t : TypeId) (x y : Operand) (K : Value → Prop) : Prop :=
  match nilTy P t y with
  | true =>
    (match op with
     | .eql => nilTest (ev env x) (ev env y) (K (.bool true)) (K (.bool false))
     | .neq => nilTest (ev env x) (ev env y) (K (.bool false)) (K (.bool true))
     | _ => False)
  | false =>
    match isCmp op, ev env x, ev env y with
    | true, .int k a, .int k' b => (if k = k' then cmpI op a b K else False)
    | false, .int k a, .int k' b =>
      (match op, varO y with
       | .quo, true => if k = k' then (b ≠ 0 ∧ K (.int k (k.wrap (a.tdiv b)))) else False
       | .rem, true => if k = k' then (b ≠ 0 ∧ K (.int k (a.tmod b))) else False
       | .shl, true => 0 ≤ b ∧ K (.int k (k.wrap (a * 2 ^ (min b.toNat k.bits))))
       | .shr, true => 0 ≤ b ∧ K (.int k (a.fdiv (2 ^ (min b.toNat k.bits))))
       | _, _ => gen P R env o K)
    | _, .string a, .string b => strCmp op a b K
    | _, .agg xs, .agg ys => eqS P t op xs ys K
    | true, .pointer p, .pointer q =>
      (match P.underlying t, op with
       | some (.pointer e), .eql => if known P e ∧ szOf P e ≠ 0 then Dr p fun a => Dr q fun b => a.block = b.block ∧ splitP (a = b) K else False
       | some (.pointer e), .neq => if known P e ∧ szOf P e ≠ 0 then Dr p fun a => Dr q fun b => a.block = b.block ∧ splitN (a = b) K else False
       | _, _ => False)
    | _, _, _ => gen P R env o K
def idxS (P : Program) (t : TypeId) (x i : Value) (K : Value → Prop) : Prop :=
  match P.underlying t, x, i with
  | some (.slice e), .slice base len _, .int _ n => if known P e then Dr base fun a => 0 ≤ n ∧ n < len ∧ K (.pointer (some (a.add (n.toNat * szOf P e)))) else False
  | some (.array len e), x, .int _ n => if known P e then drf x fun a => 0 ≤ n ∧ n < len ∧ K (.pointer (some (a.add (n.toNat * szOf P e)))) else False
  | _, _, _ => False
def byteAt (s : ByteArray) (i : Nat) : Nat := (s.data.getD i 0).toNat
def ixS (P : Program) (t : TypeId) (x i : Value) (K : Value → Prop) : Prop :=
  match P.underlying t, x, i with
  | some .string, .string s, .int _ n => 0 ≤ n ∧ n < s.size ∧ K (.int .u8 (byteAt s n.toNat))
  | some (.array len e), .agg cs, .int _ n =>
    if known P e then
      0 ≤ n ∧ n < len ∧
      (match aggT P e with
       | true => tel (flat P 12 e) fun vs => cs.extract (n.toNat * szOf P e) (n.toNat * szOf P e + szOf P e) = ⟨vs⟩ ∧ K (.agg ⟨vs⟩)
       | false => tel1 ((flat P 12 e).headD .any) fun v => cs[n.toNat * szOf P e]? = some v ∧ K v)
    else False
  | _, _, _ => False
/-- the bounds of 'x[lo:hi]': hi against y -/
def hiS (env : List Value) (len y : Nat) : Option Operand → (Nat → Prop) → Prop
  | none, K => K len
  | some o, K => match ev env o with
    | .int _ h => 0 ≤ h ∧ h ≤ (y : Int) ∧ K h.toNat
    | _ => False
def loS (env : List Value) (y : Nat) : Option Operand → (Nat → Prop) → Prop
  | none, K => K 0
  | some o, K => match ev env o with
    | .int _ h => 0 ≤ h ∧ h ≤ (y : Int) ∧ K h.toNat
    | _ => False
def slS (P : Program) (env : List Value) (t : TypeId) (x : Value) (lo hi : Option Operand) (K : Value → Prop) : Prop :=
  match P.underlying t, x with
  | some .string, .string s => hiS env s.size s.size hi fun h => loS env h lo fun l => K (.string (s.extract l h))
  | some (.slice e), .slice a len cap => if known P e then hiS env len cap hi fun h => loS env h lo fun l => K (.slice (if cap = l then a else a.map (·.add (l * szOf P e))) (h - l) (cap - l)) else False
  | some (.array n e), .pointer p => if known P e then Dr p fun a => hiS env n n hi fun h => loS env h lo fun l => K (.slice (some (if n = l then a else a.add (l * szOf P e))) (h - l) (n - l)) else False
  | _, _ => False
def ldCells (R : Addr → Value → Prop) (a : Addr) (i : Nat) : List Ck → (List Value → Prop) → Prop
  | [], K => K []
  | c :: cs, K => tel1 c fun v => R (a.add i) v ∧ ldCells R a (i + 1) cs fun r => K (v :: r)
def ldK (P : Program) (R : Addr → Value → Prop) (t : TypeId) (a : Addr) (K : Value → Prop) : Prop :=
  match known P t, aggT P t with
  | true, false => tel1 ((flat P 12 t).headD .any) fun v => R a v ∧ K v
  | true, true => if (flat P 12 t).length = szOf P t then ldCells R a 0 (flat P 12 t) fun vs => K (.agg ⟨vs⟩) else False
  | false, _ => False
/-- one cell -/
def one1 (c : Ck) (v : Value) (K : Prop) : Prop :=
  match c with
  | .any => oneC v = true ∧ K
  | _ => (match oneC v with | true => K | false => False)
def putMany (cells : List Value) (off : Nat) (cs : List Value) : List Value := cs.zipIdx.foldl (fun l (c, j) => put l (off + j) c) cells
def fillS (P : Program) (place : Nat → Option (TypeId × Nat)) (cells : List Value) : List (Nat × Value) → (List Value → Prop) → Prop
  | [], K => K cells
  | (i, v) :: rest, K =>
    match place i with
    | none => False
    | some (ft, off) =>
      match known P ft, aggT P ft with
      | true, true => (match v with
        | .agg cs => if cs.size = szOf P ft ∧ off + cs.size ≤ cells.length then fillS P place (putMany cells off cs.toList) rest K else False
        | _ => False)
      | true, false => if szOf P ft = 1 ∧ off + 1 ≤ cells.length then one1 ((flat P 12 ft).headD .any) v (fillS P place (put cells off v) rest K) else False
      | false, _ => False
def zeroOf (P : Program) (t : TypeId) : Option Value := (P.info? t).bind (·.zero)
def buildS (P : Program) (env : List Value) (t : TypeId) (parts : Array (Nat × Operand)) (K : Value → Prop) : Prop :=
  match zeroOf P t, P.underlying t with
  | some z, some (.struct fs) =>
    if fs.toList.all (fun f => known P f.type) then
      fillS P (fun i => (fs[i]?).map fun f => (f.type, f.offset)) z.cells.toList (parts.toList.map fun p => (p.1, ev env p.2)) fun cs => K (.agg ⟨cs⟩)
    else False
  | some z, some (.array _ e) =>
    if known P e then fillS P (fun i => some (e, i * szOf P e)) z.cells.toList (parts.toList.map fun p => (p.1, ev env p.2)) fun cs => K (.agg ⟨cs⟩) else False
  | _, _ => False
def silent (P : Program) : Op → Bool
  | .move _ | .assign _ | .pick .. | .binOp .. | .unOp .. | .field .. | .fieldAddr .. | .indexAddr .. | .index .. | .extract .. | .build .. | .makeInterface .. | .makeFunc .. | .load .. | .nilCheck _ => true
  | .slice _ _ _ _ none => true
  | .convert s d _ => (match P.underlying s, P.underlying d with | some (.int _), some (.int _) => true | some .string, some .string => true | _, _ => false)
  | .call { callee := .builtin .len, argTypes := ts, .. } => (match (ts[0]?).bind P.underlying with | some (.map _ _) | some (.chan _ _) | none => false | _ => true)
  | .call { callee := .builtin .cap, argTypes := ts, .. } => (match (ts[0]?).bind P.underlying with | some (.chan _ _) | none => false | _ => true)
  | .call { callee := .builtin .min, .. } | .call { callee := .builtin .max, .. } => true
  | _ => false
/-- Does the result have to be told true from false? -/
def boolRes (P : Program) (o : Oper) : Bool :=
  match o.op with
  | .field s _ f => (match P.underlying s with | some (.struct fs) => (match (fs[f]?).bind (P.underlying ·.type) with | some .bool => true | _ => false) | _ => false)
  | .load t _ => (match P.underlying t with | some .bool => true | _ => false)
  | .index t _ _ => (match P.underlying t with | some (.array _ e) => (match P.underlying e with | some .bool => true | _ => false) | _ => false)
  | _ => false
def opS (P : Program) (R : Addr → Value → Prop) (env : List Value) (o : Oper) (K : Value → Prop) : Prop :=
  match o.op with
  | .move x | .assign x => K (ev env x)
  | .binOp op t x y _ => binS P R env o op t x y K
  | .indexAddr t x i => idxS P t (ev env x) (ev env i) K
  | .index t x i => ixS P t (ev env x) (ev env i) fun v => splitIf (boolRes P o) v K
  | .slice t x lo hi none => slS P env t (ev env x) lo hi K
  | .load t a => drf (ev env a) fun a => ldK P R t a fun v => splitIf (boolRes P o) v K
  | .fieldAddr s x f => drf (ev env x) fun a => ss P R (Instr.fieldAt s (.pointer (some a)) f) K
  | .nilCheck x => drf (ev env x) fun a => K (.pointer (some a))
  | .build t parts => buildS P env t parts K
  | _ => gen P R env o fun v => splitIf (boolRes P o) v K
end Go.Vc
