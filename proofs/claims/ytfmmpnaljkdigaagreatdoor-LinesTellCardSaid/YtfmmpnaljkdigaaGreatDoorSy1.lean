/-
  A part of the proof that two events of one line are one event: the calculus that follows known memory by computing, and its soundness. By an AI agent.
-/
import Derived.Test.YtfmmpnaljkdigaaGreatDoorFr
set_option linter.unusedVariables false
set_option linter.unusedSimpArgs false
namespace Go.Vc
open Go
/-! The condition of a piece of code, with the blocks that are known followed by program: definitions. -/
/-- A cell: a value; a truth that is known; a pointer to place o of the i-th known block (its number is b; lit: o is a literal); a slice in it. -/
inductive Cel where
  | v (x : Value)
  | k (b : Bool)
  | p (i b : Nat) (lit : Bool) (o : Nat)
  | q (i b : Nat) (lit : Bool) (o l c : Nat)
def Cel.den : Cel → Value
  | .v x => x
  | .k b => .bool b
  | .p _ b _ o => .pointer (some ⟨b, o, none⟩)
  | .q _ b _ o l c => .slice (some ⟨b, o, none⟩) l c
def denCs : List Cel → List Value
  | [] => []
  | x :: l => x.den :: denCs l
inductive SV where
  | c (x : Cel)
  | a (l : List Cel)
def SV.den : SV → Value
  | .c x => x.den
  | .a l => .agg ⟨denCs l⟩
def denE : List SV → List Value
  | [] => []
  | s :: l => s.den :: denE l
/-- what is known of a block: its cells; its cells as one array; nothing more -/
inductive Cs where
  | l (cs : List Cel)
  | r (A : Array Value)
  | x
def Cs.arr : Cs → Option (Array Value)
  | .l cs => some ⟨denCs cs⟩
  | .r A => some A
  | .x => none
structure Bk where
  b : Nat
  cs : Cs
  T : TypeId
  wr : Bool
def LH : List Bk → List Blk
  | [] => []
  | ⟨b, c, T, w⟩ :: H => (match c.arr with | some A => ⟨b, A, T, w⟩ :: LH H | none => LH H)
/-- the state: slots; known blocks; the blocks written since the last world that was seen; that world; has anything happened since? -/
structure Sy where
  env : List SV
  H : List Bk
  M : List Nat
  wp : World
  dy : Bool

def nthS : List SV → Nat → SV
  | [], _ => .c (.v undef)
  | v :: _, 0 => v
  | _ :: vs, n + 1 => nthS vs n
def putS : List SV → Nat → SV → List SV
  | [], _, _ => []
  | _ :: vs, 0, x => x :: vs
  | v :: vs, n + 1, x => v :: putS vs n x
def putSD (env : List SV) : Option Nat → SV → List SV
  | none, _ => env
  | some d, x => putS env d x
/-- a value that is a literal, or that has been told true from false -/
def litV (v : Value) : SV := match v with | .bool b => .c (.k b) | v => .c (.v v)
/-- as litV, where v is known to be told true from false -/
def litIf (b : Bool) (v : Value) : SV := match b with | true => litV v | false => .c (.v v)
def ev3 (env : List SV) : Operand → SV
  | .tmp t => nthS env t
  | .const v => litV v
  | .global g => .c (.v (.pointer (some ⟨g, 0, none⟩)))
  | .func f => .c (.v (.func (.func f) #[] #[]))
def constO : Operand → Bool
  | .const _ => true
  | _ => false
def cvs : List Value → List Cel
  | [] => []
  | v :: l => .v v :: cvs l
def cellsOf : SV → Option (List Cel)
  | .a l => some l
  | .c (.v (.agg ⟨l⟩)) => some (cvs l)
  | _ => none
def nthC : List Cel → Nat → Option Cel
  | [], _ => none
  | v :: _, 0 => some v
  | _ :: vs, n + 1 => nthC vs n
def putC : List Cel → Nat → Cel → List Cel
  | [], _, _ => []
  | _ :: vs, 0, x => x :: vs
  | v :: vs, n + 1, x => v :: putC vs n x
def over : List Cel → List Cel → List Cel
  | l, [] => l
  | [], _ => []
  | _ :: l, x :: xs => x :: over l xs
def spl : List Cel → Nat → List Cel → List Cel
  | l, 0, xs => over l xs
  | [], _, _ => []
  | y :: l, n + 1, xs => y :: spl l n xs
def cutC : List Cel → Nat → Nat → List Cel
  | _, _, 0 => []
  | [], _, _ => []
  | x :: l, 0, n + 1 => x :: cutC l 0 n
  | _ :: l, o + 1, n + 1 => cutC l o (n + 1)
def lenC : List Cel → Nat
  | [] => 0
  | _ :: l => lenC l + 1
def nthH : List Bk → Nat → Option Bk
  | [], _ => none
  | v :: _, 0 => some v
  | _ :: vs, n + 1 => nthH vs n
def setH : List Bk → Nat → Cs → List Bk
  | [], _, _ => []
  | ⟨b, _, T, w⟩ :: H, 0, c => ⟨b, c, T, w⟩ :: H
  | x :: H, n + 1, c => x :: setH H n c
def lenH : List Bk → Nat
  | [] => 0
  | _ :: l => lenH l + 1

/-! ## normal forms, so that nothing is computed twice -/
def fC (x : Cel) (K : Cel → Prop) : Prop :=
  match x with
  | .v x => K (.v x)
  | .k b => K (.k b)
  | .p i b l o => K (.p i b l o)
  | .q i b l o n c => K (.q i b l o n c)
def fL : List Cel → (List Cel → Prop) → Prop
  | [], K => K []
  | x :: l, K => fC x fun x => fL l fun l => K (x :: l)
def fS (s : SV) (K : SV → Prop) : Prop :=
  match s with
  | .c x => fC x fun x => K (.c x)
  | .a l => fL l fun l => K (.a l)
def fE : List SV → (List SV → Prop) → Prop
  | [], K => K []
  | x :: l, K => fE l fun l => K (x :: l)
def fCs (c : Cs) (K : Cs → Prop) : Prop :=
  match c with
  | .l cs => fL cs fun cs => K (.l cs)
  | .r A => K (.r A)
  | .x => K .x
def fH : List Bk → (List Bk → Prop) → Prop
  | [], K => K []
  | ⟨b, c, T, w⟩ :: l, K => fCs c fun c => fH l fun l => K (⟨b, c, T, w⟩ :: l)

def nS (σ : Sy) (K : Sy → Prop) : Prop := match σ with | ⟨e, H, M, wp, dy⟩ => K ⟨e, H, M, wp, dy⟩
def Sy.withEnv (σ : Sy) (e : List SV) : Sy := match σ with | ⟨_, H, M, wp, dy⟩ => ⟨e, H, M, wp, dy⟩
def Sy.st (σ : Sy) (H : List Bk) (b : Nat) : Sy := match σ with | ⟨e, _, M, wp, _⟩ => ⟨e, H, b :: M, wp, true⟩
def Sy.nw (σ : Sy) (H : List Bk) : Sy := match σ with | ⟨e, _, M, wp, _⟩ => ⟨e, H, M, wp, true⟩
def Sy.seen (σ : Sy) (H : List Bk) (w : World) : Sy := match σ with | ⟨e, _, _, _, _⟩ => ⟨e, H, [], w, false⟩
def Sy.withH (σ : Sy) (H : List Bk) : Sy := match σ with | ⟨e, _, M, wp, dy⟩ => ⟨e, H, M, wp, dy⟩
section
variable (P : Program)
/-! ## operations that only compute, or read -/
def spl3 (isb : Bool) (x : Cel) (K : SV → Prop) : Prop :=
  match isb with
  | false => K (.c x)
  | true => match x with
    | .v (.bool b) => (b = true → K (.c (.k true))) ∧ (b = false → K (.c (.k false)))
    | x => K (.c x)
def isBT (t : TypeId) : Bool := match P.underlying t with | some .bool => true | _ => false
def ckT (t : TypeId) : Ck := (flat P 12 t).headD .any
/-- a known block is read at a literal place -/
def ldL (t : TypeId) (cs : List Cel) (o : Nat) (K : SV → Prop) : Prop :=
  match known P t, aggT P t with
  | true, false => (match nthC cs o with | some x => spl3 (isBT P t) x K | none => False)
  | true, true => (match Nat.ble (o + szOf P t) (lenC cs) with | true => K (.a (cutC cs o (szOf P t))) | false => False)
  | false, _ => False
def ldRC (A : Array Value) (o : Nat) : List Ck → (List Value → Prop) → Prop
  | [], K => K []
  | c :: cs, K => tel1 c fun v => A[o]? = some v ∧ ldRC A (o + 1) cs fun r => K (v :: r)
/-- a known block is read at a place that is no literal -/
def ldR (t : TypeId) (A : Array Value) (o : Nat) (K : SV → Prop) : Prop :=
  match known P t, aggT P t with
  | true, false => tel1 (ckT P t) fun v => A[o]? = some v ∧ spl3 (isBT P t) (.v v) K
  | true, true => (match Nat.beq (flat P 12 t).length (szOf P t) with | true => ldRC A o (flat P 12 t) fun vs => K (.c (.v (.agg ⟨vs⟩))) | false => False)
  | false, _ => False
def one3 (c : Ck) (x : Cel) (K : Prop) : Prop :=
  match x with
  | .v v => one1 c v K
  | _ => K
def ones3 : List Ck → List Cel → Prop → Prop
  | [], [], K => K
  | c :: cs, x :: xs, K => one3 c x (ones3 cs xs K)
  | _, _, _ => False
def fill3 (place : Nat → Option (TypeId × Nat)) (cells : List Cel) : List (Nat × SV) → (List Cel → Prop) → Prop
  | [], K => K cells
  | (i, s) :: rest, K =>
    match place i with
    | none => False
    | some (ft, off) =>
      match known P ft, aggT P ft with
      | true, true => (match cellsOf s with
        | some cs => (match Nat.beq (lenC cs) (szOf P ft) && Nat.ble (off + lenC cs) (lenC cells) with | true => fL (spl cells off cs) fun cells => fill3 place cells rest K | false => False)
        | none => False)
      | true, false => (match s with
        | .c y => (match Nat.beq (szOf P ft) 1 && Nat.ble (off + 1) (lenC cells) with | true => one3 (ckT P ft) y (fL (putC cells off y) fun cells => fill3 place cells rest K) | false => False)
        | .a _ => False)
      | false, _ => False
def litC (v : Value) : Cel := match v with | .bool b => .k b | v => .v v
def litCs : List Value → List Cel
  | [] => []
  | v :: l => litC v :: litCs l
def evps (env : List SV) : List (Nat × Operand) → List (Nat × SV)
  | [] => []
  | (i, o) :: r => (i, ev3 env o) :: evps env r
def build3 (env : List SV) (t : TypeId) (parts : Array (Nat × Operand)) (K : SV → Prop) : Prop :=
  match zeroOf P t, P.underlying t with
  | some z, some (.struct fs) =>
    (match fs.toList.all (fun f => known P f.type) with
     | true => fill3 P (fun i => (fs[i]?).map fun f => (f.type, f.offset)) (litCs z.cells.toList) (evps env parts.toList) fun cs => K (.a cs)
     | false => False)
  | some z, some (.array _ e) =>
    (match known P e with
     | true => fill3 P (fun i => some (e, i * szOf P e)) (litCs z.cells.toList) (evps env parts.toList) fun cs => K (.a cs)
     | false => False)
  | _, _ => False
def fieldC (s : TypeId) (cs : List Cel) (f : Nat) (K : SV → Prop) : Prop :=
  match P.underlying s with
  | some (.struct fs) => (match fs[f]? with
    | some fd => ldL P fd.type cs fd.offset K
    | none => False)
  | _ => False
/-- bounds of a slice of what is known -/
def loC (env : List SV) (y : Nat) : Option Operand → (Nat → Prop) → Prop
  | none, K => K 0
  | some o, K => match ev3 env o with
    | .c (.v (.int _ h)) => 0 ≤ h ∧ h ≤ (y : Int) ∧ K h.toNat
    | _ => False
def hiC (env : List SV) (len y : Nat) : Option Operand → (Nat → Prop) → Prop
  | none, K => K len
  | some o, K => match ev3 env o with
    | .c (.v (.int _ h)) => 0 ≤ h ∧ h ≤ (y : Int) ∧ K h.toNat
    | _ => False
def sliceAt0 (lo : Option Operand) (cap l o sz : Nat) : Nat := match lo with | none => o | some _ => if cap = l then o else o + l * sz
def sil3 (R : Addr → Value → Prop) (rd : Nat → Bool) (env : List SV) (H : List Bk) (o : Oper) (K : SV → Prop) : Prop :=
  match o.op with
  | .move x | .assign x => K (ev3 env x)
  | .pick c a b => (match ev3 env c with
    | .c (.k true) => K (ev3 env a)
    | .c (.k false) => K (ev3 env b)
    | _ => False)
  | .nilCheck x => (match ev3 env x with
    | .c (.p i b l a) => K (.c (.p i b l a))
    | _ => opS P R (denE env) o fun v => K (.c (.v v)))
  | .fieldAddr s x f => (match ev3 env x with
    | .c (.p i b l a) => (match P.underlying s with
      | some (.struct fs) => (match fs[f]? with
        | some fd => (match known P fd.type && !Nat.beq (szOf P fd.type) 0 with | true => K (.c (.p i b l (a + fd.offset))) | false => False)
        | none => False)
      | _ => False)
    | _ => opS P R (denE env) o fun v => K (.c (.v v)))
  | .field s x f => (match ev3 env x with
    | .a cs => fieldC P s cs f K
    | _ => opS P R (denE env) o fun v => K (litIf (boolRes P o) v))
  | .index t x i => (match ev3 env x, constO i, ev3 env i, P.underlying t with
    | .a cs, true, .c (.v (.int _ n)), some (.array l e) => (match n with
      | .ofNat n => (match Nat.blt n l && known P e with | true => ldL P e cs (n * szOf P e) K | false => False)
      | _ => False)
    | _, _, _, _ => opS P R (denE env) o fun v => K (litIf (boolRes P o) v))
  | .indexAddr t x i => (match ev3 env x, ev3 env i, P.underlying t with
    | .c (.q b n lit a l _), .c (.v (.int _ j)), some (.slice e) =>
      (match known P e with | true => 0 ≤ j ∧ j < l ∧ K (.c (.p b n (lit && constO i) (a + j.toNat * szOf P e))) | false => False)
    | .c (.p b n lit a), .c (.v (.int _ j)), some (.array l e) =>
      (match known P e with | true => 0 ≤ j ∧ j < l ∧ K (.c (.p b n (lit && constO i) (a + j.toNat * szOf P e))) | false => False)
    | _, _, _ => opS P R (denE env) o fun v => K (.c (.v v)))
  | .slice t x lo hi none => (match ev3 env x, P.underlying t with
    | .c (.q b n lit a l c), some (.slice e) =>
      (match known P e with | true => hiC env l c hi fun h => loC env h lo fun g => K (.c (.q b n (lit && lo.isNone) (sliceAt0 lo c g a (szOf P e)) (h - g) (c - g))) | false => False)
    | .c (.p b n lit a), some (.array l e) =>
      (match known P e with | true => hiC env l l hi fun h => loC env h lo fun g => K (.c (.q b n (lit && (lo.all constO)) (sliceAt0 lo l g a (szOf P e)) (h - g) (l - g))) | false => False)
    | _, _ => opS P R (denE env) o fun v => K (.c (.v v)))
  | .load t a => (match ev3 env a with
    | .c (.p i b lit o') => (match nthH H i, rd i with
      | some ⟨_, .l cs, _, _⟩, true => (match lit with
        | true => ldL P t cs o' K
        | false => ldR P t ⟨denCs cs⟩ o' K)
      | some ⟨_, .r A, _, _⟩, true => ldR P t A o' K
      | _, _ => opS P R (denE env) o fun v => K (litIf (boolRes P o) v))
    | _ => opS P R (denE env) o fun v => K (litIf (boolRes P o) v))
  | .build t parts => build3 P env t parts K
  | .binOp op t x y _ => (match nilTy P t y, ev3 env x, y, op with
    | true, .c (.p _ _ _ _), .const (.pointer none), .eql => K (.c (.k false))
    | true, .c (.p _ _ _ _), .const (.pointer none), .neq => K (.c (.k true))
    | true, .c (.q _ _ _ _ _ _), .const (.slice none _ _), .eql => K (.c (.k false))
    | true, .c (.q _ _ _ _ _ _), .const (.slice none _ _), .neq => K (.c (.k true))
    | _, _, _, _ => opS P R (denE env) o fun v => K (litV v))
  | .unOp _ _ _ => opS P R (denE env) o fun v => K (litV v)
  | .extract _ _ => opS P R (denE env) o fun v => K (litIf (isBT P o.type) v)
  | _ => opS P R (denE env) o fun v => K (litIf (boolRes P o) v)
/-- does the reader have to be asked for what a cell holds? -/
def asks (env : List SV) (H : List Bk) (o : Oper) : Bool :=
  match o.op with
  | .load _ a => (match ev3 env a with
    | .c (.p i _ _ _) => (match nthH H i with | some ⟨_, .x, _, _⟩ => true | some _ => false | none => true)
    | _ => true)
  | _ => false
def exT3 (okf : Ctx) (o : Oper) (s : SV) (K : SV → Prop) : Prop :=
  match okf.ext.contains (o.dst.getD 0) with
  | true => (match s with
    | .c (.v v) => tyB (kdOf P o.type) v fun v => K (litIf (isBT P o.type) v)
    | s => K s)
  | false => K s

/-! ## operations that change memory, or ask -/
variable (okf : Ctx) (S : Nat → Prop) (w0 : World) (nE : Nat)
/-- a world is seen -/
def vis (σ : Sy) (K : World → Sy → Prop) : Prop :=
  match σ.dy with
  | false => K σ.wp σ
  | true => ∀ w, Fr S w0 σ.wp σ.M (LH σ.H) w → nS (σ.seen σ.H w) (K w)
def new3 (σ : Sy) (T : TypeId) (cs : List Cel) (K : SV → Sy → Prop) (f : Nat → SV) : Prop :=
  fL cs fun cs => ∀ r, σ.wp.heap.size ≤ r → fH (σ.H ++ [⟨r, .l cs, T, true⟩]) fun H => nS (σ.nw H) (K (f r))
def rep (n : Nat) (l : List Ck) : List Ck := match n with | 0 => [] | n + 1 => l ++ rep n l
/-- known blocks whose cells another one may have changed -/
def hav3 : List Nat → List Bk → (List Bk → Prop) → Prop
  | [], H, K => K H
  | i :: is, H, K =>
    match nthH H i with
    | some ⟨_, .l cs, T, true⟩ =>
      (match Nat.beq ((lenC cs / (flat P 12 T).length) * (flat P 12 T).length) (lenC cs) with
       | true => tel (rep (lenC cs / (flat P 12 T).length) (flat P 12 T)) fun vs => hav3 is (setH H i (.l (cvs vs))) K
       | false => False)
    | some ⟨_, .r _, _, true⟩ => ∃ A, hav3 is (setH H i (.r A)) K
    | _ => False
def gen3 (hv : List Nat) (σ : Sy) (o : Oper) (K : SV → Sy → Prop) : Prop :=
  vis S w0 σ fun w σ1 => opI P okf (denE σ1.env) o (fun v w' => hav3 P hv σ1.H fun H' => Fs S w0 (LH H') w' ∧
    nS (σ1.seen H' w') (K (litIf (isBT P o.type) v))) w
def unl (lk : Nat → Bool) : List Nat → Bool
  | [] => true
  | i :: is => !lk i && unl lk is
def ns3 (lk : Nat → Bool) (hv : List Nat) (σ : Sy) (o : Oper) (K : SV → Sy → Prop) : Prop :=
  match o.op with
  | .store t a x => (match ev3 σ.env a with
    | .c (.p i b lit off) => (match nthH σ.H i, lk i with
      | some ⟨_, .l cs, _, true⟩, false => (match lit, known P t, aggT P t with
        | true, true, false => (match ev3 σ.env x with
          | .c y => (match Nat.beq (szOf P t) 1 && Nat.blt off (lenC cs) with
            | true => one3 (ckT P t) y (fL (putC cs off y) fun cs => fH (setH σ.H i (.l cs)) fun H => nS (σ.st H b) (K (.c (.v undef))))
            | false => False)
          | .a _ => False)
        | true, true, true => (match cellsOf (ev3 σ.env x) with
          | some ys => (match Nat.beq (lenC ys) (szOf P t) && Nat.ble (off + lenC ys) (lenC cs) with
            | true => ones3 (flat P 12 t) ys (fL (spl cs off ys) fun cs => fH (setH σ.H i (.l cs)) fun H => nS (σ.st H b) (K (.c (.v undef))))
            | false => False)
          | none => False)
        | false, true, false => (match ev3 σ.env x with
          | .c y => (match Nat.beq (szOf P t) 1 with
            | true => off < lenC cs ∧ one3 (ckT P t) y (fH (setH σ.H i (.r ((⟨denCs cs⟩ : Array Value).setIfInBounds off y.den))) fun H => nS (σ.st H b) (K (.c (.v undef))))
            | false => False)
          | .a _ => False)
        | _, _, _ => False)
      | some ⟨_, .r A, _, true⟩, false => (match known P t, aggT P t with
        | true, false => (match ev3 σ.env x with
          | .c y => (match Nat.beq (szOf P t) 1 with
            | true => off < A.size ∧ one3 (ckT P t) y (fH (setH σ.H i (.r (A.setIfInBounds off y.den))) fun H => nS (σ.st H b) (K (.c (.v undef))))
            | false => False)
          | .a _ => False)
        | _, _ => False)
      | some ⟨_, .x, _, _⟩, _ => gen3 P okf S w0 [] σ o K
      | _, _ => False)
    | _ => gen3 P okf S w0 [] σ o K)
  | .alloc t => (match zeroOf P t with
    | some z => new3 σ t (litCs z.cells.toList) K fun r => .c (.p (lenH σ.H) r true 0)
    | none => False)
  | .box t x => (match aggT P t with
    | true => (match cellsOf (ev3 σ.env x) with
      | some cs => new3 σ t cs K fun r => .c (.p (lenH σ.H) r true 0)
      | none => False)
    | false => (match ev3 σ.env x with
      | .c y => one3 (ckT P t) y (new3 σ t [y] K fun r => .c (.p (lenH σ.H) r true 0))
      | .a _ => False))
  | .buildSlice t len parts => (match P.underlying t with
    | some (.slice e) => (match known P e, zeroOf P e with
      | true, some z => (match Nat.ble (len * szOf P e) 16777216 && !Nat.beq (len * szOf P e) 0 with
        | true => fill3 P (fun i => some (e, i * szOf P e)) (litCs ((Array.range (len * szOf P e)).map (z.cells[· % z.cells.size]!)).toList) (evps σ.env parts.toList) fun cs =>
            new3 σ e cs K fun r => .c (.q (lenH σ.H) r true 0 len len)
        | false => (match Nat.beq (len * szOf P e) 0 && Nat.beq parts.size 0 with
          | true => new3 σ e [] K fun r => .c (.q (lenH σ.H) r true 0 len len)
          | false => False))
      | _, _ => False)
    | _ => False)
  | _ => (match unl lk hv with | true => gen3 P okf S w0 hv σ o K | false => False)

def refC : Cel → List Nat → List Nat
  | .p i _ _ _, l => i :: l
  | .q i _ _ _ _ _, l => i :: l
  | _, l => l
def refCs : List Cel → List Nat → List Nat
  | [], l => l
  | x :: xs, l => refC x (refCs xs l)
def refS : SV → List Nat → List Nat
  | .c x, l => refC x l
  | .a xs, l => refCs xs l
def wrIn (H : List Bk) (i : Nat) : Bool := match nthH H i with | some ⟨_, .l _, _, true⟩ => true | some ⟨_, .r _, _, true⟩ => true | _ => false
/-- the blocks that a call is handed, and may change (told by the mark 999) -/
def hvOf (l : List Nat) (env : List SV) (H : List Bk) (o : Oper) : List Nat :=
  match l with
  | [999] => (match o.op with
    | .call c => ((c.args.toList.foldr (fun x l => refS (ev3 env x) l) []).filter (wrIn H)).eraseDups
    | _ => [])
  | l => l
/-! ## regions -/
/-- one operation, in its turn -/
def one3o (ops : Array Oper) (lk : Nat → Bool) (hvs : List (Nat × List Nat)) (i : Nat) (σ : Sy) (K : Sy → Prop) : Prop :=
  match ops[i]? with
  | none => K σ
  | some o => match Region.wanted o (yielded ops ⟨denE σ.env⟩) with
    | true => (match silent P o.op with
      | true => (match asks σ.env σ.H o with
        | true => vis S w0 σ fun w σ1 => sil3 P (fun a v => w.cell? a = some v) (fun _ => true) σ1.env σ1.H o fun s => exT3 P okf o s fun s => fS s fun s => fE (putSD σ1.env o.dst s) fun e => nS (σ1.withEnv e) K
        | false => sil3 P (fun _ _ => False) (fun _ => true) σ.env σ.H o fun s => exT3 P okf o s fun s => fS s fun s => fE (putSD σ.env o.dst s) fun e => nS (σ.withEnv e) K)
      | false => ns3 P okf S w0 lk (hvOf ((hvs.lookup i).getD []) σ.env σ.H o) σ o fun s σ1 => fS s fun s => fE (putSD σ1.env o.dst s) fun e => nS (σ1.withEnv e) K)
    | false => fE (putSD σ.env o.dst (.c (.v undef))) fun e => nS (σ.withEnv e) K
def ops3 (ops : Array Oper) (lk : Nat → Bool) (hvs : List (Nat × List Nat)) : List Nat → Sy → (Sy → Prop) → Prop
  | [], σ, K => K σ
  | i :: rest, σ, K => one3o P okf S w0 ops lk hvs i σ fun σ => ops3 ops lk hvs rest σ K
def silo3 (ops : Array Oper) (Su : World → Prop) (rd : Nat → Bool) (i : Nat) (σ : Sy) (K : Sy → Prop) : Prop :=
  match ops[i]? with
  | none => False
  | some o => match Region.wanted o (yielded ops ⟨denE σ.env⟩) with
    | true => sil3 P (fun a v => ∀ w, Su w → w.cell? a = some v) rd σ.env σ.H o fun s => exT3 P okf o s fun s => fS s fun s => fE (putSD σ.env o.dst s) fun e => nS (σ.withEnv e) K
    | false => fE (putSD σ.env o.dst (.c (.v undef))) fun e => nS (σ.withEnv e) K
def keep3 (user : Bool) (Su : World → Prop) (σ : Sy) (K : Sy → Prop) : Prop :=
  match user with
  | true => vis S w0 σ fun w σ1 => Su w ∧ K σ1
  | false => K σ
def any3 (ops : Array Oper) (user : Bool) (Su : World → Prop) (rd lk : Nat → Bool) (hvs : List (Nat × List Nat)) : Nat → Array Bool → Sy → (Sy → Prop) → Prop
  | 0, listed, σ, K => (match Region.ready .any ops listed with | [] => K σ | _ => False)
  | n + 1, listed, σ, K =>
    match Region.ready .any ops listed with
    | [] => K σ
    | r :: rs => match (r :: rs).find? (silAt P ops (denE σ.env) listed) with
      | some i => silo3 P okf ops Su rd i σ fun σ => any3 ops user Su rd lk hvs n (listed.setIfInBounds i true) σ K
      | none => allR (r :: rs) fun i => one3o P okf S w0 ops lk hvs i σ fun σ => match isLast ops i with
        | true => any3 ops user Su rd lk hvs n (listed.setIfInBounds i true) σ K
        | false => keep3 S w0 user Su σ fun σ => any3 ops user Su rd lk hvs n (listed.setIfInBounds i true) σ K

/-! ## code -/
/-- what is told of a region: the slots that are still spoken of (if what isn't is to be forgotten); is the reader asked for what stays?; the blocks that it changes; which blocks an operation's callee changes -/
structure RA where
  keep : Option (List Nat)
  user : Bool
  drop : List Nat
  hv : List (Nat × List Nat)
inductive An where
  | z
  | s (a b : An)
  | cut (live : List (Nat × Sk)) (gs : List Nat) (a b : An)
  | c (a b : An)
  | l (keep keep2 : Option (List Nat)) (live : List (Nat × Sk)) (gs : List Nat) (b : An)
  | b (a : An)
  | r (x : RA)
def An.fst : An → An
  | .s x _ | .cut _ _ x _ | .c x _ | .b x | .l _ _ _ _ x => x
  | _ => .z
def An.snd : An → An
  | .s _ x | .cut _ _ _ x | .c _ x => x
  | _ => .z
def An.cuts : An → Option (List (Nat × Sk) × List Nat)
  | .cut x y _ _ => some (x, y)
  | _ => none
def An.live : An → List (Nat × Sk) × List Nat
  | .l _ _ x y _ => (x, y)
  | _ => ([], [])
def An.kp : An → Option (List Nat)
  | .l x _ _ _ _ => x
  | _ => none
def An.kp2 : An → Option (List Nat)
  | .l _ x _ _ _ => x
  | _ => none
def An.ra : An → RA
  | .r x => x
  | _ => ⟨none, true, [], []⟩
def refsAt (env : List SV) : List Nat → List Nat
  | [] => []
  | i :: is => refS (nthS env i) (refsAt env is)
def refsH (H : List Bk) : List Nat → List Nat
  | [] => []
  | i :: is => match nthH H i with
    | some ⟨_, .l cs, _, _⟩ => i :: refCs cs (refsH H is)
    | _ => i :: refsH H is
def forget1 (keep : List Nat) (nE : Nat) (lk : Nat → Bool) : Nat → List Bk → List Bk
  | _, [] => []
  | i, ⟨b, c, T, w⟩ :: H => (match keep.contains i || Nat.blt i nE || lk i with | true => ⟨b, c, T, w⟩ | false => ⟨b, .x, T, w⟩) :: forget1 keep nE lk (i + 1) H
def forget (keep : Option (List Nat)) (nE : Nat) (lk : Nat → Bool) (σ : Sy) (K : Sy → Prop) : Prop :=
  match keep with
  | none => K σ
  | some ks => fH (forget1 (refsH σ.H (refsH σ.H (refsH σ.H (refsAt σ.env ks)))) nE lk 0 σ.H) fun H => nS (σ.withH H) K
def blkV (H : List Bk) (i : Nat) : Value := match nthH H i with
  | some ⟨_, c, _, _⟩ => (match c.arr with | some A => .agg A | none => undef)
  | none => undef
def csOf (k : Sk) (v : Value) : Cs := match k with
  | .a _ => (match v with | .agg ⟨l⟩ => .l (cvs l) | _ => .x)
  | .c _ => .r v.cells
/-- none of these blocks has been forgotten -/
def gsLive (H : List Bk) : List (Nat × Sk) → Bool
  | [] => true
  | (i, _) :: gs => (match nthH H i with | some ⟨_, .l _, _, _⟩ => true | some ⟨_, .r _, _, _⟩ => true | _ => false) && gsLive H gs
def lvOk (m : List Nat) : List (Nat × Sk) → Bool
  | [] => true
  | (i, _) :: l => m.contains i && lvOk m l
def setHs (H : List Bk) : List (Nat × Sk) → List Value → List Bk
  | [], _ => H
  | (i, k) :: gs, vs => setHs (setH H i (csOf k (vs.headD undef))) gs vs.tail
def svOf (k : Sk) (v : Value) : SV := match k with | .c .bool => litV v | _ => .c (.v v)
def setAllS (env : List SV) : List (Nat × Sk) → List Value → List SV
  | [], _ => env
  | (i, k) :: is, vs => setAllS (putS env i (svOf k (vs.headD undef))) is vs.tail
def resetS (env : List SV) : List Nat → (Nat → Value) → List SV
  | [], _ => env
  | i :: is, D => resetS (putS env i (.c (.v (D i)))) is D
def gKinds (l g : List (Nat × Sk)) : List Sk := l.map (·.2) ++ g.map (·.2)
def gVals (σ : Sy) (l g : List (Nat × Sk)) : List Value := l.map (fun x => (nthS σ.env x.1).den) ++ g.map fun x => blkV σ.H x.1
def gsOk (H : List Bk) (lk : Nat → Bool) : List (Nat × Sk) → Bool
  | [] => true
  | (i, k) :: gs => !lk i && (match nthH H i with
    | some ⟨_, .l _, _, true⟩ => true
    | some ⟨_, .r _, _, true⟩ => (match k with | .c .any => true | _ => false)
    | _ => false) && gsOk H lk gs
/-- the blocks that slots point to, and their cells' kinds -/
def gsOf (env : List SV) (H : List Bk) : List Nat → List Nat → List (Nat × Sk)
  | [], _ => []
  | s :: ss, seen => match (match nthS env (s % 1000000) with | .c (.p i _ _ _) => some i | .c (.q i _ _ _ _ _) => some i | _ => none) with
    | some i => (match seen.contains i, nthH H i, Nat.ble 1000000 s with
      | false, some ⟨_, .l cs, T, _⟩, false => (i, .a (rep (lenC cs / (flat P 12 T).length) (flat P 12 T))) :: gsOf env H ss (i :: seen)
      | false, some ⟨_, .l _, _, _⟩, true => (i, .c .any) :: gsOf env H ss (i :: seen)
      | false, some ⟨_, .r _, _, _⟩, _ => (i, .c .any) :: gsOf env H ss (i :: seen)
      | _, _, _ => gsOf env H ss seen)
    | none => gsOf env H ss seen
def fKs : List Ck → (List Ck → Prop) → Prop
  | [], K => K []
  | .int k :: l, K => fKs l fun l => K (.int k :: l)
  | .bool :: l, K => fKs l fun l => K (.bool :: l)
  | .str :: l, K => fKs l fun l => K (.str :: l)
  | .ptr :: l, K => fKs l fun l => K (.ptr :: l)
  | .sl :: l, K => fKs l fun l => K (.sl :: l)
  | .mp :: l, K => fKs l fun l => K (.mp :: l)
  | .any :: l, K => fKs l fun l => K (.any :: l)
def fG : List (Nat × Sk) → (List (Nat × Sk) → Prop) → Prop
  | [], K => K []
  | (i, .c k) :: l, K => fG l fun l => K ((i, .c k) :: l)
  | (i, .a ks) :: l, K => fKs ks fun ks => fG l fun l => K ((i, .a ks) :: l)
def dropV (l : List (Nat × Sk)) (vs : List Value) : List Value := vs.drop l.length
/-- the blocks that are there and aren't told of change -/
def lock (H : List Bk) (g : List (Nat × Sk)) (lk : Nat → Bool) (i : Nat) : Bool := lk i || (Nat.blt i (lenH H) && !(g.map (·.1)).contains i)
/-- the blocks that slots point to -/
def slotsIx (env : List SV) : List Nat → List Nat
  | [] => []
  | s :: ss => refS (nthS env s) (slotsIx env ss)
def lockR (H : List Bk) (drop : List Nat) (i : Nat) : Bool := Nat.blt i (lenH H) && !drop.contains i
/-- a function's results -/
def resK (H : List Bk) (env : List SV) : List ResultVar → (List Value → Prop) → Prop
  | [], K => K []
  | .tmp t :: rs, K => resK H env rs fun vs => K ((nthS env t).den :: vs)
  | .cell a t :: rs, K => (match nthS env a with
    | .c (.p i _ lit o) => (match nthH H i with
      | some ⟨_, .l cs, _, _⟩ => (match lit with
        | true => ldL P t cs o fun s => resK H env rs fun vs => K (s.den :: vs)
        | false => ldR P t ⟨denCs cs⟩ o fun s => resK H env rs fun vs => K (s.den :: vs))
      | some ⟨_, .r A, _, _⟩ => ldR P t A o fun s => resK H env rs fun vs => K (s.den :: vs)
      | _ => False)
    | _ => False)
def oneV : List Value → Value
  | [v] => v
  | vs => .tuple ⟨vs⟩
def retK3 (fn : Func) (K : Value → World → Prop) : Exit → Sy → Prop
  | .normal, σ => resK P σ.H σ.env fn.results.toList fun vs => forget (some []) nE (fun _ => false) σ fun σ => vis S w0 σ fun w _ => K (oneV vs) w
  | .ret, σ => resK P σ.H σ.env fn.results.toList fun vs => forget (some []) nE (fun _ => false) σ fun σ => vis S w0 σ fun w _ => K (oneV vs) w
  | _, _ => False
def seqK3 (N : Sy → Prop) (K : Exit → Sy → Prop) : Exit → Sy → Prop
  | .normal, σ => N σ
  | e, σ => K e σ
def blkK3 (id : Nat) (K : Exit → Sy → Prop) : Exit → Sy → Prop
  | .exit i, σ => (if i = id then K .normal σ else K (.exit i) σ)
  | e, σ => K e σ
def vc3 : Code → An → (Nat → Bool) → Sy → (Exit → Sy → Prop) → Prop
  | .skip, _, _, σ, K => K .normal σ
  | .label _, _, _, σ, K => K .normal σ
  | .exit id, _, _, σ, K => K (.exit id) σ
  | .ret, _, _, σ, K => K .ret σ
  | .region _ ops d, an, lk, σ, K =>
    forget an.ra.keep nE lk σ fun σ =>
    (match d with
     | false => ops3 P okf S w0 ops lk an.ra.hv (List.range ops.size) σ (K .normal)
     | true => (match drawOk P ops with
       | true => (match an.ra.user with
         | false => any3 P okf S w0 ops false (fun _ => True) (lockR σ.H (slotsIx σ.env an.ra.drop)) (fun i => lk i || lockR σ.H (slotsIx σ.env an.ra.drop) i) an.ra.hv ops.size (Array.replicate ops.size false) (σ.nw σ.H) (K .normal)
         | true => vis S w0 (σ.nw σ.H) fun w σ => ∃ Su : World → Prop, Su w ∧
             any3 P okf S w0 ops true Su (lockR σ.H (slotsIx σ.env an.ra.drop)) (fun i => lk i || lockR σ.H (slotsIx σ.env an.ra.drop) i) an.ra.hv ops.size (Array.replicate ops.size false) σ (K .normal))
       | false => False))
  | .seq a b, an, lk, σ, K =>
    (match an.cuts with
     | none => vc3 a an.fst lk σ (seqK3 (fun σ => vc3 b an.snd lk σ K) K)
     | some (live, gl) => fG (gsOf P σ.env σ.H gl []) fun gs =>
       (match gsOk σ.H lk gs && lvOk (writes a) live with
        | true => ∃ J : CurT (gKinds live gs) (World → Prop),
           vc3 a an.fst (lock σ.H gs lk) σ (seqK3 (fun σ1 => match gsLive σ1.H gs with | true => vis S w0 σ1 fun w σ1 => atT (gKinds live gs) J (gVals σ1 live gs) fun p => p w | false => False) K) ∧
           allT (gKinds live gs) J fun vals p => ∀ (D : Nat → Value) (w : World), p w → Fs S w0 (LH (setHs σ.H gs (dropV live vals))) w →
             fE (setAllS (resetS σ.env (writes a) D) live vals) fun e => fH (setHs σ.H gs (dropV live vals)) fun H => vc3 b an.snd lk ⟨e, H, [], w, false⟩ K
        | false => False))
  | .cond c a b, an, lk, σ, K =>
    (match ev3 σ.env c with
     | .c (.k true) => vc3 a an.fst lk σ K
     | .c (.k false) => vc3 b an.snd lk σ K
     | .c (.v (.bool true)) => vc3 a an.fst lk σ K
     | .c (.v (.bool false)) => vc3 b an.snd lk σ K
     | _ => False)
  | .block id a, an, lk, σ, K => vc3 a an.fst lk σ (blkK3 id K)
  | .scope a, an, lk, σ, K => vc3 a an.fst lk σ (fun e σ => match e with | .goto _ => False | e => K e σ)
  | .loop a, an, lk, σ, K =>
    forget an.kp nE lk σ fun σ => vis S w0 σ fun w σ => forget an.kp2 nE lk σ fun σ =>
    fG (gsOf P σ.env σ.H an.live.2 []) fun gs =>
    (match gsOk σ.H lk gs && lvOk (writes a) an.live.1 with
     | true => ∃ I : CurT (gKinds an.live.1 gs) (Nat → World → Prop),
        (∃ m, atT (gKinds an.live.1 gs) I (gVals σ an.live.1 gs) fun p => p m w) ∧
        allT (gKinds an.live.1 gs) I fun vals p => ∀ (D : Nat → Value) (m : Nat) (w : World), p m w → Fs S w0 (LH (setHs σ.H gs (dropV an.live.1 vals))) w →
          fE (setAllS (resetS σ.env (writes a) D) an.live.1 vals) fun e => fH (setHs σ.H gs (dropV an.live.1 vals)) fun H =>
          vc3 a an.fst (lock σ.H gs lk) ⟨e, H, [], w, false⟩
            (seqK3 (fun σ1 => match gsLive σ1.H gs with | true => vis S w0 σ1 fun w1 σ1 => ∃ m', m' < m ∧ atT (gKinds an.live.1 gs) I (gVals σ1 an.live.1 gs) fun p => p m' w1 | false => False) K)
     | false => False)
  | _, _, _, _, _ => False
end
end Go.Vc
