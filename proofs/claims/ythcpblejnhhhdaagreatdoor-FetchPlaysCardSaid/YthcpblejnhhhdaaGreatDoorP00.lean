/-
  A part of the proof of the statement FetchPlaysCardSaid, in Lean: Vc1, Vc2, Vc3, Vc4, Vc5, Vc6, Vc0, Vc7, Lb1. By an AI agent.
-/
import Derived.OrdersHeld
import Derived.Laws.World
import Derived.Laws.Strings
import Derived.Laws.Slices
import Derived.Laws.StructEq
import Derived.Scope
set_option linter.unusedVariables false
set_option linter.unusedSimpArgs false
set_option maxRecDepth 100000
namespace Go.Vc
open Go
def nth:List Value→Nat→Value
  | [],_=>undef
  | v :: _,0=>v
  | _ :: vs,n+1=>nth vs n
def put:List Value→Nat→Value→List Value
  | [],_,_=>[]
  | _ :: vs,0,x=>x :: vs
  | v :: vs,n+1,x=>v :: put vs n x
def putD (env:List Value):Option Nat→Value→List Value
  | none,_=>env
  | some d,x=>put env d x
def ev (env:List Value):Operand→Value
  | .tmp t=>nth env t
  | .const v=>v
  | .global g=>.pointer (some ⟨g,0,none⟩)
  | .func f=>.func (.func f) #[] #[]
theorem rS_ (env:List Value) (n:Nat):nth env n=env.toArray.getD n undef:=by
  induction env generalizing n with
  | nil=>simp [nth]
  | cons v vs ih=>cases n with
    | zero=>simp [nth]
    | succ n=>simp [nth,ih]
theorem put_eq (env:List Value) (n:Nat) (x:Value):(put env n x).toArray=env.toArray.setIfInBounds n x:=by
  induction env generalizing n with
  | nil=>simp [put]
  | cons v vs ih=>cases n with
    | zero=>simp [put]
    | succ n=>
      have:=ih n
      simp only [List.setIfInBounds_toArray,List.set_cons_succ,put] at this ⊢
      simpa using this
def act (env:List Value):Act:={ tmps:=env.toArray,defers:=[] }
theorem cS_ (env:List Value) (d:Option Nat) (x:Value):(act env).put d x=act (putD env d x):=by
  cases d <;> simp [act,Act.put,putD,put_eq]
theorem i1_ (env:List Value):(act env).eval=ev env:=by
  funext o;cases o <;> simp [act,Act.eval,ev,rS_]
inductive Ck where
  | int (k:IntKind) | bool | str | ptr | sl | mp | any
inductive Sk where
  | c (k:Ck) | a (ks:List Ck)
inductive Kd where
  | s (k:Sk) | t (ks:List Sk)
def flat (P:Program):Nat→TypeId→List Ck
  | 0,_=>[]
  | n+1,t=>
    match P.underlying t with
    | some .bool=>[.bool]
    | some (.int k)=>[.int k]
    | some .string=>[.str]
    | some (.pointer _)=>[.ptr]
    | some (.slice _)=>[.sl]
    | some (.map _ _)=>[.mp]
    | some (.struct fs)=>fs.toList.flatMap λf=>flat P n f.type
    | some (.array m e)=>(List.replicate m (flat P n e)).flatten
    | _=>[.any]
def aggT (P:Program) (t:TypeId):Bool:=
  match P.underlying t with
  | some (.struct _) | some (.array _ _)=>true
  | _=>false
def skOf (P:Program) (t:TypeId):Sk:=if aggT P t then .a (flat P 12 t) else .c ((flat P 12 t).headD .any)
def kdOf (P:Program) (t:TypeId):Kd:=
  match P.underlying t with
  | some (.tuple ts)=>.t (ts.toList.map (skOf P))
  | _=>.s (skOf P t)
def tel:List Ck→(List Value→Prop)→Prop
  | [],K=>K []
  | .int k :: cs,K=>∃n:Int,tel cs λr=>K (.int k n :: r)
  | .bool :: cs,K=>∃b:Bool,tel cs λr=>K (.bool b :: r)
  | .str :: cs,K=>∃s:ByteArray,tel cs λr=>K (.string s :: r)
  | .ptr :: cs,K=>∃p:Option Addr,tel cs λr=>K (.pointer p :: r)
  | .sl :: cs,K=>∃(a:Option Addr) (l c:Nat),tel cs λr=>K (.slice a l c :: r)
  | .mp :: cs,K=>∃m:Option Nat,tel cs λr=>K (.map m :: r)
  | .any :: cs,K=>∃v:Value,tel cs λr=>K (v :: r)
def tel1 (c:Ck) (K:Value→Prop):Prop:=
  match c with
  | .int k=>∃n:Int,K (.int k n)
  | .bool=>∃b:Bool,K (.bool b)
  | .str=>∃s:ByteArray,K (.string s)
  | .ptr=>∃p:Option Addr,K (.pointer p)
  | .sl=>∃(a:Option Addr) (l c:Nat),K (.slice a l c)
  | .mp=>∃m:Option Nat,K (.map m)
  | .any=>∃v:Value,K v
def telS (s:Sk) (K:Value→Prop):Prop:=
  match s with
  | .c k=>tel1 k K
  | .a ks=>tel ks λvs=>K (.agg ⟨vs⟩)
def r6_:List Sk→(List Value→Prop)→Prop
  | [],K=>K []
  | s :: ss,K=>telS s λv=>r6_ ss λr=>K (v :: r)
theorem k0_:∀ {cs:List Ck} {K:List Value→Prop},tel cs K→∃vs,K vs
  | [],_,h=>⟨_,h⟩
  | .int _ :: _,_,⟨_,h⟩ | .bool :: _,_,⟨_,h⟩ | .str :: _,_,⟨_,h⟩ | .ptr :: _,_,⟨_,h⟩ | .mp :: _,_,⟨_,h⟩ | .any :: _,_,⟨_,h⟩=>
    let ⟨_,h⟩:=k0_ h;⟨_,h⟩
  | .sl :: _,_,⟨_,_,_,h⟩=>let ⟨_,h⟩:=k0_ h;⟨_,h⟩
theorem f5_ {c:Ck} {K:Value→Prop} (h:tel1 c K):∃v,K v:=by
  cases c <;> simp only [tel1] at h
  case sl=>obtain ⟨_,_,_,h⟩:=h;exact ⟨_,h⟩
  all_goals (obtain ⟨_,h⟩:=h;exact ⟨_,h⟩)
theorem oM_ {s:Sk} {K:Value→Prop} (h:telS s K):∃v,K v:=by
  cases s with
  | c k=>exact f5_ h
  | a ks=>obtain ⟨_,h⟩:=k0_ h;exact ⟨_,h⟩
theorem m0_:∀ {ss:List Sk} {K:List Value→Prop},r6_ ss K→∃vs,K vs
  | [],_,h=>⟨_,h⟩
  | _ :: _,_,h=>let ⟨_,h⟩:=oM_ h;let ⟨_,h⟩:=m0_ h;⟨_,h⟩
def oX_:Value→(Value→Prop)→Prop
  | .bool b,K=>(b=true→K (.bool true))∧(b=false→K (.bool false))
  | v,K=>K v
theorem l3_ {v:Value} {K:Value→Prop} (h:oX_ v K):K v:=by
  cases v <;> simp only [oX_] at h <;> try exact h
  rename_i b;cases b
  · exact h.2 rfl
  · exact h.1 rfl
def f9_ (b:Bool) (v:Value) (K:Value→Prop):Prop:=match b with | true=>oX_ v K | false=>K v
theorem b__ {b:Bool} {v:Value} {K:Value→Prop} (h:f9_ b v K):K v:=by
  cases b
  · exact h
  · exact l3_ h
def isB:Sk→Bool
  | .c .bool=>true
  | _=>false
def oY_:List Sk→List Value→(List Value→Prop)→Prop
  | [],vs,K=>K vs
  | _ :: _,[],K=>K []
  | s :: ss,v :: vs,K=>f9_ (isB s) v λv=>oY_ ss vs λr=>K (v :: r)
theorem l4_:∀ {ss:List Sk} {vs:List Value} {K:List Value→Prop},oY_ ss vs K→K vs:=by
  intro ss
  induction ss with
  | nil=>intro vs K h;exact h
  | cons s ss ih=>
    intro vs K h
    cases vs with
    | nil=>exact h
    | cons v vs=>exact ih (K:=λr=>K (v :: r)) (b__ h)
def tyB (k:Kd) (v:Value) (K:Value→Prop):Prop:=
  match k with
  | .s s=>telS s λx=>v=x∧f9_ (isB s) x K
  | .t ss=>r6_ ss λvs=>v=.tuple ⟨vs⟩∧oY_ ss vs λvs=>K (.tuple ⟨vs⟩)
theorem b5_ {k:Kd} {v:Value} {K:Value→Prop} (h:tyB k v K):K v:=by
  unfold tyB at h
  split at h
  · obtain ⟨x,rfl,h2⟩:=oM_ h;exact b__ h2
  · obtain ⟨x,rfl,h2⟩:=m0_ h;exact l4_ (K:=λvs=>K (.tuple ⟨vs⟩)) h2
def eR_ (p:Prop) (K:Value→Prop):Prop:=(p→K (.bool true))∧(¬p→K (.bool false))
def k6_ (p:Prop) (K:Value→Prop):Prop:=(p→K (.bool false))∧(¬p→K (.bool true))
def Dr (p:Option Addr) (K:Addr→Prop):Prop:=∃a,p=some a∧K a
def drf:Value→(Addr→Prop)→Prop
  | .pointer p,K=>Dr p K
  | _,_=>False
theorem lz_ {v:Value} {K:Addr→Prop} (h:drf v K):∃a,v=.pointer (some a)∧K a:=by
  cases v <;> simp only [drf] at h
  obtain ⟨a,rfl,h⟩:=h;exact ⟨a,rfl,h⟩
def ss {α:Type} (P:Program) (R:Addr→Value→Prop):Sem α→(α→Prop)→Prop
  | .pure a,K=>K a
  | .load _ a k,K=>∃v,R a v∧ss P R (k v) K
  | .program k,K=>ss P R (k P) K
  | .mark _ k,K=>ss P R k K
  | _,_=>False
theorem m3_ {α:Type} {P:Program} {R:Addr→Value→Prop} {S:World→Prop} (hR:∀a v,R a v→∀w,S w→w.cell? a=some v) (s:Sem α) :
    ∀ {K:α→Prop},ss P R s K→∃a,K a∧∀w,S w→s.run P w=.ok a w:=by
  induction s with
  | pure a=>intro K h;exact ⟨a,h,λ_ _=>rfl⟩
  | load m a k ih=>
    intro K h
    obtain ⟨v,hv,h⟩:=h
    obtain ⟨x,hx,hr⟩:=ih v h
    exact ⟨x,hx,λw hw=>by simp [Sem.run,hR a v hv w hw,hr w hw]⟩
  | program k ih=>intro K h;obtain ⟨x,hx,hr⟩:=ih P h;exact ⟨x,hx,λw hw=>by simp [Sem.run,hr w hw]⟩
  | mark m k ih=>intro K h;obtain ⟨x,hx,hr⟩:=ih h;exact ⟨x,hx,λw hw=>by simp [Sem.run,hr w hw]⟩
  | _=>intro K h;exact h.elim
def oneC:Value→Bool
  | .agg _ | .tuple _=>false
  | _=>true
def NewV (w:World) (o:Obj) (K:Nat→World→Prop):Prop:=K w.heap.size (w.alloc o)
def StC (w:World) (a:Addr) (v:Value) (K:World→Prop):Prop:=
  oneC v=true∧(∃u,w.cell? a=some u)∧w.frozen? a=false∧K (w.setCell a v)
def LdC (w:World) (a:Addr) (K:Value→Prop):Prop:=∃v,w.cell? a=some v∧K v
def ChV (w:World) (q:Question) (K:Nat→World→Prop):Prop:=
  if q.forced then K 0 w else K (q.cut (w.tape w.drawn q)) w.drew
def GetV (w:World) (r:Nat) (K:Obj→Prop):Prop:=∃o,w.heap[r]? = some o∧(∀c e f,o≠.cells c e f)∧K o
def SetV (w:World) (r:Nat) (x:Obj) (K:World→Prop):Prop:=
  (∃o,w.heap[r]? = some o∧(∀c e f,o≠.cells c e f))∧K { w with heap:=w.heap.setIfInBounds r x }
def sv {α:Type} (P:Program):Sem α→(α→World→Prop)→World→Prop
  | .pure a,K,w=>K a w
  | .load _ a k,K,w=>LdC w a λv=>sv P (k v) K w
  | .store _ a v k,K,w=>StC w a v λw=>sv P k K w
  | .new o k,K,w=>NewV w o λr w=>sv P (k r) K w
  | .shape r k,K,w=>sv P (k (w.shape? r)) K w
  | .freeze a n k,K,w=>sv P k K (w.freeze a n)
  | .frozen a k,K,w=>sv P (k (w.frozen? a)) K w
  | .getObj r k,K,w=>GetV w r λo=>sv P (k o) K w
  | .setObj r o k,K,w=>SetV w r o λw=>sv P k K w
  | .choose q k,K,w=>ChV w q λn w=>sv P (k n) K w
  | .sys _ _,_,_=>False
  | .program k,K,w=>sv P (k P) K w
  | .mark _ k,K,w=>sv P k K w
  | .halt _,_,_=>False
theorem qN_ {α:Type} {P:Program} (s:Sem α):∀ {K:α→World→Prop} {w:World},sv P s K w→∃a w',s.run P w=.ok a w'∧K a w':=by
  induction s with
  | pure a=>intro K w h;exact ⟨a,w,rfl,h⟩
  | load m a k ih=>intro K w h;obtain ⟨v,hv,h⟩:=h;simpa [Sem.run,hv] using ih v h
  | store m a v k ih=>
    intro K w h
    obtain ⟨h1,⟨u,h2⟩,h3,h⟩:=h
    obtain ⟨x,w',hr,hk⟩:=ih h
    refine ⟨x,w',?_,hk⟩
    cases v <;> simp_all [Sem.run,oneC]
  | new o k ih=>intro K w h;simpa [Sem.run] using ih _ h
  | shape r k ih=>intro K w h;simpa [Sem.run] using ih _ h
  | freeze a n k ih=>intro K w h;simpa [Sem.run] using ih h
  | frozen a k ih=>intro K w h;simpa [Sem.run] using ih _ h
  | getObj r k ih=>
    intro K w h
    obtain ⟨o,ho,hn,h⟩:=h
    obtain ⟨x,w',hr,hk⟩:=ih o h
    refine ⟨x,w',?_,hk⟩
    simp only [Sem.run,ho]
    cases o <;> first | exact hr | exact absurd rfl (hn _ _ _)
  | setObj r x k ih=>
    intro K w h
    obtain ⟨⟨o,ho,hn⟩,h⟩:=h
    obtain ⟨y,w',hr,hk⟩:=ih h
    refine ⟨y,w',?_,hk⟩
    simp only [Sem.run,ho]
    cases o <;> first | exact hr | exact absurd rfl (hn _ _ _)
  | choose q k ih=>
    intro K w h
    unfold sv ChV at h
    simp only [Sem.run]
    split at h <;> rename_i hq
    · rw [if_pos hq];exact ih _ h
    · rw [if_neg hq];exact ih _ h
  | sys c k ih=>intro K w h;exact h.elim
  | program k ih=>intro K w h;simpa [Sem.run] using ih P h
  | mark m k ih=>intro K w h;simpa [Sem.run] using ih h
  | halt h=>intro K w h;exact h.elim
def rn {α:Type} (P:Program) (s:Sem α) (K:α→World→Prop) (w:World):Prop:=∃a w',s.run P w=.ok a w'∧K a w'
theorem df_ {α:Type} {P:Program} {s:Sem α} {K:α→World→Prop} {w:World} (h:sv P s K w):rn P s K w:=qN_ s h
theorem hT_ {α:Type} {P:Program} {s:Sem α} {K:α→World→Prop} {w w':World} {a:α} (h:s.run P w=.ok a w') (hK:K a w'):rn P s K w:=⟨a,w',h,hK⟩
end Go.Vc
namespace Go.Vc
open Go
def szOf (P:Program) (t:TypeId):Nat:=((P.info? t).map (·.size)).getD 0
def known (P:Program) (t:TypeId):Bool:=(P.info? t).isSome && (P.underlying t).isSome
theorem bsEq (a b:ByteArray):(a.toList == b.toList)=decide (a=b):=by
  rw [ByteArray.toList_eq,ByteArray.toList_eq]
  by_cases h:a=b
  · simp [h]
  · have:¬a.data=b.data:=λe=>h (ByteArray.ext e)
    simp [h,this]
def cmpI (op:BinOp) (a b:Int) (K:Value→Prop):Prop:=
  match op with
  | .eql=>eR_ (a=b) K
  | .neq=>k6_ (a=b) K
  | .lss=>eR_ (a<b) K
  | .leq=>eR_ (a≤b) K
  | .gtr=>eR_ (a>b) K
  | .geq=>eR_ (a≥b) K
  | _=>False
def sq_:BinOp→Bool
  | .eql | .neq | .lss | .leq | .gtr | .geq=>true
  | _=>false
def ef_ (x y:Value) (A B:Prop):Prop:=
  match y with
  | .nilIface=>(x=.nilIface→A)∧(∀t v,x=.iface t v→B)∧(x=.nilIface∨∃t v,x=.iface t v)
  | .nilFunc=>(x=.nilFunc→A)∧(∀f a b,x=.func f a b→B)∧(x=.nilFunc∨∃f a b,x=.func f a b)
  | .pointer none=>(match x with | .pointer p=>(p=none→A)∧(∀a,p=some a→B) | _=>False)
  | .slice none _ _=>(match x with | .slice p _ _=>(p=none→A)∧(∀a,p=some a→B) | _=>False)
  | .map none=>(match x with | .map p=>(p=none→A)∧(∀a,p=some a→B) | _=>False)
  | _=>False
def h9_ (P:Program) (t:TypeId):Operand→Bool
  | .const .nilIface=>(match P.underlying t with | some (.interface _)=>true | _=>false)
  | .const .nilFunc=>(match P.underlying t with | some (.func _ _ _)=>true | _=>false)
  | .const (.pointer none)=>(match P.underlying t with | some (.pointer _)=>true | _=>false)
  | .const (.slice none _ _)=>(match P.underlying t with | some (.slice _)=>true | _=>false)
  | .const (.map none)=>(match P.underlying t with | some (.map _ _)=>true | _=>false)
  | _=>false
def i6_:Next→Sem Value
  | .value v=>pure v
  | _=>stuck "no value"
def gen (P:Program) (R:Addr→Value→Prop) (env:List Value) (o:Oper) (K:Value→Prop):Prop:=
  ss P R (execOp (ev env) o >>= i6_) K
def oS_ (op:BinOp) (a b:ByteArray) (K:Value→Prop):Prop:=
  match op with
  | .eql=>eR_ (a=b) K
  | .neq=>k6_ (a=b) K
  | .lss=>eR_ (Op.bytesLess a.toList b.toList=true) K
  | .add=>a.size+b.size≤9223372036854775807∧K (.string (a++b))
  | _=>False
def eqOk:List Value→List Value→Bool
  | [],[]=>true
  | .int k _ :: xs,.int k' _ :: ys=>decide (k=k') && eqOk xs ys
  | _,_=>false
def eqP:List Value→List Value→Prop
  | .int _ a :: xs,.int _ b :: ys=>a=b∧eqP xs ys
  | _,_=>True
def j6_ (P:Program):List Field→Nat→Bool
  | [],_=>true
  | f :: fs,i=>f.offset == i && f.name != "_" && known P f.type && (match P.underlying f.type with | some (.int _)=>true | _=>false) && j6_ P fs (i+1)
def e5_ (P:Program) (t:TypeId) (n:Nat):Bool:=
  match P.underlying t with
  | some (.struct fs)=>j6_ P fs.toList 0 && fs.size == n && !P.stoodInHeld t && !P.eqGuardType P.depth t
  | _=>false
def eqS (P:Program) (t:TypeId) (op:BinOp) (xs ys:Array Value) (K:Value→Prop):Prop:=
  match eqOk xs.toList ys.toList && e5_ P t xs.size,op with
  | true,.eql=>eR_ (eqP xs.toList ys.toList) K
  | true,.neq=>k6_ (eqP xs.toList ys.toList) K
  | _,_=>False
def varO:Operand→Bool
  | .const _=>false
  | _=>true
def binS (P:Program) (R:Addr→Value→Prop) (env:List Value) (o:Oper) (op:BinOp) (t:TypeId) (x y:Operand) (K:Value→Prop):Prop:=
  match h9_ P t y with
  | true=>
    (match op with
     | .eql=>ef_ (ev env x) (ev env y) (K (.bool true)) (K (.bool false))
     | .neq=>ef_ (ev env x) (ev env y) (K (.bool false)) (K (.bool true))
     | _=>False)
  | false=>
    match sq_ op,ev env x,ev env y with
    | true,.int k a,.int k' b=>(if k=k' then cmpI op a b K else False)
    | false,.int k a,.int k' b=>
      (match op,varO y with
       | .quo,true=>if k=k' then (b≠0∧K (.int k (k.wrap (a.tdiv b)))) else False
       | .rem,true=>if k=k' then (b≠0∧K (.int k (a.tmod b))) else False
       | .shl,true=>0≤b∧K (.int k (k.wrap (a*2 ^ (min b.toNat k.bits))))
       | .shr,true=>0≤b∧K (.int k (a.fdiv (2 ^ (min b.toNat k.bits))))
       | _,_=>gen P R env o K)
    | _,.string a,.string b=>oS_ op a b K
    | _,.agg xs,.agg ys=>eqS P t op xs ys K
    | true,.pointer p,.pointer q=>
      (match P.underlying t,op with
       | some (.pointer e),.eql=>if known P e∧szOf P e≠0 then Dr p λa=>Dr q λb=>a.block=b.block∧eR_ (a=b) K else False
       | some (.pointer e),.neq=>if known P e∧szOf P e≠0 then Dr p λa=>Dr q λb=>a.block=b.block∧k6_ (a=b) K else False
       | _,_=>False)
    | _,_,_=>gen P R env o K
def idxS (P:Program) (t:TypeId) (x i:Value) (K:Value→Prop):Prop:=
  match P.underlying t,x,i with
  | some (.slice e),.slice base len _,.int _ n=>if known P e then Dr base λa=>0≤n∧n<len∧K (.pointer (some (a.add (n.toNat*szOf P e)))) else False
  | some (.array len e),x,.int _ n=>if known P e then drf x λa=>0≤n∧n<len∧K (.pointer (some (a.add (n.toNat*szOf P e)))) else False
  | _,_,_=>False
def aX_ (s:ByteArray) (i:Nat):Nat:=(s.data.getD i 0).toNat
def ixS (P:Program) (t:TypeId) (x i:Value) (K:Value→Prop):Prop:=
  match P.underlying t,x,i with
  | some .string,.string s,.int _ n=>0≤n∧n<s.size∧K (.int .u8 (aX_ s n.toNat))
  | some (.array len e),.agg cs,.int _ n=>
    if known P e then
      0≤n∧n<len∧
      (match aggT P e with
       | true=>tel (flat P 12 e) λvs=>cs.extract (n.toNat*szOf P e) (n.toNat*szOf P e+szOf P e)=⟨vs⟩∧K (.agg ⟨vs⟩)
       | false=>tel1 ((flat P 12 e).headD .any) λv=>cs[n.toNat*szOf P e]? = some v∧K v)
    else False
  | _,_,_=>False
def hiS (env:List Value) (len y:Nat):Option Operand→(Nat→Prop)→Prop
  | none,K=>K len
  | some o,K=>match ev env o with
    | .int _ h=>0≤h∧h≤(y:Int)∧K h.toNat
    | _=>False
def loS (env:List Value) (y:Nat):Option Operand→(Nat→Prop)→Prop
  | none,K=>K 0
  | some o,K=>match ev env o with
    | .int _ h=>0≤h∧h≤(y:Int)∧K h.toNat
    | _=>False
def slS (P:Program) (env:List Value) (t:TypeId) (x:Value) (lo hi:Option Operand) (K:Value→Prop):Prop:=
  match P.underlying t,x with
  | some .string,.string s=>hiS env s.size s.size hi λh=>loS env h lo λl=>K (.string (s.extract l h))
  | some (.slice e),.slice a len cap=>if known P e then hiS env len cap hi λh=>loS env h lo λl=>K (.slice (if cap=l then a else a.map (·.add (l*szOf P e))) (h - l) (cap - l)) else False
  | some (.array n e),.pointer p=>if known P e then Dr p λa=>hiS env n n hi λh=>loS env h lo λl=>K (.slice (some (if n=l then a else a.add (l*szOf P e))) (h - l) (n - l)) else False
  | _,_=>False
def mp_ (R:Addr→Value→Prop) (a:Addr) (i:Nat):List Ck→(List Value→Prop)→Prop
  | [],K=>K []
  | c :: cs,K=>tel1 c λv=>R (a.add i) v∧mp_ R a (i+1) cs λr=>K (v :: r)
def ldK (P:Program) (R:Addr→Value→Prop) (t:TypeId) (a:Addr) (K:Value→Prop):Prop:=
  match known P t,aggT P t with
  | true,false=>tel1 ((flat P 12 t).headD .any) λv=>R a v∧K v
  | true,true=>if (flat P 12 t).length=szOf P t then mp_ R a 0 (flat P 12 t) λvs=>K (.agg ⟨vs⟩) else False
  | false,_=>False
def one1 (c:Ck) (v:Value) (K:Prop):Prop:=
  match c with
  | .any=>oneC v=true∧K
  | _=>(match oneC v with | true=>K | false=>False)
def hX_ (cells:List Value) (off:Nat) (cs:List Value):List Value:=cs.zipIdx.foldl (λl (c,j)=>put l (off+j) c) cells
def g__ (P:Program) (place:Nat→Option (TypeId × Nat)) (cells:List Value):List (Nat × Value)→(List Value→Prop)→Prop
  | [],K=>K cells
  | (i,v) :: rest,K=>
    match place i with
    | none=>False
    | some (ft,off)=>
      match known P ft,aggT P ft with
      | true,true=>(match v with
        | .agg cs=>if cs.size=szOf P ft∧off+cs.size≤cells.length then g__ P place (hX_ cells off cs.toList) rest K else False
        | _=>False)
      | true,false=>if szOf P ft=1∧off+1≤cells.length then one1 ((flat P 12 ft).headD .any) v (g__ P place (put cells off v) rest K) else False
      | false,_=>False
def zeroOf (P:Program) (t:TypeId):Option Value:=(P.info? t).bind (·.zero)
def lC_ (P:Program) (env:List Value) (t:TypeId) (parts:Array (Nat × Operand)) (K:Value→Prop):Prop:=
  match zeroOf P t,P.underlying t with
  | some z,some (.struct fs)=>
    if fs.toList.all (λf=>known P f.type) then
      g__ P (λi=>(fs[i]?).map λf=>(f.type,f.offset)) z.cells.toList (parts.toList.map λp=>(p.1,ev env p.2)) λcs=>K (.agg ⟨cs⟩)
    else False
  | some z,some (.array _ e)=>
    if known P e then g__ P (λi=>some (e,i*szOf P e)) z.cells.toList (parts.toList.map λp=>(p.1,ev env p.2)) λcs=>K (.agg ⟨cs⟩) else False
  | _,_=>False
def o7_ (P:Program):Op→Bool
  | .move _ | .assign _ | .pick .. | .binOp .. | .unOp .. | .field .. | .fieldAddr .. | .indexAddr .. | .index .. | .extract .. | .build .. | .makeInterface .. | .makeFunc .. | .load .. | .nilCheck _=>true
  | .slice _ _ _ _ none=>true
  | .convert s d _=>(match P.underlying s,P.underlying d with | some (.int _),some (.int _)=>true | some .string,some .string=>true | _,_=>false)
  | .call { callee:=.builtin .len,argTypes:=ts,.. }=>(match (ts[0]?).bind P.underlying with | some (.map _ _) | some (.chan _ _) | none=>false | _=>true)
  | .call { callee:=.builtin .cap,argTypes:=ts,.. }=>(match (ts[0]?).bind P.underlying with | some (.chan _ _) | none=>false | _=>true)
  | .call { callee:=.builtin .min,.. } | .call { callee:=.builtin .max,.. }=>true
  | _=>false
def eu_ (P:Program) (o:Oper):Bool:=
  match o.op with
  | .field s _ f=>(match P.underlying s with | some (.struct fs)=>(match (fs[f]?).bind (P.underlying ·.type) with | some .bool=>true | _=>false) | _=>false)
  | .load t _=>(match P.underlying t with | some .bool=>true | _=>false)
  | .index t _ _=>(match P.underlying t with | some (.array _ e)=>(match P.underlying e with | some .bool=>true | _=>false) | _=>false)
  | _=>false
def opS (P:Program) (R:Addr→Value→Prop) (env:List Value) (o:Oper) (K:Value→Prop):Prop:=
  match o.op with
  | .move x | .assign x=>K (ev env x)
  | .binOp op t x y _=>binS P R env o op t x y K
  | .indexAddr t x i=>idxS P t (ev env x) (ev env i) K
  | .index t x i=>ixS P t (ev env x) (ev env i) λv=>f9_ (eu_ P o) v K
  | .slice t x lo hi none=>slS P env t (ev env x) lo hi K
  | .load t a=>drf (ev env a) λa=>ldK P R t a λv=>f9_ (eu_ P o) v K
  | .fieldAddr s x f=>drf (ev env x) λa=>ss P R (Instr.fieldAt s (.pointer (some a)) f) K
  | .nilCheck x=>drf (ev env x) λa=>K (.pointer (some a))
  | .build t parts=>lC_ P env t parts K
  | _=>gen P R env o λv=>f9_ (eu_ P o) v K
end Go.Vc
namespace Go.Vc
open Go
section
variable {P:Program} {R:Addr→Value→Prop} {S:World→Prop}
theorem cA_ {p:Prop} [Decidable p] {K:Value→Prop} (h:eR_ p K):K (.bool (decide p)):=by
  by_cases hp:p
  · simpa [hp] using h.1 hp
  · simpa [hp] using h.2 hp
theorem eY_ {p:Prop} [Decidable p] {K:Value→Prop} (h:k6_ p K):K (.bool (!decide p)):=by
  by_cases hp:p
  · simpa [hp] using h.1 hp
  · simpa [hp] using h.2 hp
theorem pC_ (a b:Int):(a == b)=decide (a=b):=by by_cases h:a=b <;> simp [h]
theorem kv_ (env:List Value) (c:Value):ev env (.const c)=c:=rfl
theorem n1_ {op:BinOp} {a b:Int} {K:Value→Prop} (h:cmpI op a b K):∃v,K v∧Op.intCmp op a b=pure v:=by
  cases op <;> simp only [cmpI] at h <;> try exact h.elim
  · exact ⟨_,cA_ h,by simp only [Op.intCmp,pC_]⟩
  · exact ⟨_,eY_ h,by simp only [Op.intCmp,bne,pC_]⟩
  all_goals exact ⟨_,cA_ h,rfl⟩
theorem k3_ {op:BinOp} {a b:ByteArray} {K:Value→Prop} (h:oS_ op a b K):∃v,K v∧Op.stringOp op a b=pure v:=by
  cases op <;> simp only [oS_] at h <;> try exact h.elim
  · refine ⟨_,h.2,?_⟩
    have h9:¬((a.size+b.size:Nat):Int)>IntKind.i64.max:=by
      have:IntKind.i64.max=9223372036854775807:=by decide
      omega
    simp only [Op.stringOp];rw [if_neg h9]
  · exact ⟨_,cA_ h,by simp [Op.stringOp,bsEq]⟩
  · exact ⟨_,eY_ h,by simp [Op.stringOp,bsEq]⟩
  · exact ⟨_,cA_ h,by simp [Op.stringOp]⟩
theorem io_ (hR:∀a v,R a v→∀w,S w→w.cell? a=some v) {env:List Value} {o:Oper} {K:Value→Prop} (h:gen P R env o K):∃v,K v∧∀w,S w→(execOp (ev env) o).run P w=.ok (.value v) w:=by
  obtain ⟨v,hk,hr⟩:=m3_ hR _ h
  refine ⟨v,hk,λw hw=>?_⟩
  have:=hr w hw
  rw [Sem.run_bind] at this
  cases hx:(execOp (ev env) o).run P w with
  | halt x w'=>rw [hx] at this;simp at this
  | ok n w'=>
    rw [hx] at this
    cases n <;> simp [i6_] at this
    obtain ⟨rfl,rfl⟩:=this
    rfl
theorem rh_ {t:TypeId} (h:known P t=true):∃i,P.info? t=some i∧szOf P t=i.size:=by
  unfold known at h
  cases hi:P.info? t with
  | none=>simp [hi] at h
  | some i=>exact ⟨i,rfl,by simp [szOf,hi]⟩
theorem rg_ {t:TypeId} (h:known P t=true):∃d,P.underlying t=some d:=by
  unfold known at h
  cases hi:P.underlying t with
  | none=>simp [hi] at h
  | some i=>exact ⟨i,rfl⟩
theorem run_sizeOf {t:TypeId} (h:known P t=true) (w:World):(sizeOf t).run P w=.ok (szOf P t) w:=by
  obtain ⟨i,hi,hs⟩:=rh_ h
  simp [sizeOf,typeInfo,hi,hs]
theorem lm_ {P:Program} {t:TypeId} {y:Operand} (h:h9_ P t y=true):∃c,y=.const c:=by
  cases y <;> simp [h9_] at h
  exact ⟨_,rfl⟩
theorem ty_ {t:TypeId} {x y:Value} {ms:Array (String × TypeId)} (hu:P.underlying t=some (.interface ms)) (w:World) (b:Bool)
    (h:(x=.nilIface∧y=.nilIface∧b=true)∨(∃u v,x=.iface u v∧y=.nilIface∧b=false)):(Op.equal t x y).run P w=.ok b w:=by
  show (Op.equalIn (9999+1) t x y).run P w=_
  rw [Op.equalIn]
  rcases h with ⟨rfl,rfl,rfl⟩ | ⟨u,v,rfl,rfl,rfl⟩ <;> simp [run_underlying hu]
theorem tz_ {t:TypeId} {x y:Value} {a b':Array TypeId} {c:Bool} (hu:P.underlying t=some (.func a b' c)) (w:World) (b:Bool)
    (h:(x=.nilFunc∧y=.nilFunc∧b=true)∨(∃f u v,x=.func f u v∧y=.nilFunc∧b=false)):(Op.equal t x y).run P w=.ok b w:=by
  show (Op.equalIn (9999+1) t x y).run P w=_
  rw [Op.equalIn]
  rcases h with ⟨rfl,rfl,rfl⟩ | ⟨f,u,v,rfl,rfl,rfl⟩ <;> simp [run_underlying hu]
theorem tx_ {t e:TypeId} (hu:P.underlying t=some (.pointer e)) (w:World) (p:Option Addr):(Op.equal t (.pointer p) (.pointer none)).run P w=.ok p.isNone w:=by
  show (Op.equalIn (9999+1) t _ _).run P w=_
  rw [Op.equalIn]
  cases p <;> simp [run_underlying hu]
theorem mb_ {t:TypeId} (h:known P t=true) (w:World):(sizeOf t).run P w=.ok (szOf P t) w:=by
  unfold known at h
  cases hi:P.info? t with
  | none=>simp [hi] at h
  | some i=>simp [sizeOf,typeInfo,hi,szOf]
theorem pP_ {t e:TypeId} (hu:P.underlying t=some (.pointer e)) (hk:known P e=true) (hs:szOf P e≠0) (w:World) {a b:Addr} (hab:a.block=b.block) :
    (Op.equal t (.pointer (some a)) (.pointer (some b))).run P w=.ok (decide (a=b)) w:=by
  show (Op.equalIn (9999+1) t _ _).run P w=_
  rw [Op.equalIn]
  have hb:(a == b)=decide (a=b):=by by_cases h:a=b <;> simp [h]
  simp [run_underlying hu,mb_ hk,hs,sameAddr,hab,hb]
theorem tV_ {t e:TypeId} (hu:P.underlying t=some (.slice e)) (w:World) (p:Option Addr) (l c l' c':Nat):(Op.equal t (.slice p l c) (.slice none l' c')).run P w=.ok p.isNone w:=by
  show (Op.equalIn (9999+1) t _ _).run P w=_
  rw [Op.equalIn]
  cases p <;> simp [run_underlying hu]
theorem eq_mp {t e f:TypeId} (hu:P.underlying t=some (.map e f)) (w:World) (p:Option Nat):(Op.equal t (.map p) (.map none)).run P w=.ok p.isNone w:=by
  show (Op.equalIn (9999+1) t _ _).run P w=_
  rw [Op.equalIn]
  cases p <;> simp [run_underlying hu]
theorem fP_ {env:List Value} {t:TypeId} {x:Value} {y:Operand} {A B:Prop} (hn:h9_ P t y=true) (h:ef_ x (ev env y) A B) :
    ∃b,(if b then A else B)∧∀w,(Op.equal t x (ev env y)).run P w=.ok b w:=by
  unfold h9_ at hn
  split at hn <;> (try (simp at hn;done)) <;> split at hn <;> (try (simp at hn;done)) <;> rename_i hu <;> simp only [kv_,ef_] at h
  · obtain ⟨h1,h2,h3⟩:=h
    rcases h3 with hx | ⟨t',v,hx⟩
    · exact ⟨true,by simpa using h1 hx,λw=>ty_ hu w _ (.inl ⟨hx,rfl,rfl⟩)⟩
    · exact ⟨false,by simpa using h2 _ _ hx,λw=>ty_ hu w _ (.inr ⟨_,_,hx,rfl,rfl⟩)⟩
  · obtain ⟨h1,h2,h3⟩:=h
    rcases h3 with hx | ⟨t',a,b,hx⟩
    · exact ⟨true,by simpa using h1 hx,λw=>tz_ hu w _ (.inl ⟨hx,rfl,rfl⟩)⟩
    · exact ⟨false,by simpa using h2 _ _ _ hx,λw=>tz_ hu w _ (.inr ⟨_,_,_,hx,rfl,rfl⟩)⟩
  · cases x <;> simp only at h <;> try exact h.elim
    rename_i p
    refine ⟨p.isNone,?_,λw=>tx_ hu w p⟩
    cases p with
    | none=>simpa using h.1 rfl
    | some a=>simpa using h.2 _ rfl
  · cases x <;> simp only at h <;> try exact h.elim
    rename_i p _ _
    refine ⟨p.isNone,?_,λw=>tV_ hu w p _ _ _ _⟩
    cases p with
    | none=>simpa using h.1 rfl
    | some a=>simpa using h.2 _ rfl
  · cases x <;> simp only at h <;> try exact h.elim
    rename_i p
    refine ⟨p.isNone,?_,λw=>eq_mp hu w p⟩
    cases p with
    | none=>simpa using h.1 rfl
    | some a=>simpa using h.2 _ rfl
theorem fX_ {op:BinOp} {t:TypeId} {x:Operand} {a c:Value} (hn:h9_ P t (.const c)=true) (w:World) :
    (eqGuard op t x (.const c) a c).run P w=.ok () w:=by
  cases c <;> simp [h9_] at hn <;> cases op <;> simp [eqGuard] <;> cases a <;> simp
theorem iA_ {op:BinOp} {t:TypeId} {x y:Operand} {k k':IntKind} {a b:Int} (w:World) :
    (eqGuard op t x y (.int k a) (.int k' b)).run P w=.ok () w:=by
  cases op <;> simp [eqGuard]
theorem mA_ {op:BinOp} {t:TypeId} {x y:Operand} {a b:ByteArray} (w:World) :
    (eqGuard op t x y (.string a) (.string b)).run P w=.ok () w:=by
  cases op <;> simp [eqGuard]
theorem i2_ (w:World):∀(fs:List Field) (i:Nat) (xs ys:List Value) (px py:List Value),px.length=i→py.length=i→j6_ P fs i=true→
    eqOk xs ys=true→xs.length=fs.length→∃b,(Op.eqFields (9998+1) ⟨px++xs⟩ ⟨py++ys⟩ fs).run P w=.ok b w∧(b=true↔eqP xs ys):=by
  intro fs
  induction fs with
  | nil=>
    intro i xs ys px py hx hy hp ho hl
    have:xs=[]:=by simpa using hl
    subst this
    exact ⟨true,by simp [Op.eqFields],by simp [eqP]⟩
  | cons f fs ih=>
    intro i xs ys px py hx hy hp ho hl
    simp only [j6_,Bool.and_eq_true,beq_iff_eq,bne_iff_ne,ne_eq] at hp
    obtain ⟨⟨⟨⟨h1,h2⟩,h3⟩,h4⟩,h5⟩:=hp
    cases xs with
    | nil=>simp at hl
    | cons x xs=>
      cases ys with
      | nil=>cases x <;> simp [eqOk] at ho
      | cons y ys=>
        have hag:(isAgg f.type).run P w=.ok false w:=by
          unfold isAgg
          split at h4
          · rename_i k hu;simp [run_underlying hu]
          · simp at h4
        have hpx:(part f.type ⟨px++x :: xs⟩ f.offset).run P w=.ok x w:=by
          unfold part
          rw [Sem.run_bind,hag,h1]
          simp [← hx]
        have hpy:(part f.type ⟨py++y :: ys⟩ f.offset).run P w=.ok y w:=by
          unfold part
          rw [Sem.run_bind,hag,h1]
          simp [← hy]
        have key:∃b,(Op.equalIn (9998+1) f.type x y).run P w=.ok b w∧eqOk xs ys=true∧((b=true∧eqP xs ys)↔eqP (x :: xs) (y :: ys)):=by
          cases x <;> cases y <;> simp only [eqOk] at ho <;> (try (exact absurd ho (by decide)))
          rename_i k a k' b
          simp only [Bool.and_eq_true,decide_eq_true_eq] at ho
          obtain ⟨rfl,ho⟩:=ho
          split at h4
          · rename_i k' hu
            exact ⟨a == b,run_equalIn_int w 9998 f.type k k' a b hu,ho,by simp [eqP]⟩
          · simp at h4
        obtain ⟨b,hb,ho',hiff⟩:=key
        cases b with
        | false=>
          refine ⟨false,?_,by simpa using hiff⟩
          have hb':(Op.equalIn 9999 f.type x y).run P w=.ok false w:=hb
          simp [Op.eqFields,h2,hpx,hpy,hb']
        | true=>
          obtain ⟨c,hc,hi⟩:=ih (i+1) xs ys (px++[x]) (py++[y]) (by simp [hx]) (by simp [hy]) h5 ho' (by simpa using hl)
          refine ⟨c,?_,by rw [hi];simpa using hiff⟩
          have hb':(Op.equalIn 9999 f.type x y).run P w=.ok true w:=hb
          simp [Op.eqFields,h2,hpx,hpy,hb']
          simpa using hc
theorem pQ_ {t:TypeId} {op:BinOp} {xs ys:Array Value} {x y:Operand} {K:Value→Prop} (h:eqS P t op xs ys K) :
    ∃v,K v∧∀w,((do eqGuard op t x y (.agg xs) (.agg ys);binOp op t (.agg xs) (.agg ys):Sem Value)).run P w=.ok v w:=by
  have main:(eqOk xs.toList ys.toList && e5_ P t xs.size)=true→∃b,(∀w,(Op.equalIn 10000 t (.agg xs) (.agg ys)).run P w=.ok b w)∧(b=true↔eqP xs.toList ys.toList)∧P.eqGuardType P.depth t=false:=by
    intro hh
    simp only [Bool.and_eq_true,e5_] at hh
    obtain ⟨ho,hp⟩:=hh
    split at hp
    · rename_i fs hu
      simp only [Bool.and_eq_true,beq_iff_eq,Bool.not_eq_true'] at hp
      obtain ⟨⟨⟨h1,h2⟩,h3⟩,h4⟩:=hp
      have hf:P.fieldsOf t=fs:=by simp [Program.fieldsOf,hu]
      have hx:∀w,∃b,(Op.eqFields (9998+1) xs ys fs.toList).run P w=.ok b w∧(b=true↔eqP xs.toList ys.toList):=λw=>by
        have:=i2_ w fs.toList 0 xs.toList ys.toList [] [] rfl rfl h1 ho (by simpa using h2.symm)
        simpa using this
      have hdec:∀w b,(Op.eqFields (9998+1) xs ys fs.toList).run P w=.ok b w→(b=true↔eqP xs.toList ys.toList):=λw b hb=>by
        obtain ⟨c,hc,hi⟩:=hx w
        rw [hc] at hb;cases hb;exact hi
      by_cases he:eqP xs.toList ys.toList
      · refine ⟨true,λw=>?_,by simp [he],h4⟩
        rw [show (10000:Nat)=(9998+1)+1 from rfl,run_equalIn_struct w (9998+1) t xs ys (by rw [hf];exact hu) h3,hf]
        obtain ⟨c,hc,hi⟩:=hx w
        rw [hc,hi.2 he]
      · refine ⟨false,λw=>?_,by simp [he],h4⟩
        rw [show (10000:Nat)=(9998+1)+1 from rfl,run_equalIn_struct w (9998+1) t xs ys (by rw [hf];exact hu) h3,hf]
        obtain ⟨c,hc,hi⟩:=hx w
        cases c with
        | false=>exact hc
        | true=>exact absurd (hi.1 rfl) he
    · simp at hp
  unfold eqS at h
  split at h
  · rename_i hh
    obtain ⟨b,hb,hi,hg⟩:=main hh
    refine ⟨.bool b,?_,λw=>?_⟩
    · cases b with
      | true=>exact h.1 (hi.1 rfl)
      | false=>exact h.2 λe=>by simpa using hi.2 e
    · rw [Sem.run_bind,run_eqGuard_agg w _ t x y xs ys hg]
      simp [run_eql_struct,hb]
  · rename_i hh
    obtain ⟨b,hb,hi,hg⟩:=main hh
    refine ⟨.bool !b,?_,λw=>?_⟩
    · cases b with
      | true=>exact h.1 (hi.1 rfl)
      | false=>exact h.2 λe=>by simpa using hi.2 e
    · rw [Sem.run_bind,run_eqGuard_agg w _ t x y xs ys hg]
      simp [run_neq_struct,hb]
  · exact h.elim
theorem qa_ {op:BinOp} {t:TypeId} {k:IntKind} {a b:Int} (h:sq_ op=true):binOp op t (.int k a) (.int k b)=Op.intCmp op a b:=by
  cases op <;> simp [sq_] at h <;> simp [binOp]
theorem p__ {op:BinOp} {t:TypeId} {a b:ByteArray} : binOp op t (.string a) (.string b)=Op.stringOp op a b:=by
  cases op <;> simp [binOp]
theorem de_ {α:Type} (s:Sem α) (f:α→Next) (w:World) (v:α) (h:s.run P w=.ok v w):(do pure (f (← s)):Sem Next).run P w=.ok (f v) w:=by
  simp [h]
theorem jE_ (hR:∀a v,R a v→∀w,S w→w.cell? a=some v) {env:List Value} {o:Oper} {op:BinOp} {t yt:TypeId} {x y:Operand} {K:Value→Prop} (ho:o.op=.binOp op t x y yt)
    (h:binS P R env o op t x y K):∃v,K v∧∀w,S w→(execOp (ev env) o).run P w=.ok (.value v) w:=by
  have hex:execOp (ev env) o=(do pure (.value (← (do eqGuard op t x y (ev env x) (ev env y);binOp op t (ev env x) (ev env y):Sem Value))):Sem Next):=by
    simp only [execOp,ho]
  unfold binS at h
  split at h
  · rename_i hn
    obtain ⟨c,rfl⟩:=lm_ hn
    split at h
    · obtain ⟨b,hb,hr⟩:=fP_ hn h
      refine ⟨.bool b,by cases b <;> simpa using hb,λw _=>?_⟩
      rw [hex]
      refine de_ _ _ _ _ ?_
      have e1:=fX_ (op:=.eql) (x:=x) (a:=ev env x) hn w
      simp only [Sem.run_bind,kv_] at hr ⊢
      rw [e1]
      have:binOp .eql t (ev env x) c=(do pure (.bool (← Op.equal t (ev env x) c)):Sem Value):=by
        cases c <;> simp [h9_] at hn <;> cases ev env x <;> rfl
      simp [this,hr w]
    · obtain ⟨b,hb,hr⟩:=fP_ hn h
      refine ⟨.bool !b,by cases b <;> simpa using hb,λw _=>?_⟩
      rw [hex]
      refine de_ _ _ _ _ ?_
      have e1:=fX_ (op:=.neq) (x:=x) (a:=ev env x) hn w
      simp only [Sem.run_bind,kv_] at hr ⊢
      rw [e1]
      have:binOp .neq t (ev env x) c=(do pure (.bool (!(← Op.equal t (ev env x) c))):Sem Value):=by
        cases c <;> simp [h9_] at hn <;> cases ev env x <;> rfl
      simp [this,hr w]
    · exact h.elim
  · split at h
    · rename_i hc ha hb
      split at h
      · rename_i hk
        subst hk
        obtain ⟨v,hv,hr⟩:=n1_ h
        refine ⟨v,hv,λw _=>?_⟩
        rw [hex,ha,hb]
        refine de_ _ _ _ _ ?_
        rw [Sem.run_bind,iA_,qa_ hc,hr];rfl
      · exact h.elim
    · rename_i k a k' b hc ha hb
      have fin:∀v,K v→binOp op t (.int k a) (.int k' b)=pure v→∃v,K v∧∀w,S w→(execOp (ev env) o).run P w=.ok (.value v) w:=by
        intro v hv hr
        refine ⟨v,hv,λw _=>?_⟩
        rw [hex,ha,hb]
        refine de_ _ _ _ _ ?_
        rw [Sem.run_bind,iA_,hr];rfl
      split at h
      · split at h
        · rename_i hk;subst hk
          exact fin _ h.2 (by simp [binOp,Op.intDiv,h.1])
        · exact h.elim
      · split at h
        · rename_i hk;subst hk
          exact fin _ h.2 (by simp [binOp,Op.intDiv,h.1])
        · exact h.elim
      · exact fin _ h.2 (by
          have:¬b<0:=by omega
          simp [binOp,Op.shift,this])
      · exact fin _ h.2 (by
          have:¬b<0:=by omega
          simp [binOp,Op.shift,this])
      · exact io_ hR h
    · rename_i ha hb
      obtain ⟨v,hv,hr⟩:=k3_ h
      refine ⟨v,hv,λw _=>?_⟩
      rw [hex,ha,hb]
      refine de_ _ _ _ _ ?_
      rw [Sem.run_bind,mA_,p__,hr];rfl
    · rename_i ha hb
      obtain ⟨v,hv,hr⟩:=pQ_ (x:=x) (y:=y) h
      refine ⟨v,hv,λw _=>?_⟩
      rw [hex,ha,hb]
      exact de_ _ _ _ _ (hr w)
    · rename_i p q hc ha hb
      have hg:∀w,(eqGuard op t x y (.pointer p) (.pointer q)).run P w=.ok () w:=λw=>by cases op <;> simp [eqGuard]
      split at h
      · rename_i e hu
        split at h
        · rename_i hk
          obtain ⟨a,rfl,b,rfl,hab,h⟩:=h
          refine ⟨.bool (decide (a=b)),cA_ h,λw _=>?_⟩
          rw [hex,ha,hb]
          refine de_ _ _ _ _ ?_
          rw [Sem.run_bind,hg]
          have:binOp .eql t (.pointer (some a)) (.pointer (some b))=(do pure (.bool (← Op.equal t (.pointer (some a)) (.pointer (some b)))):Sem Value):=rfl
          simp only [Result.andThen_ok,this,Sem.run_bind,pP_ hu hk.1 hk.2 w hab]
          rfl
        · exact h.elim
      · rename_i e hu
        split at h
        · rename_i hk
          obtain ⟨a,rfl,b,rfl,hab,h⟩:=h
          refine ⟨.bool (!decide (a=b)),eY_ h,λw _=>?_⟩
          rw [hex,ha,hb]
          refine de_ _ _ _ _ ?_
          rw [Sem.run_bind,hg]
          have:binOp .neq t (.pointer (some a)) (.pointer (some b))=(do pure (.bool (!(← Op.equal t (.pointer (some a)) (.pointer (some b))))):Sem Value):=rfl
          simp only [Result.andThen_ok,this,Sem.run_bind,pP_ hu hk.1 hk.2 w hab]
          rfl
        · exact h.elim
      · exact h.elim
    · exact io_ hR h
end
end Go.Vc
namespace Go.Vc
open Go
section
variable {P:Program} {R:Addr→Value→Prop} {S:World→Prop}
theorem gy_ {t:TypeId} {x i:Value} {K:Value→Prop} (h:idxS P t x i K):∃v,K v∧∀w,(Instr.indexAt t x i).run P w=.ok v w:=by
  unfold idxS at h
  split at h
  · rename_i e base len cap k n hu
    split at h
    · rename_i hk
      obtain ⟨a,rfl,h0,h1,hK⟩:=h
      refine ⟨_,hK,λw=>?_⟩
      have:=run_sizeOf hk w
      simp [Instr.indexAt,asIntOf,run_underlying hu,h0,h1,this]
    · exact h.elim
  · rename_i len e x k n hu
    split at h
    · rename_i hk
      obtain ⟨a,rfl,h0,h1,hK⟩:=lz_ h
      refine ⟨_,hK,λw=>?_⟩
      have:=run_sizeOf hk w
      simp [Instr.indexAt,asIntOf,run_underlying hu,Instr.sureAddr,h0,h1,this]
    · exact h.elim
  · exact h.elim
theorem cB_ {t:TypeId} (h:known P t=true) (w:World):(isAgg t).run P w=.ok (aggT P t) w:=by
  obtain ⟨d,hd⟩:=rg_ h
  unfold isAgg aggT
  simp only [Sem.run_bind,run_underlying hd,hd,Result.andThen_ok]
  cases d <;> rfl
theorem hl_ {t:TypeId} (h:known P t=true) (cs:Array Value) (off:Nat) (w:World) :
    (part t cs off).run P w=if aggT P t then .ok (.agg (cs.extract off (off+szOf P t))) w else (match cs[off]? with | some v=>.ok v w | none=>.halt (.stuck "part: no such cell") w):=by
  unfold part
  simp only [Sem.run_bind,cB_ h,Result.andThen_ok]
  cases aggT P t
  · simp only [Bool.false_eq_true,if_false]
    cases cs[off]? <;> rfl
  · simp [run_sizeOf h]
theorem mF_ {s:ByteArray} {i:Nat} (h:i<s.size):s[i]? = some (UInt8.ofNat (aX_ s i))∧aX_ s i=(s[i]).toNat:=by
  have e:aX_ s i=(s[i]).toNat:=by
    unfold aX_
    have:i<s.data.size:=h
    simp only [Array.getD,this,dif_pos]
    rfl
  refine ⟨?_,e⟩
  rw [e]
  simp [h]
theorem pB_ {t:TypeId} {x i:Value} {K:Value→Prop} (h:ixS P t x i K):∃v,K v∧∀w,(Instr.index t x i).run P w=.ok v w:=by
  unfold ixS at h
  split at h
  · rename_i s k n hu
    obtain ⟨h0,h1,hK⟩:=h
    refine ⟨_,hK,λw=>?_⟩
    have hl:n.toNat<s.size:=by omega
    have:=(mF_ hl)
    simp only [Instr.index,asIntOf,Sem.run_bind,Sem.run_pure,Result.andThen_ok,run_underlying hu,h0,if_true]
    rw [this.1]
    simp [this.2]
  · rename_i len e cs k n hu
    split at h
    · rename_i hk
      obtain ⟨h0,h1,hK⟩:=h
      split at hK
      · rename_i ha
        obtain ⟨vs,hx,hK⟩:=k0_ hK
        refine ⟨_,hK,λw=>?_⟩
        simp [Instr.index,asIntOf,run_underlying hu,h0,h1,run_sizeOf hk,hl_ hk,ha,hx]
      · rename_i ha
        obtain ⟨v,hx,hK⟩:=f5_ hK
        refine ⟨_,hK,λw=>?_⟩
        simp [Instr.index,asIntOf,run_underlying hu,h0,h1,run_sizeOf hk,hl_ hk,ha,hx]
    · exact h.elim
  · exact h.elim
theorem tp_ {env:List Value} {len y:Nat} {o:Option Operand} {K:Nat→Prop} (h:hiS env len y o K) :
    (o=none∧K len)∨∃x k i,o=some x∧ev env x=.int k i∧0≤i∧i≤(y:Int)∧K i.toNat:=by
  cases o with
  | none=>exact .inl ⟨rfl,h⟩
  | some x=>
    simp only [hiS] at h
    split at h
    · rename_i k i he
      exact .inr ⟨x,k,i,rfl,he,h.1,h.2.1,h.2.2⟩
    · exact h.elim
theorem th_ {env:List Value} {y:Nat} {o:Option Operand} {K:Nat→Prop} (h:loS env y o K) :
    (o=none∧K 0)∨∃x k i,o=some x∧ev env x=.int k i∧0≤i∧i≤(y:Int)∧K i.toNat:=by
  cases o with
  | none=>exact .inl ⟨rfl,h⟩
  | some x=>
    simp only [loS] at h
    split at h
    · rename_i k i he
      exact .inr ⟨x,k,i,rfl,he,h.1,h.2.1,h.2.2⟩
    · exact h.elim
theorem et_ {isSlice:Bool} {env:List Value} {len cap:Nat} {lo hi:Option Operand} {K:Nat→Nat→Prop}
    (h:hiS env len cap hi λh=>loS env h lo λl=>K l h) :
    ∃l h,K l h∧∀w,(Instr.sliceBounds isSlice len cap (lo.map (ev env)) (hi.map (ev env)) none).run P w=.ok (l,h,cap) w:=by
  rcases tp_ h with ⟨rfl,h⟩ | ⟨x,k,i,rfl,he,h0,h1,h⟩ <;>
  rcases th_ h with ⟨rfl,h⟩ | ⟨x',k',i',rfl,he',h0',h1',h⟩
  · exact ⟨_,_,h,λw=>by simp [Instr.sliceBounds]⟩
  · exact ⟨_,_,h,λw=>by simp [Instr.sliceBounds,he',run_sliceBound _ _ _ _ _ h0' h1']⟩
  · exact ⟨_,_,h,λw=>by simp [Instr.sliceBounds,he,run_sliceBound _ _ _ _ _ h0 h1]⟩
  · exact ⟨_,_,h,λw=>by simp [Instr.sliceBounds,he,he',run_sliceBound _ _ _ _ _ h0 h1,run_sliceBound _ _ _ _ _ h0' h1']⟩
theorem hK_ {env:List Value} {t:TypeId} {x:Value} {lo hi:Option Operand} {K:Value→Prop} (h:slS P env t x lo hi K) :
    ∃v,K v∧∀w,(Instr.sliceAt t x (lo.map (ev env)) (hi.map (ev env)) none).run P w=.ok v w:=by
  unfold slS at h
  split at h
  · rename_i s hu
    obtain ⟨l,h',hK,hr⟩:=et_ (P:=P) (isSlice:=false) (K:=λl h=>K (.string (s.extract l h))) h
    exact ⟨_,hK,λw=>by simp [Instr.sliceAt,Instr.slice,run_underlying hu,hr]⟩
  · rename_i e a len cap hu
    split at h
    · rename_i hk
      obtain ⟨l,h',hK,hr⟩:=et_ (P:=P) (isSlice:=true) (K:=λl h=>K (.slice (if cap=l then a else a.map (·.add (l*szOf P e))) (h - l) (cap - l))) h
      exact ⟨_,hK,λw=>by simp [Instr.sliceAt,Instr.slice,run_underlying hu,hr,run_sizeOf hk]⟩
    · exact h.elim
  · rename_i n e p hu
    split at h
    · rename_i hk
      obtain ⟨a,rfl,h⟩:=h
      obtain ⟨l,h',hK,hr⟩:=et_ (P:=P) (isSlice:=false) (K:=λl h=>K (.slice (some (if n=l then a else a.add (l*szOf P e))) (h - l) (n - l))) h
      exact ⟨_,hK,λw=>by simp [Instr.sliceAt,Instr.sureAddr,run_underlying hu,hr,run_sizeOf hk]⟩
    · exact h.elim
  · exact h.elim
theorem km_ (hR:∀a v,R a v→∀w,S w→w.cell? a=some v) {a:Addr} : ∀ {cs:List Ck} {i:Nat} {K:List Value→Prop},mp_ R a i cs K→∃vs,K vs∧∀w,S w→∀acc,(loadCellsFrom a i cs.length acc).run P w=.ok (acc++vs.toArray) w:=by
  intro cs
  induction cs with
  | nil=>intro i K h;exact ⟨[],h,λw _ acc=>by simp [loadCellsFrom]⟩
  | cons c cs ih=>
    intro i K h
    obtain ⟨v,hv,h⟩:=f5_ h
    obtain ⟨vs,hK,hr⟩:=ih h
    refine ⟨v :: vs,hK,λw hw acc=>?_⟩
    simp [loadCellsFrom,hR _ _ hv w hw,hr w hw]
theorem pw_ (hR:∀a v,R a v→∀w,S w→w.cell? a=some v) {t:TypeId} {a:Addr} {K:Value→Prop} (h:ldK P R t a K):∃v,K v∧∀w,S w→(loadVar t a).run P w=.ok v w:=by
  unfold ldK at h
  split at h
  · rename_i hk ha
    obtain ⟨v,hv,hK⟩:=f5_ h
    exact ⟨v,hK,λw hw=>by simp [loadVar,cB_ hk,ha,hR _ _ hv w hw]⟩
  · rename_i hk ha
    split at h
    · rename_i hl
      obtain ⟨vs,hK,hr⟩:=km_ (P:=P) hR h
      refine ⟨_,hK,λw hw=>?_⟩
      have:=hr w hw #[]
      rw [hl] at this
      simp [loadVar,cB_ hk,ha,run_sizeOf hk,loadCells,this]
    · exact h.elim
  · exact h.elim
theorem nL_ (off:Nat):∀(cs:List (Value × Nat)) (cells:List Value),
    (cs.foldl (λl (c,j)=>put l (off+j) c) cells).toArray=cs.foldl (λ(a:Array Value) (c,j)=>a.setIfInBounds (off+j) c) cells.toArray:=by
  intro cs
  induction cs with
  | nil=>intro cells;rfl
  | cons c cs ih=>intro cells;simp only [List.foldl_cons];rw [ih,put_eq]
theorem h8_ {c:Ck} {v:Value} {K:Prop} (h:one1 c v K):oneC v=true∧K:=by
  unfold one1 at h
  split at h
  · exact h
  · split at h
    · rename_i ho;exact ⟨ho,h⟩
    · exact h.elim
theorem cells_one {v:Value} (h:oneC v=true):v.cells=#[v]:=by cases v <;> first | rfl | (simp [oneC] at h)
theorem lx_ {place:Nat→Option (Nat × Nat)} {cells:Array Value} {i off size:Nat} {v:Value} {rest:List (Nat × Value)} (h:place i=some (off,size))
    (h1:v.cells.size=size) (h2:off+v.cells.size≤cells.size) :
    Instr.fill place cells ((i,v) :: rest)=Instr.fill place (v.cells.zipIdx.foldl (λcs (c,j)=>cs.setIfInBounds (off+j) c) cells) rest:=by
  rw [Instr.fill]
  simp only [h]
  split
  · rename_i hh
    simp only [Bool.or_eq_true,decide_eq_true_eq] at hh
    omega
  · rfl
theorem dO_ {place:Nat→Option (TypeId × Nat)} {place':Nat→Option (Nat × Nat)} (hp:∀i,place' i=(place i).map λx=>(x.2,szOf P x.1)) :
    ∀ {parts:List (Nat × Value)} {cells:List Value} {K:List Value→Prop},g__ P place cells parts K→∃cs,K cs∧Instr.fill place' ⟨cells⟩ parts=some ⟨cs⟩:=by
  intro parts
  induction parts with
  | nil=>intro cells K h;exact ⟨cells,h,rfl⟩
  | cons p parts ih=>
    obtain ⟨i,v⟩:=p
    intro cells K h
    simp only [g__] at h
    split at h
    · exact h.elim
    · rename_i ft off hpl
      have hp':place' i=some (off,szOf P ft):=by rw [hp,hpl];rfl
      split at h
      · split at h
        · rename_i cs
          split at h
          · rename_i hc
            obtain ⟨r,hK,hr⟩:=ih h
            refine ⟨r,hK,?_⟩
            rw [lx_ (v:=.agg cs) hp' (by simpa [Value.cells] using hc.1) (by simpa [Value.cells] using hc.2),← hr]
            congr 1
            have:=nL_ off cs.toList.zipIdx cells
            simp only [hX_]
            refine Eq.trans ?_ this.symm
            rw [← Array.foldl_toList]
            simp [Value.cells]
          · exact h.elim
        · exact h.elim
      · split at h
        · rename_i hs
          obtain ⟨ho,h⟩:=h8_ h
          obtain ⟨r,hK,hr⟩:=ih h
          refine ⟨r,hK,?_⟩
          rw [lx_ hp' (by simp [cells_one ho,hs.1]) (by simpa [cells_one ho] using hs.2),← hr]
          congr 1
          have:=put_eq cells off v
          simp [this,cells_one ho]
        · exact h.elim
      · exact h.elim
theorem fE_ {t:TypeId} {z:Value} (h:zeroOf P t=some z) (w:World):(zeroValue t).run P w=.ok z w:=by
  unfold zeroOf at h
  cases hi:P.info? t with
  | none=>simp [hi] at h
  | some i=>simp [hi] at h;simp [zeroValue,typeInfo,hi,h]
theorem run_places (w:World):∀(fs:List Field),fs.all (λf=>known P f.type)=true→
    (fs.mapM λf=>do pure (f.offset,← sizeOf f.type):Sem (List (Nat × Nat))).run P w=.ok (fs.map λf=>(f.offset,szOf P f.type)) w:=by
  intro fs
  induction fs with
  | nil=>intro _;rfl
  | cons f fs ih=>
    intro h
    simp only [List.all_cons,Bool.and_eq_true] at h
    simp [List.mapM_cons,run_sizeOf h.1]
    have:=ih h.2
    simp at this
    simp [this]
theorem gW_ {env:List Value} {t:TypeId} {parts:Array (Nat × Operand)} {K:Value→Prop} (h:lC_ P env t parts K) :
    ∃v,K v∧∀w,(Instr.build t (parts.map λ(i,x)=>(i,ev env x))).run P w=.ok v w:=by
  unfold lC_ at h
  have hl:(parts.map λ(x:Nat × Operand)=>(x.1,ev env x.2)).toList=parts.toList.map λp=>(p.1,ev env p.2):=by simp
  split at h
  · rename_i z fs hz hu
    split at h
    · rename_i hk
      obtain ⟨cs,hK,hr⟩:=dO_ (place':=λi=>((fs.map λf=>(f.offset,szOf P f.type))[i]? : Option (Nat × Nat))) (λi=>by
        simp only [Array.getElem?_map,Option.map_map];cases fs[i]? <;> rfl) h
      refine ⟨_,hK,λw=>?_⟩
      have hm:(fs.mapM λf=>do pure (f.offset,← sizeOf f.type):Sem (Array (Nat × Nat))).run P w=.ok (fs.map λf=>(f.offset,szOf P f.type)) w:=by
        have h1:=run_places (P:=P) w fs.toList hk
        have h2:(Array.toList <$> (fs.mapM λf=>do pure (f.offset,← sizeOf f.type):Sem (Array (Nat × Nat)))).run P w=.ok (fs.toList.map λf=>(f.offset,szOf P f.type)) w:=by
          rw [Array.toList_mapM];exact h1
        rw [Sem.run_map] at h2
        cases hx:(fs.mapM λf=>do pure (f.offset,← sizeOf f.type):Sem (Array (Nat × Nat))).run P w with
        | halt x w'=>rw [hx] at h2;simp at h2
        | ok a w'=>
          rw [hx] at h2
          simp only [Result.andThen_ok,Result.ok.injEq] at h2
          obtain ⟨h3,rfl⟩:=h2
          congr 1
          apply Array.toList_inj.1
          simpa using h3
      simp only [Instr.build,Sem.run_bind,fE_ hz,run_underlying hu,hm,Result.andThen_ok]
      rw [hl]
      have e:Instr.fill (λx=>(fs.map λf=>(f.offset,szOf P f.type))[x]?) z.cells (parts.toList.map λp=>(p.1,ev env p.2))=some ⟨cs⟩:=hr
      rw [e];rfl
    · exact h.elim
  · rename_i z n e hz hu
    split at h
    · rename_i hk
      obtain ⟨cs,hK,hr⟩:=dO_ (place':=λi=>some (i*szOf P e,szOf P e)) (λi=>rfl) h
      refine ⟨_,hK,λw=>?_⟩
      simp only [Instr.build,Sem.run_bind,fE_ hz,run_underlying hu,run_sizeOf hk,Result.andThen_ok]
      rw [hl]
      have e:Instr.fill (λi=>some (i*szOf P e,szOf P e)) z.cells (parts.toList.map λp=>(p.1,ev env p.2))=some ⟨cs⟩:=hr
      rw [e];rfl
    · exact h.elim
  · exact h.elim
theorem ph_ (hR:∀a v,R a v→∀w,S w→w.cell? a=some v) {env:List Value} {o:Oper} {K:Value→Prop} (h:opS P R env o K):∃v,K v∧∀w,S w→(execOp (ev env) o).run P w=.ok (.value v) w:=by
  unfold opS at h
  split at h
  · rename_i x ho;exact ⟨_,h,λw _=>by simp [execOp,ho]⟩
  · rename_i x ho;exact ⟨_,h,λw _=>by simp [execOp,ho]⟩
  · rename_i op t x y _ ho;exact jE_ hR ho h
  · rename_i t x i ho
    obtain ⟨v,hK,hr⟩:=gy_ h
    exact ⟨v,hK,λw _=>by simp [execOp,ho,hr w]⟩
  · rename_i t x i ho
    obtain ⟨v,hK,hr⟩:=pB_ h
    exact ⟨v,b__ hK,λw _=>by simp [execOp,ho,hr w]⟩
  · rename_i t x lo hi ho
    obtain ⟨v,hK,hr⟩:=hK_ h
    exact ⟨v,hK,λw _=>by simp [execOp,ho,hr w]⟩
  · rename_i t a ho
    obtain ⟨a',he,h⟩:=lz_ h
    obtain ⟨v,hK,hr⟩:=pw_ hR h
    exact ⟨v,b__ hK,λw hw=>by simp [execOp,ho,he,Instr.loadAt,Instr.sureAddr,hr w hw]⟩
  · rename_i s x f ho
    obtain ⟨a',he,h⟩:=lz_ h
    obtain ⟨v,hK,hr⟩:=m3_ hR _ h
    exact ⟨v,hK,λw hw=>by simp [execOp,ho,he,hr w hw]⟩
  · rename_i x ho
    obtain ⟨a',he,h⟩:=lz_ h
    exact ⟨_,h,λw hw=>by simp [execOp,ho,he]⟩
  · rename_i t parts ho
    obtain ⟨v,hK,hr⟩:=gW_ h
    exact ⟨v,hK,λw _=>by
      have e:execOp (ev env) o=(do pure (.value (← Instr.build t (parts.map λ(i,x)=>(i,ev env x)))):Sem Next):=by simp only [execOp,ho]
      rw [e];exact de_ _ _ _ _ (hr w)⟩
  · obtain ⟨v,hK,hr⟩:=io_ hR h
    exact ⟨v,b__ hK,hr⟩
end
end Go.Vc
namespace Go.Vc
open Go
def f7_ (a:Addr) (i:Nat):List Value→(World→Prop)→World→Prop
  | [],K,w=>K w
  | v :: vs,K,w=>StC w (a.add i) v λw=>f7_ a (i+1) vs K w
def stK (P:Program) (t:TypeId) (a:Addr) (v:Value) (K:World→Prop) (w:World):Prop:=
  match known P t,aggT P t with
  | true,false=>if szOf P t=1 then StC w a v K else False
  | true,true=>(match v with
    | .agg cs=>if cs.size=szOf P t then f7_ a 0 cs.toList K w else False
    | _=>False)
  | false,_=>False
def aa_ (P:Program) (f:FuncId) (args:Array Value) (w:World) (K:Value→World→Prop):Prop:=
  Calls P f args w λe w'=>∃v,e=.returned v∧K v w'
def biS (b:Builtin) (ts:Array TypeId) (t:TypeId) (args:Array Value):Sem Value:=
  match b with
  | .append=>Builtin.append_ ts t args
  | .copy=>Builtin.copy_ ts t args
  | .delete=>Builtin.delete_ ts t args
  | .clear=>Builtin.clear_ ts t args
  | .len=>Builtin.len_ ts t args
  | .cap=>Builtin.cap_ ts t args
  | .unsafeSliceData=>Builtin.unsafeSliceData_ ts t args
  | .unsafeString=>Builtin.unsafeString_ ts t args
  | .unsafeStringData=>Builtin.unsafeStringData_ ts t args
  | .unsafeSlice=>Builtin.unsafeSlice_ ts t args
  | _=>stuck "no such builtin"
structure Ctx where
  fns:List Nat
  ext:List Nat
def entB (v:Value) (K:Value→Prop):Prop:=∃k x,v=.tuple #[k,x]∧K (.tuple #[k,x])
def tO_ (v:Value) (K:Value→Prop):Prop:=
  (v=.tuple #[.bool false]∧K (.tuple #[.bool false]))∨∃k x,v=.tuple #[.bool true,k,x]∧K (.tuple #[.bool true,k,x])
def bslI (P:Program) (env:List Value) (t:TypeId) (len:Nat) (parts:Array (Nat × Operand)) (K:Value→World→Prop) (w:World):Prop:=
  match P.underlying t with
  | some (.slice e)=>
    (match known P e,zeroOf P e with
     | true,some z=>
       if len*szOf P e≤2 ^ 24∧len*szOf P e≠0 then
         g__ P (λi=>some (e,i*szOf P e)) ((Array.range (len*szOf P e)).map (z.cells[· % z.cells.size]!)).toList (parts.toList.map λp=>(p.1,ev env p.2)) λcs=>
           NewV w (.cells ⟨cs⟩ e (0,0)) λr w=>K (.slice (some ⟨r,0,none⟩) len len) w
       else (if len*szOf P e=0∧parts.size=0 then NewV w (.cells #[] e (0,0)) λr w=>K (.slice (some ⟨r,0,none⟩) len len) w else False)
     | _,_=>False)
  | _=>False
def opI (P:Program) (okf:Ctx) (env:List Value) (o:Oper) (K:Value→World→Prop) (w:World):Prop:=
  match o.op with
  | .store t a x=>drf (ev env a) λa=>stK P t a (ev env x) (λw=>K undef w) w
  | .call c=>
    (match c.callee with
     | .value f=>(match ev env f with
       | .func (.func n) first captured=>
         (match okf.fns.contains n with
         | true=>aa_ P n ⟨first.toList++(c.args.toList.map (ev env)++captured.toList)⟩ w λv w=>tyB (kdOf P o.type) v λv=>K v w
         | false=>rn P (callFunc n ⟨first.toList++(c.args.toList.map (ev env)++captured.toList)⟩ >>= i6_) (λv w=>tyB (kdOf P o.type) v λv=>K v w) w)
       | _=>False)
     | .builtin b=>rn P (biS b c.argTypes o.type (c.args.toList.map (ev env)).toArray) (λv w=>tyB (kdOf P o.type) v λv=>K v w) w
     | .invoke _ _=>False)
  | .lookup t x i ok=>rn P (Instr.lookup t (ev env x) (ev env i) ok) (λv w=>tyB (kdOf P o.type) v λv=>K v w) w
  | .mapUpdate t m k x | .insert t m k x=>rn P (Instr.mapUpdate t (ev env m) (ev env k) (ev env x)) (λ_ w=>K undef w) w
  | .mapEntry t m k=>rn P (Instr.mapEntry t (ev env m) (ev env k)) (λv w=>tyB (kdOf P o.type) v λv=>K v w) w
  | .entryStore t m s x=>rn P (Instr.entryStore t (ev env m) (ev env s) (ev env x)) (λ_ w=>K undef w) w
  | .range t x=>rn P (Instr.range t (ev env x)) (λv w=>K v w) w
  | .next it s=>rn P (Instr.next (ev env it) s o.type) (λv w=>tO_ v λv=>K v w) w
  | .entry it=>rn P (Instr.entry (ev env it)) (λv w=>entB v λv=>K v w) w
  | .makeSlice t l c=>rn P (Instr.makeSlice t (ev env l) (ev env c)) (λv w=>tyB (.s (.c .sl)) v λv=>K v w) w
  | .convert s d x=>rn P (convert s d (ev env x)) (λv w=>tyB (kdOf P d) v λv=>K v w) w
  | .typeAssert x xt at_ ok=>rn P (Instr.typeAssert (ev env x) xt at_ ok) (λv w=>tyB (kdOf P o.type) v λv=>K v w) w
  | .buildSlice t len parts=>bslI P env t len parts K w
  | .makeMap t r=>rn P (Instr.makeMap t (r.map (ev env))) (λv w=>tyB (kdOf P t) v λv=>K v w) w
  | .alloc _ | .box ..=>rn P (execOp (ev env) o >>= i6_) K w
  | _=>False
def okFn (P:Program) (n:Nat):Bool:=
  match P.funcs[n]? with
  | some fn=>fn.name != "runtime.NumGoroutine" && fn.body.isSome
  | none=>false
section
variable {P:Program}
theorem fC_ {a:Addr} : ∀ {vs:List Value} {i:Nat} {K:World→Prop} {w:World},f7_ a i vs K w→∃w',(storeCells a vs i).run P w=.ok () w'∧K w':=by
  intro vs
  induction vs with
  | nil=>intro i K w h;exact ⟨w,rfl,h⟩
  | cons v vs ih=>
    intro i K w h
    obtain ⟨h1,⟨u,h2⟩,h3,h⟩:=h
    obtain ⟨w',hr,hK⟩:=ih h
    refine ⟨w',?_,hK⟩
    rw [storeCells,Sem.run_bind,run_store P w _ v .plain (by cases v <;> simp_all [oneC,Value.oneCell'])]
    simp [h2,h3,hr]
theorem k5_ {t:TypeId} {a:Addr} {v:Value} {K:World→Prop} {w:World} (h:stK P t a v K w) :
    ∃w',(storeVar t a v).run P w=.ok () w'∧K w':=by
  unfold stK at h
  split at h
  · rename_i hk ha
    split at h
    · rename_i hs
      have hv:v.cells=#[v]:=by cases v <;> first | rfl | (simp [StC,oneC] at h)
      obtain ⟨w',hr,hK⟩:=fC_ (P:=P) (a:=a) (vs:=[v]) (i:=0) (K:=K) (w:=w) (by
        have:a.add 0=a:=rfl
        simpa [f7_,this] using h)
      exact ⟨w',by simp [storeVar,hv,run_sizeOf hk,hs,hr],hK⟩
    · exact h.elim
  · rename_i hk ha
    split at h
    · rename_i cs
      split at h
      · rename_i hs
        obtain ⟨w',hr,hK⟩:=fC_ (P:=P) h
        exact ⟨w',by simp [storeVar,Value.cells,run_sizeOf hk,hs,hr],hK⟩
      · exact h.elim
    · exact h.elim
  · exact h.elim
theorem lB_ {n:Nat} {args:Array Value} {w:World} (h:okFn P n=true):(callFunc n args).run P w=.ok (.enter n args) w:=by
  unfold okFn at h
  split at h
  · rename_i fn hf
    simp only [Bool.and_eq_true,bne_iff_ne,ne_eq] at h
    have h2:¬fn.body=none:=by cases hb:fn.body <;> simp_all
    simp [callFunc,hf,h.1,h2]
  · exact absurd h (by simp)
theorem sJ_ {b:Builtin} {ts:Array TypeId} {t:TypeId} {cs:Array Bool} {args:Array Value} {w w':World} {v:Value}
    (h:(biS b ts t args).run P w=.ok v w'):(builtin b ts t cs args).run P w=.ok (.value v) w':=by
  cases b <;> simp only [biS] at h <;> first | (simp [stuck] at h;done) | (simp [builtin,h])
theorem n4_ {env:List Value} {t:TypeId} {len:Nat} {parts:Array (Nat × Operand)} {K:Value→World→Prop} {w:World} (h:bslI P env t len parts K w) :
    ∃v w',(Instr.buildSlice t len (parts.map λ(i,x)=>(i,ev env x))).run P w=.ok v w'∧K v w':=by
  have hl:(parts.map λ(x:Nat × Operand)=>(x.1,ev env x.2)).toList=parts.toList.map λp=>(p.1,ev env p.2):=by simp
  unfold bslI at h
  split at h
  · rename_i e hu
    split at h
    · rename_i z hk hz
      split at h
      · rename_i hs
        obtain ⟨cs,hK,hr⟩:=dO_ (place':=λi=>some (i*szOf P e,szOf P e)) (λi=>rfl) h
        refine ⟨_,_,?_,hK⟩
        have e1:¬len*szOf P e>2 ^ 24:=by omega
        have e2:Instr.fill (λi=>some (i*szOf P e,szOf P e)) ((Array.range (len*szOf P e)).map (z.cells[· % z.cells.size]!)) (parts.toList.map λp=>(p.1,ev env p.2))=some ⟨cs⟩:=hr
        simp only [Instr.buildSlice,Sem.run_bind,run_underlying hu,run_sizeOf hk,Result.andThen_ok,Sem.run_ite]
        rw [if_neg e1]
        simp only [Sem.run_pure,Result.andThen_ok,if_neg hs.2,fE_ hz]
        rw [hl,e2]
        simp [newRow]
      · split at h
        · rename_i hs
          refine ⟨_,_,?_,h⟩
          have e1:¬len*szOf P e>2 ^ 24:=by omega
          have e2:parts=#[]:=Array.eq_empty_of_size_eq_zero hs.2
          subst e2
          simp only [Instr.buildSlice,Sem.run_bind,run_underlying hu,run_sizeOf hk,Result.andThen_ok,Sem.run_ite]
          rw [if_neg e1]
          have e3:(Array.range 0:Array Nat)=#[]:=by apply Array.toList_inj.1;simp
          simp [hs.1,Instr.fill,newRow,e3]
        · exact h.elim
    · exact h.elim
  · exact h.elim
theorem pi_ {okf:Ctx} (hok:∀n,okf.fns.contains n=true→okFn P n=true) {env:List Value} {o:Oper} {K:Value→World→Prop} {w:World}
    (h:opI P okf env o K w) {next:Act→World→Prop} {Q:Exit→Act→World→Prop} (hn:∀v w',K v w'→next (act (putD env o.dst v)) w') :
    o.wp P (act env) w next Q:=by
  have fin:∀(v:Value) (w':World),K v w'→(execOp (ev env) o).run P w=.ok (.value v) w'→o.wp P (act env) w next Q:=by
    intro v w' hK hr
    unfold Oper.wp
    rw [i1_,hr,Oper.upon_value,cS_]
    exact hn _ _ hK
  have finU:∀(w':World),K undef w'→(execOp (ev env) o).run P w=.ok .skip w'→o.wp P (act env) w next Q:=by
    intro w' hK hr
    unfold Oper.wp
    rw [i1_,hr,Oper.upon_skip,cS_]
    exact hn _ _ hK
  unfold opI at h
  split at h
  · rename_i t a x ho
    obtain ⟨a',he,h⟩:=lz_ h
    obtain ⟨w',hr,hK⟩:=k5_ h
    exact finU w' hK (by simp [execOp,ho,he,Instr.storeAt,Instr.sureAddr,hr])
  · rename_i c ho
    split at h
    · rename_i f hc
      split at h
      · rename_i n first captured hf
        have hr:(execOp (ev env) o).run P w=(callFunc n ⟨first.toList++(c.args.toList.map (ev env)++captured.toList)⟩).run P w:=by
          have e1:(resolve (ev env) c o.type).run P w=.ok { target:=.fn (.func n) captured,args:=first++c.args.map (ev env) } w:=by
            simp [resolve,hc,hf,Deferred.ofValue]
          simp only [execOp,ho,Sem.run_bind,e1,Result.andThen_ok]
          simp only [invoke]
          congr 2
          apply Array.toList_inj.1
          simp
        split at h
        · rename_i hokn
          rw [lB_ (hok n (by simpa using hokn))] at hr
          unfold Oper.wp
          rw [i1_,hr,Oper.upon_enter]
          refine Calls.mono h ?_
          rintro e w' ⟨v,rfl,hv⟩
          show next ((act env).put o.dst v) w'
          rw [cS_]
          exact hn _ _ (b5_ hv)
        · obtain ⟨v,w',hr2,hK⟩:=h
          refine fin v w' (b5_ hK) ?_
          rw [hr]
          rw [Sem.run_bind] at hr2
          cases hx:(callFunc n ⟨first.toList++(c.args.toList.map (ev env)++captured.toList)⟩).run P w with
          | halt x w'=>rw [hx] at hr2;simp at hr2
          | ok m w''=>
            rw [hx] at hr2
            cases m <;> simp [i6_] at hr2
            obtain ⟨rfl,rfl⟩:=hr2
            rfl
      · exact h.elim
    · rename_i b hc
      obtain ⟨v,w',hr,hK⟩:=h
      refine fin v w' (b5_ hK) ?_
      obtain ⟨cs,e1⟩:∃cs,(resolve (ev env) c o.type).run P w=.ok { target:=.builtin b c.argTypes o.type cs,args:=c.args.map (ev env) } w:=
        ⟨_,by simp only [resolve,hc];rfl⟩
      simp only [execOp,ho,Sem.run_bind,e1,Result.andThen_ok,invoke]
      refine sJ_ ?_
      have e2:(c.args.toList.map (ev env)).toArray=c.args.map (ev env):=by apply Array.toList_inj.1;simp
      rw [← e2];exact hr
    · exact h.elim
  · rename_i t x i ok ho
    obtain ⟨v,w',hr,hK⟩:=h
    exact fin v w' (b5_ hK) (by simp [execOp,ho,hr])
  · rename_i t m k x ho
    obtain ⟨v,w',hr,hK⟩:=h
    exact finU w' hK (by simp [execOp,ho,hr])
  · rename_i t m k x ho
    obtain ⟨v,w',hr,hK⟩:=h
    exact finU w' hK (by simp [execOp,ho,hr])
  · rename_i t m k ho
    obtain ⟨v,w',hr,hK⟩:=h
    exact fin v w' (b5_ hK) (by simp [execOp,ho,hr])
  · rename_i t m s x ho
    obtain ⟨v,w',hr,hK⟩:=h
    exact finU w' hK (by simp [execOp,ho,hr])
  · rename_i t x ho
    obtain ⟨v,w',hr,hK⟩:=h
    exact fin v w' hK (by simp [execOp,ho,hr])
  · rename_i it s ho
    obtain ⟨v,w',hr,hK⟩:=h
    refine fin v w' ?_ (by simp [execOp,ho,hr])
    rcases hK with ⟨rfl,hK⟩ | ⟨_,_,rfl,hK⟩ <;> exact hK
  · rename_i it ho
    obtain ⟨v,w',hr,hK⟩:=h
    refine fin v w' ?_ (by simp [execOp,ho,hr])
    obtain ⟨_,_,rfl,hK⟩:=hK
    exact hK
  · rename_i t l c ho
    obtain ⟨v,w',hr,hK⟩:=h
    exact fin v w' (b5_ hK) (by simp [execOp,ho,hr])
  · rename_i s d x ho
    obtain ⟨v,w',hr,hK⟩:=h
    exact fin v w' (b5_ hK) (by simp [execOp,ho,hr])
  · rename_i x xt at_ ok ho
    obtain ⟨v,w',hr,hK⟩:=h
    exact fin v w' (b5_ hK) (by simp [execOp,ho,hr])
  · rename_i t len parts ho
    obtain ⟨v,w',hr,hK⟩:=n4_ h
    refine fin v w' hK ?_
    have e:execOp (ev env) o=(do pure (.value (← Instr.buildSlice t len (parts.map λ(i,x)=>(i,ev env x)))):Sem Next):=by simp only [execOp,ho]
    rw [e];simp [hr]
  · rename_i t r ho
    obtain ⟨v,w',hr,hK⟩:=h
    exact fin v w' (b5_ hK) (by simp [execOp,ho,hr])
  iterate 2
    · obtain ⟨v,w',hr,hK⟩:=h
      refine fin v w' hK ?_
      rw [Sem.run_bind] at hr
      cases hx:(execOp (ev env) o).run P w with
      | halt x w'=>rw [hx] at hr;simp at hr
      | ok n w''=>
        rw [hx] at hr
        cases n <;> simp [i6_] at hr
        obtain ⟨rfl,rfl⟩:=hr
        rfl
  · exact h.elim
end
end Go.Vc
namespace Go.Vc
open Go
def CurC:List Ck→Type→Type
  | [],B=>B
  | .int _ :: cs,B=>Int→CurC cs B
  | .bool :: cs,B=>Bool→CurC cs B
  | .str :: cs,B=>ByteArray→CurC cs B
  | .ptr :: cs,B=>Option Addr→CurC cs B
  | .sl :: cs,B=>Option Addr→Nat→Nat→CurC cs B
  | .mp :: cs,B=>Option Nat→CurC cs B
  | .any :: cs,B=>Value→CurC cs B
def allC {B:Type} : (cs:List Ck)→CurC cs B→(List Value→B→Prop)→Prop
  | [],I,K=>K [] I
  | .int k :: cs,I,K=>∀n:Int,allC cs (I n) λr p=>K (.int k n :: r) p
  | .bool :: cs,I,K=>∀b:Bool,allC cs (I b) λr p=>K (.bool b :: r) p
  | .str :: cs,I,K=>∀s:ByteArray,allC cs (I s) λr p=>K (.string s :: r) p
  | .ptr :: cs,I,K=>∀q:Option Addr,allC cs (I q) λr p=>K (.pointer q :: r) p
  | .sl :: cs,I,K=>∀(a:Option Addr) (l c:Nat),allC cs (I a l c) λr p=>K (.slice a l c :: r) p
  | .mp :: cs,I,K=>∀m:Option Nat,allC cs (I m) λr p=>K (.map m :: r) p
  | .any :: cs,I,K=>∀v:Value,allC cs (I v) λr p=>K (v :: r) p
def atC {B:Type} : (cs:List Ck)→CurC cs B→List Value→(B→Prop)→Prop
  | [],I,vs,K=>(match vs with | []=>K I | _=>False)
  | .int k :: cs,I,vs,K=>(match vs with | .int k' n :: vs=>if k=k' then atC cs (I n) vs K else False | _=>False)
  | .bool :: cs,I,vs,K=>(match vs with | .bool b :: vs=>atC cs (I b) vs K | _=>False)
  | .str :: cs,I,vs,K=>(match vs with | .string s :: vs=>atC cs (I s) vs K | _=>False)
  | .ptr :: cs,I,vs,K=>(match vs with | .pointer q :: vs=>atC cs (I q) vs K | _=>False)
  | .sl :: cs,I,vs,K=>(match vs with | .slice a l c :: vs=>atC cs (I a l c) vs K | _=>False)
  | .mp :: cs,I,vs,K=>(match vs with | .map m :: vs=>atC cs (I m) vs K | _=>False)
  | .any :: cs,I,vs,K=>(match vs with | v :: vs=>atC cs (I v) vs K | _=>False)
theorem r2_ {B:Type} : ∀ {cs:List Ck} {I:CurC cs B} {vs:List Value} {K:B→Prop},atC cs I vs K→
    ∃p,K p∧∀L:List Value→B→Prop,allC cs I L→L vs p:=by
  intro cs
  induction cs with
  | nil=>
    intro I vs K h
    cases vs with
    | nil=>exact ⟨I,h,λL hl=>hl⟩
    | cons v vs=>exact h.elim
  | cons c cs ih=>
    intro I vs K h
    cases vs with
    | nil=>cases c <;> exact h.elim
    | cons v vs=>
      cases c
      case int k=>
        cases v <;> try exact h.elim
        rename_i k' n
        simp only [atC] at h
        split at h
        · rename_i hk;subst hk
          obtain ⟨p,hp,hl⟩:=ih h
          exact ⟨p,hp,λL hL=>hl (λr p=>L (.int k n :: r) p) (hL n)⟩
        · exact h.elim
      case bool=>
        cases v <;> try exact h.elim
        rename_i x
        obtain ⟨p,hp,hl⟩:=ih h
        exact ⟨p,hp,λL hL=>hl (λr p=>L (.bool x :: r) p) (hL x)⟩
      case str=>
        cases v <;> try exact h.elim
        rename_i x
        obtain ⟨p,hp,hl⟩:=ih h
        exact ⟨p,hp,λL hL=>hl (λr p=>L (.string x :: r) p) (hL x)⟩
      case ptr=>
        cases v <;> try exact h.elim
        rename_i x
        obtain ⟨p,hp,hl⟩:=ih h
        exact ⟨p,hp,λL hL=>hl (λr p=>L (.pointer x :: r) p) (hL x)⟩
      case sl=>
        cases v <;> try exact h.elim
        rename_i x y z
        obtain ⟨p,hp,hl⟩:=ih h
        exact ⟨p,hp,λL hL=>hl (λr p=>L (.slice x y z :: r) p) (hL x y z)⟩
      case mp=>
        cases v <;> try exact h.elim
        rename_i x
        obtain ⟨p,hp,hl⟩:=ih h
        exact ⟨p,hp,λL hL=>hl (λr p=>L (.map x :: r) p) (hL x)⟩
      case any=>
        obtain ⟨p,hp,hl⟩:=ih h
        exact ⟨p,hp,λL hL=>hl (λr p=>L (v :: r) p) (hL v)⟩
def CurS:Sk→Type→Type
  | .c k,B=>CurC [k] B
  | .a ks,B=>CurC ks B
def CurT:List Sk→Type→Type
  | [],B=>B
  | s :: ss,B=>CurS s (CurT ss B)
def allS {B:Type} : (s:Sk)→CurS s B→(Value→B→Prop)→Prop
  | .c .bool,I,K=>K (.bool true) (I true)∧K (.bool false) (I false)
  | .c k,I,K=>allC [k] I λvs p=>K (vs.headD undef) p
  | .a ks,I,K=>allC ks I λvs p=>K (.agg ⟨vs⟩) p
def atS {B:Type} : (s:Sk)→CurS s B→Value→(B→Prop)→Prop
  | .c k,I,v,K=>atC [k] I [v] K
  | .a ks,I,v,K=>(match v with | .agg cs=>atC ks I cs.toList K | _=>False)
theorem sK_ {B:Type} {s:Sk} {I:CurS s B} {v:Value} {K:B→Prop} (h:atS s I v K):∃p,K p∧∀L:Value→B→Prop,allS s I L→L v p:=by
  cases s with
  | c k=>
    obtain ⟨p,hp,hl⟩:=r2_ h
    refine ⟨p,hp,λL hL=>?_⟩
    cases k with
    | bool=>
      refine hl (λvs p=>L (vs.headD undef) p) ?_
      intro b
      cases b
      · exact hL.2
      · exact hL.1
    | _=>exact hl (λvs p=>L (vs.headD undef) p) hL
  | a ks=>
    cases v <;> try exact h.elim
    rename_i cs
    obtain ⟨p,hp,hl⟩:=r2_ h
    exact ⟨p,hp,λL hL=>hl (λvs p=>L (.agg ⟨vs⟩) p) hL⟩
def allT {B:Type} : (ss:List Sk)→CurT ss B→(List Value→B→Prop)→Prop
  | [],I,K=>K [] I
  | s :: ss,I,K=>allS s I λv I=>allT ss I λr p=>K (v :: r) p
def atT {B:Type} : (ss:List Sk)→CurT ss B→List Value→(B→Prop)→Prop
  | [],I,_,K=>K I
  | s :: ss,I,vs,K=>atS s I (vs.headD undef) λI=>atT ss I vs.tail K
theorem fv_ {B:Type} : ∀ {ss:List Sk} {I:CurT ss B} {vs:List Value} {K:B→Prop},vs.length=ss.length→atT ss I vs K→
    ∃p,K p∧∀L:List Value→B→Prop,allT ss I L→L vs p:=by
  intro ss
  induction ss with
  | nil=>
    intro I vs K hl h
    cases vs with
    | nil=>exact ⟨I,h,λL hL=>hL⟩
    | cons v vs=>simp at hl
  | cons s ss ih=>
    intro I vs K hl h
    cases vs with
    | nil=>simp at hl
    | cons v vs=>
      obtain ⟨I',h2,ha⟩:=sK_ h
      obtain ⟨p,hp,hb⟩:=ih (by simpa using hl) h2
      exact ⟨p,hp,λL hL=>hb (λr p=>L (v :: r) p) (ha (λv I=>allT ss I λr p=>L (v :: r) p) hL)⟩
def dX_ (env:List Value):List Nat→List Value→List Value
  | [],_=>env
  | i :: is,vs=>dX_ (put env i (vs.headD undef)) is vs.tail
def reset (env:List Value):List Nat→(Nat→Value)→List Value
  | [],_=>env
  | i :: is,D=>reset (put env i (D i)) is D
theorem hV_ (e:List Value) (i:Nat) (x:Value):(put e i x).length=e.length:=by
  induction e generalizing i with
  | nil=>rfl
  | cons v vs ih=>cases i <;> simp [put,ih]
theorem mj_ (e:List Value) (i:Nat) (x:Value) (j:Nat):nth (put e i x) j=if i=j∧i<e.length then x else nth e j:=by
  induction e generalizing i j with
  | nil=>simp [put,nth]
  | cons v vs ih=>
    cases i with
    | zero=>cases j <;> simp [put,nth]
    | succ i=>cases j with
      | zero=>simp [put,nth]
      | succ j=>simp [put,nth,ih]
theorem rc_ {a b:List Value} (hl:a.length=b.length) (h:∀i,nth a i=nth b i):a=b:=by
  induction a generalizing b with
  | nil=>cases b with
    | nil=>rfl
    | cons=>simp at hl
  | cons x xs ih=>cases b with
    | nil=>simp at hl
    | cons y ys=>
      have h0:x=y:=h 0
      rw [h0,ih (by simpa using hl) λi=>h (i+1)]
theorem le_ (e:List Value) (m:List Nat) (D:Nat→Value):(reset e m D).length=e.length:=by
  induction m generalizing e with
  | nil=>rfl
  | cons i is ih=>simp [reset,ih,hV_]
theorem pm_ (e:List Value) (m:List Nat) (D:Nat→Value) (j:Nat):nth (reset e m D) j=if j∈m∧j<e.length then D j else nth e j:=by
  induction m generalizing e with
  | nil=>simp [reset]
  | cons i is ih=>
    simp only [reset,ih,hV_,mj_,List.mem_cons]
    by_cases h1:j∈is∧j<e.length
    · simp [h1]
    · rw [if_neg h1]
      by_cases h2:i=j∧i<e.length
      · obtain ⟨rfl,h2⟩:=h2;simp [h2]
      · rw [if_neg h2]
        rw [if_neg]
        rintro ⟨h3 | h3,h4⟩
        · exact h2 ⟨h3.symm,h3 ▸ h4⟩
        · exact h1 ⟨h3,h4⟩
theorem nJ_ (e:List Value) (is:List Nat) (vs:List Value):(dX_ e is vs).length=e.length:=by
  induction is generalizing e vs with
  | nil=>rfl
  | cons i is ih=>simp [dX_,ih,hV_]
theorem ma_ {e e':List Value} (is:List Nat) (hl:e.length=e'.length) (j:Nat) :
    nth (dX_ e is (is.map (nth e'))) j=nth e j∨nth (dX_ e is (is.map (nth e'))) j=nth e' j:=by
  induction is generalizing e with
  | nil=>exact .inl rfl
  | cons i is ih=>
    simp only [dX_,List.map_cons,List.headD_cons,List.tail_cons]
    rcases ih (e:=put e i (nth e' i)) (by simp [hV_,hl]) with h | h
    · rw [h,mj_]
      split
      · rename_i h2;obtain ⟨rfl,_⟩:=h2;exact .inr rfl
      · exact .inl rfl
    · exact .inr h
def Agr (m:List Nat) (e e':List Value):Prop:=e'.length=e.length∧∀i,i∉m→nth e' i=nth e i
theorem Agr.refl (m:List Nat) (e:List Value):Agr m e e:=⟨rfl,λ_ _=>rfl⟩
theorem Agr.trans {m:List Nat} {a b c:List Value} (h:Agr m a b) (k:Agr m b c):Agr m a c:=⟨k.1.trans h.1,λi hi=>(k.2 i hi).trans (h.2 i hi)⟩
theorem Agr.mono {m m':List Nat} {a b:List Value} (h:Agr m a b) (hm:∀i,i∈m→i∈m'):Agr m' a b:=⟨h.1,λi hi=>h.2 i λhm'=>hi (hm i hm')⟩
theorem Agr.put (m:List Nat) (e:List Value) (d:Option Nat) (x:Value) (h:∀i,d=some i→i∈m):Agr m e (putD e d x):=by
  cases d with
  | none=>exact .refl _ _
  | some i=>
    refine ⟨hV_ _ _ _,λj hj=>?_⟩
    simp only [putD,mj_]
    rw [if_neg]
    rintro ⟨rfl,_⟩
    exact hj (h i rfl)
theorem Agr.form {m:List Nat} {e e':List Value} (h:Agr m e e') (is:List Nat):e'=dX_ (reset e m (nth e')) is (is.map (nth e')):=by
  refine rc_ ?_ λj=>?_
  · simp [nJ_,le_,h.1]
  · have hr:nth (reset e m (nth e')) j=nth e' j:=by
      rw [pm_]
      split
      · rfl
      · rename_i hn
        by_cases hj:j∈m
        · have:¬j<e.length:=λhl=>hn ⟨hj,hl⟩
          have z:∀(l:List Value) (j:Nat),¬j<l.length→nth l j=undef:=by
            intro l
            induction l with
            | nil=>intro j _;rfl
            | cons x xs ih=>intro j hj;cases j with
              | zero=>simp at hj
              | succ j=>exact ih j (by simpa using hj)
          rw [z _ _ this,z _ _ (by rw [h.1];exact this)]
        · exact (h.2 j hj).symm
    rcases ma_ (e:=reset e m (nth e')) (e':=e') is (by simp [le_,h.1]) j with h2 | h2
    · rw [h2,hr]
    · rw [h2]
end Go.Vc
namespace Go.Vc
open Go
section
variable {P:Program} {ops:Array Oper} {Q:Exit→Act→World→Prop} {S:World→Prop}
def lW_ (ops:Array Oper) (x k:Nat):Bool:=match ops[x]? with
  | some o=>o.after.any λe=>Region.binds .any e && e.on == k
  | none=>false
def hi_ (ops:Array Oper):Nat→List Nat→List Nat
  | 0,W=>W
  | k+1,W=>hi_ ops k (match W.any (λx=>lW_ ops x k) with | true=>k :: W | false=>W)
def if_ (ops:Array Oper) (i:Nat):Bool:=
  match hi_ ops ops.size [i] with
  | W=>(List.range ops.size).all λj=>W.contains j
def c8_ (ops:Array Oper) (listed:Array Bool):Prop:=
  ∀k ok,ops[k]? = some ok→listed.getD k false=true→∀e∈ok.after,Region.binds .any e=true→listed.getD e.on false=true
theorem c8_.init (ops:Array Oper) (n:Nat):c8_ ops (Array.replicate n false):=by
  intro k ok _ h
  exfalso
  revert h
  simp only [Array.getD_eq_getD_getElem?,Array.getElem?_replicate]
  split <;> simp
theorem c8_.set {listed:Array Bool} {i:Nat} (h:c8_ ops listed) (hr:i∈Region.ready .any ops listed):c8_ ops (listed.setIfInBounds i true):=by
  intro k ok hk hl e he hb
  obtain ⟨hui,oi,hoi,hall⟩:=mem_ready.1 hr
  by_cases e':i=k
  · subst e'
    rw [hoi] at hk;cases hk
    exact getD_set_true (hall e he hb)
  · rw [getD_set_ne false e'] at hl
    exact getD_set_true (h k ok hk hl e he hb)
theorem nx_ {x k:Nat} (h:lW_ ops x k=true):∃o e,ops[x]? = some o∧e∈o.after∧Region.binds .any e=true∧e.on=k:=by
  unfold lW_ at h
  split at h
  · rename_i o ho
    rw [Array.any_eq_true] at h
    obtain ⟨j,hj,h⟩:=h
    simp only [Bool.and_eq_true,beq_iff_eq] at h
    exact ⟨o,_,ho,Array.getElem_mem hj,h.1,h.2⟩
  · cases h
theorem hA_ {i:Nat} {listed:Array Bool} (hc:c8_ ops listed) (hr:i∈Region.ready .any ops listed):∀(n:Nat) (W:List Nat),(∀x,x∈W→x=i∨listed.getD x false=true)→
    ∀x,x∈hi_ ops n W→x=i∨listed.getD x false=true:=by
  intro n
  induction n with
  | zero=>intro W h x hx;exact h x hx
  | succ n ih=>
    intro W h x hx
    unfold hi_ at hx
    split at hx
    · rename_i hw
      refine ih _ (λy hy=>?_) x hx
      rcases List.mem_cons.1 hy with rfl | hy
      · rw [List.any_eq_true] at hw
        obtain ⟨z,hz,hzw⟩:=hw
        obtain ⟨o,e,ho,he,hb,hon⟩:=nx_ hzw
        rcases h z hz with rfl | hl
        · obtain ⟨_,oi,hoi,hall⟩:=mem_ready.1 hr
          rw [hoi] at ho;cases ho
          exact .inr (hon ▸ hall e he hb)
        · exact .inr (hon ▸ hc z o ho hl e he hb)
      · exact h y hy
    · exact ih _ h x hx
theorem gS_ {i j:Nat} {listed:Array Bool} (hc:c8_ ops listed) (hr:i∈Region.ready .any ops listed) (hl:if_ ops i=true) (hj:j<ops.size) (hne:j≠i):listed.getD j false=true:=by
  unfold if_ at hl
  simp only [List.all_eq_true,List.mem_range] at hl
  have:=hl j hj
  rcases hA_ hc hr _ _ (λx hx=>.inl (List.mem_singleton.1 hx)) j (by simpa using this) with h | h
  · exact absurd h hne
  · exact h
theorem nU_ {i:Nat} {listed:Array Bool} (hc:c8_ ops listed) (hl:if_ ops i=true) (hr:i∈Region.ready .any ops listed):Region.ready .any ops (listed.setIfInBounds i true)=[]:=by
  rcases hx:Region.ready .any ops (listed.setIfInBounds i true) with _ | ⟨j,js⟩
  · rfl
  · exfalso
    have hj:j∈Region.ready .any ops (listed.setIfInBounds i true):=by rw [hx];simp
    obtain ⟨hu,oj,hoj,_⟩:=mem_ready.1 hj
    obtain ⟨hui,oi,hoi,hall⟩:=mem_ready.1 hr
    have hjs:j<ops.size:=by
      rcases Nat.lt_or_ge j ops.size with h | h
      · exact h
      · simp [Array.getElem?_eq_none h] at hoj
    by_cases e:j=i
    · subst e
      by_cases hb:j<listed.size
      · simp [hb] at hu
      · simp [Array.getElem?_eq_none (Nat.le_of_not_lt hb)] at hui
    · have h1:=gS_ hc hr hl hjs e
      rw [getD_set_ne true (Ne.symm e)] at hu
      by_cases hb:j<listed.size
      · simp [hb] at h1 hu;rw [h1] at hu;cases hu
      · simp [Array.getElem?_eq_none (Nat.le_of_not_lt hb)] at h1
def anyL (P:Program) (ops:Array Oper) (Q:Exit→Act→World→Prop) (S:World→Prop):Nat→Array Bool→Act→World→Prop
  | 0,listed,a,w=>Region.ready .any ops listed=[]∧Q .normal a w
  | n+1,listed,a,w=>
    (Region.ready .any ops listed=[]→Q .normal a w)∧
    ∀i,i∈Region.ready .any ops listed→wpOp P ops Q i (λa w=>(if_ ops i=true∨S w)∧anyL P ops Q S n (listed.setIfInBounds i true) a w) a w
theorem gM_:∀(n:Nat) (listed:Array Bool) (a:Act) (w:World),anyL P ops Q S n listed a w→wpAny P .any ops Q n listed a w
  | 0,_,_,_,h=>h
  | n+1,_,_,_,h=>⟨h.1,λi hi=>wpOp_mono (λa w hw=>gM_ n _ a w hw.2) (h.2 i hi)⟩
theorem eI_ {i:Nat} {oi:Oper} {v:Value} (hi:ops[i]? = some oi) (hns:Region.noSelect ops=true)
    (hQ:∀c a w,Q (.panic c) (a.put oi.dst v) w→Q (.panic c) a w) :
    ∀(n:Nat) (listed:Array Bool) (a:Act) (w:World),
      (∀j oj,ops[j]? = some oj→j≠i→listed.getD j true=false→(∀e∈oj.after,Region.binds .any e=true→e.on≠i)→oi.apart ops oj=true)→
      c8_ ops listed→i∈Region.ready .any ops listed→YieldsIf P ops S oi v a→S w→
      anyL P ops Q S n (listed.setIfInBounds i true) (a.put oi.dst v) w→anyL P ops Q S (n+1) listed a w:=by
  have his:i<ops.size:=by
    rcases Nat.lt_or_ge i ops.size with h | h
    · exact h
    · simp [Array.getElem?_eq_none h] at hi
  have free:∀ {listed:Array Bool} {j:Nat} {oj:Oper},i∈Region.ready .any ops listed→j∈Region.ready .any ops listed→ops[j]? = some oj→
      ∀e∈oj.after,Region.binds .any e=true→e.on≠i:=by
    intro listed j oj hri hrj hoj e he hb heq
    obtain ⟨_,oj',hoj',hall⟩:=mem_ready.1 hrj
    obtain rfl:oj=oj':=by rw [hoj] at hoj';exact Option.some.inj hoj'
    have h1:=hall e he hb
    rw [heq] at h1
    have h0:=(mem_ready.1 hri).1
    by_cases hb:i<listed.size
    · simp [hb] at h0 h1;rw [h0] at h1;cases h1
    · simp [Array.getElem?_eq_none (Nat.le_of_not_lt hb)] at h1
  intro n
  induction n with
  | zero=>
    intro listed a w _ hcl hr hy hS H
    refine ⟨λh=>absurd hr (by rw [h];simp),λj hj=>?_⟩
    by_cases e:j=i
    · subst e;exact hy.wpOp hi hS ⟨.inr hS,H⟩
    · exact absurd (ready_mono hj e) (by rw [H.1];simp)
  | succ n ih=>
    intro listed a w hap hcl hr hy hS H
    refine ⟨λh=>absurd hr (by rw [h];simp),λj hj=>?_⟩
    by_cases e:j=i
    · subst e;exact hy.wpOp hi hS ⟨.inr hS,H⟩
    · obtain ⟨hun,oj,hoj,_⟩:=mem_ready.1 hj
      have hw:=free hr hj hoj
      have hnl:¬if_ ops j=true:=λhl=>by
        have h1:=gS_ hcl hj hl his (Ne.symm e)
        have h0:=(mem_ready.1 hr).1
        by_cases hb:i<listed.size
        · simp [hb] at h0 h1;rw [h0] at h1;cases h1
        · simp [Array.getElem?_eq_none (Nat.le_of_not_lt hb)] at h1
      have hs:=Region.noSelect_spec hns
      have step:=wpOp_putIf hoj (hap j oj hoj e hun hw) (λcs b=>hs i oi cs b hi) (λcs b=>hs j oj cs b hoj) hQ hy (H.2 j (ready_mono hj e))
      refine wpOp_mono ?_ step
      rintro a' w' ⟨hy',hS',h'⟩
      have hSw:S w':=hS'.resolve_left hnl
      refine ⟨.inr hSw,ih _ a' w' ?_ (hcl.set hj) (ready_mono hr (Ne.symm e)) hy' hSw ?_⟩
      · intro k ok hk hki hu hno
        refine hap k ok hk hki ?_ hno
        by_cases hjk:j=k
        · subst hjk;exact hun
        · rwa [getD_set_ne true hjk] at hu
      · rw [Array.setIfInBounds_comm _ _ e];exact h'
theorem ns_ {rs:List Nat} {n:Nat} {listed:Array Bool} {a:Act} {w:World} (hr:Region.ready .any ops listed=rs) (hne:rs≠[])
    (h:∀i,i∈rs→wpOp P ops Q i (λa w=>(if_ ops i=true∨S w)∧anyL P ops Q S n (listed.setIfInBounds i true) a w) a w):anyL P ops Q S (n+1) listed a w:=
  ⟨λh0=>absurd (hr ▸ h0) hne,λi hi=>h i (hr ▸ hi)⟩
theorem iM_ {listed:Array Bool} {a:Act} {w:World} (hr:Region.ready .any ops listed=[]) (h:Q .normal a w):∀n,anyL P ops Q S n listed a w
  | 0=>⟨hr,h⟩
  | _+1=>⟨λ_=>h,λi hi=>absurd hi (by rw [hr];simp)⟩
end
end Go.Vc
namespace Go.Vc
open Go
def silAt (P:Program) (ops:Array Oper) (env:List Value) (listed:Array Bool) (i:Nat):Bool:=
  (match ops[i]? with
   | none=>false
   | some o=>!Region.wanted o (yielded ops env.toArray) || o7_ P o.op) && Region.free .any ops listed i && (Region.ready .any ops listed).contains i
def allR:List Nat→(Nat→Prop)→Prop
  | [],_=>True
  | [i],p=>p i
  | i :: j :: r,p=>p i∧allR (j :: r) p
def dsts (ops:Array Oper):List Nat:=ops.toList.filterMap (·.dst)
section
variable {P:Program} {okf:Ctx} {Q:Exit→Act→World→Prop}
theorem lH_ {rs:List Nat} {p:Nat→Prop} (h:allR rs p):∀i,i∈rs→p i:=by
  induction rs with
  | nil=>intro i hi;cases hi
  | cons r rs ih=>
    intro i hi
    cases rs with
    | nil=>simp at hi;subst hi;exact h
    | cons s rs=>
      rcases List.mem_cons.1 hi with rfl | hi
      · exact h.1
      · exact ih h.2 i hi
end
inductive Ann where
  | z
  | s (a b:Ann)
  | cut (live:List (Nat × Sk)) (a b:Ann)
  | c (a b:Ann)
  | l (live:List (Nat × Sk)) (b:Ann)
  | b (a:Ann)
def Ann.fst:Ann→Ann
  | .s x _ | .cut _ x _ | .c x _ | .b x | .l _ x=>x
  | .z=>.z
def Ann.snd:Ann→Ann
  | .s _ x | .cut _ _ x | .c _ x=>x
  | _=>.z
def Ann.cuts:Ann→Option (List (Nat × Sk))
  | .cut x _ _=>some x
  | _=>none
def Ann.live:Ann→List (Nat × Sk)
  | .l x _=>x
  | _=>[]
def writes:Code→List Nat
  | .region _ ops _=>dsts ops
  | .seq a b | .cond _ a b=>writes a++writes b
  | .block _ a | .loop a | .scope a=>writes a
  | _=>[]
def rY_ (P:Program) (ops:Array Oper):Bool:=P.follows .mixedOrders && Region.noSelect ops
theorem mT_ {P:Program} {c:Code} {Q:Exit→Act→World→Prop} (J:Nat→Act→World→Prop)
    (round:∀n a w,J n a w→c.wp P (Exit.then (λa' w'=>∃n',n'<n∧J n' a' w') Q) a w) {n:Nat} {a:Act} {w:World} (h₀:J n a w):(Code.loop c).wp P Q a w:=by
  intro b k cs
  have key:∀n a w,J n a w→
      ∃e a' w',Q e a' w'∧Arrives P (lone (b.at a (.code c :: .inLoop c :: k)) cs w) b k cs e a' w':=by
    intro n
    induction n using Nat.strongRecOn with
    | _ n ih=>
      intro a w hI
      obtain ⟨e,a₁,w₁,hq,harr⟩:=round n a w hI b (.inLoop c :: k) cs
      cases e with
      | normal=>
        obtain ⟨n',hlt,hI₁⟩:=hq
        obtain ⟨e₂,a₂,w₂,hq₂,harr₂⟩:=ih n' hlt a₁ w₁ hI₁
        exact ⟨e₂,a₂,w₂,hq₂,.of_steps (Steps.trans harr (.one step_inLoop)) harr₂⟩
      | exit id=>exact ⟨_,a₁,w₁,hq,.pass (x:=.inLoop c) rfl (λ_ _=>.inl (by simp)) harr⟩
      | goto l=>exact ⟨_,a₁,w₁,hq,.pass (x:=.inLoop c) rfl (λ_ _=>.inl (by simp)) harr⟩
      | ret=>exact ⟨_,a₁,w₁,hq,.pass (x:=.inLoop c) rfl (λ_ _=>.inl (by simp)) harr⟩
      | panic ch=>exact ⟨_,a₁,w₁,hq,.pass (x:=.inLoop c) rfl (λ_ _=>.inl (by simp)) harr⟩
      | outgrown=>exact ⟨_,a₁,w₁,hq,.pass (x:=.inLoop c) rfl (λ_ _=>.inl (by simp)) harr⟩
  obtain ⟨e,a',w',hq,harr⟩:=key n a w h₀
  exact ⟨e,a',w',hq,.of_steps (.one step_loop) harr⟩
section
variable {P:Program} {okf:Ctx}
def body (fn:Func):Code:=fn.body.getD .skip
end
theorem ad_ {a b:Prop} (e:a=b) (h:b):a:=e ▸ h
end Go.Vc
namespace Go.Vc
open Go
structure Chg (S:Nat→Prop) (w w':World):Prop where
  os:w'.os=w.os
  tape:w'.tape=w.tape
  output:w'.output=w.output
  size:w.heap.size≤w'.heap.size
  block:∀k,k<w.heap.size→¬S k→w'.heap[k]? = w.heap[k]?
abbrev Grow:=Chg λ_=>False
theorem Chg.refl (S:Nat→Prop) (w:World):Chg S w w:=⟨rfl,rfl,rfl,Nat.le_refl _,λ_ _ _=>rfl⟩
theorem Chg.trans {S T:Nat→Prop} {a b c:World} (h:Chg S a b) (k:Chg T b c) (hT:∀i,i<a.heap.size→T i→S i):Chg S a c:=
  ⟨k.os.trans h.os,k.tape.trans h.tape,k.output.trans h.output,Nat.le_trans h.size k.size,λi hi hn=>
    (k.block i (Nat.lt_of_lt_of_le hi h.size) λht=>hn (hT i hi ht)).trans (h.block i hi hn)⟩
theorem Chg.mono {S T:Nat→Prop} {a b:World} (h:Chg S a b) (hT:∀i,i<a.heap.size→S i→T i):Chg T a b:=
  ⟨h.os,h.tape,h.output,h.size,λi hi hn=>h.block i hi λhs=>hn (hT i hi hs)⟩
theorem Grow.trans {a b c:World} (h:Grow a b) (k:Grow b c):Grow a c:=Chg.trans h k λ_ _ h=>h
theorem Grow.chg {S:Nat→Prop} {a b:World} (h:Grow a b):Chg S a b:=Chg.mono h λ_ _ h=>h.elim
theorem Chg.grow {S:Nat→Prop} {a b c:World} (h:Chg S a b) (k:Grow b c):Chg S a c:=h.trans k λ_ _ h=>h.elim
theorem Grow.then {S:Nat→Prop} {a b c:World} (h:Grow a b) (k:Chg S b c):Chg S a c:=(Grow.chg h).trans k λ_ _ h=>h
theorem Chg.drew (w:World):Grow w w.drew:=⟨rfl,rfl,rfl,Nat.le_refl _,λ_ _ _=>rfl⟩
theorem Chg.alloc (w:World) (o:Obj):Grow w (w.alloc o):=
  ⟨rfl,rfl,rfl,by simp,λk hk _=>by
    show (w.heap.push o)[k]? = _
    rw [Array.getElem?_push,if_neg (by omega)]⟩
theorem aj_ {w:World} {b:Nat} {o:Obj} (h:w.heap[b]? = some o):b<w.heap.size:=by
  rcases Nat.lt_or_ge b w.heap.size with hl | hl
  · exact hl
  · simp [Array.getElem?_eq_none hl] at h
theorem Chg.get {S:Nat→Prop} {w w':World} (g:Chg S w w') {b:Nat} {o:Obj} (h:w.heap[b]? = some o) (hn:¬S b):w'.heap[b]? = some o:=by
  rw [g.block b (aj_ h) hn];exact h
theorem Grow.get {w w':World} (g:Grow w w') {b:Nat} {o:Obj} (h:w.heap[b]? = some o):w'.heap[b]? = some o:=Chg.get g h id
theorem Chg.setCell (w:World) (a:Addr) (v:Value):Chg (· = a.block) w (w.setCell a v):=
  ⟨rfl,rfl,rfl,by simp,λk hk hn=>by
    simp only [World.setCell,Array.getElem?_modify]
    rw [if_neg (by omega)]⟩
theorem au_ (b o i:Nat):(⟨b,o,none⟩:Addr).add i=⟨b,o+i,none⟩:=by
  unfold Addr.add;split
  · rename_i h;simp [h]
  · rfl
theorem aw_ {w:World} {b:Nat} {cs:Array Value} {T:TypeId} {fz:Nat × Nat} (h:w.heap[b]? = some (.cells cs T fz)) (i:Nat) :
    w.cell? ⟨b,i,none⟩=cs[i]?:=by simp [World.cell?,h]
theorem jv_ {w:World} {b:Nat} {cs:Array Value} {T:TypeId} (h:w.heap[b]? = some (.cells cs T (0,0))) (i:Nat) :
    w.frozen? ⟨b,i,none⟩=false:=by simp [World.frozen?,h]
theorem sb_ {w:World} {b:Nat} {cs:Array Value} {T:TypeId} {fz:Nat × Nat} (h:w.heap[b]? = some (.cells cs T fz)) (i:Nat) (v:Value) :
    (w.setCell ⟨b,i,none⟩ v).heap[b]? = some (.cells (cs.setIfInBounds i v) T fz):=by
  simp [World.setCell,Array.getElem?_modify,h]
theorem ac_ {a:Addr} {K:Addr→Prop} : Dr (some a) K↔K a:=by
  constructor
  · rintro ⟨b,h,k⟩;cases h;exact k
  · intro h;exact ⟨a,rfl,h⟩
theorem newV {w:World} {o:Obj} {K:Nat→World→Prop}
    (h:∀b w',b=w.heap.size→w'.heap[b]? = some o→w'.heap.size=b+1→Grow w w'→K b w'):NewV w o K:=
  h _ _ rfl (by show (w.heap.push o)[w.heap.size]? = _;simp) (by simp) (Chg.alloc w o)
theorem stC {w:World} {b i:Nat} {v:Value} {K:World→Prop} {cs:Array Value} {T:TypeId} (hb:w.heap[b]? = some (.cells cs T (0,0)))
    (hi:i<cs.size) (hv:oneC v=true)
    (h:∀w',w'.heap[b]? = some (.cells (cs.setIfInBounds i v) T (0,0))→w'.heap.size=w.heap.size→Chg (· = b) w w'→K w'):StC w ⟨b,i,none⟩ v K:=
  ⟨hv,⟨cs[i],by rw [aw_ hb];simp [hi]⟩,jv_ hb i,h _ (sb_ hb i v) (by simp) (Chg.setCell w ⟨b,i,none⟩ v)⟩
def i7_ (w:World) (b o:Nat) (xs:List Value):Prop:=
  ∃cs T fz,w.heap[b]? = some (.cells cs T fz)∧∀i,i<xs.length→cs[o+i]? = xs[i]?
theorem i7_.cell {w:World} {b o:Nat} {xs:List Value} (h:i7_ w b o xs) {i:Nat} {v:Value} (hi:xs[i]? = some v):w.cell? ⟨b,o+i,none⟩=some v:=by
  obtain ⟨cs,T,fz,hb,hc⟩:=h
  have hl:i<xs.length:=by
    rcases Nat.lt_or_ge i xs.length with hl | hl
    · exact hl
    · simp [List.getElem?_eq_none hl] at hi
  rw [aw_ hb,hc i hl,hi]
theorem i7_.keep {S:Nat→Prop} {w w':World} {b o:Nat} {xs:List Value} (h:i7_ w b o xs) (g:Chg S w w') (hn:¬S b):i7_ w' b o xs:=by
  obtain ⟨cs,T,fz,hb,hc⟩:=h
  exact ⟨cs,T,fz,g.get hb hn,hc⟩
def Sl (w:World) (q:Option Addr) (xs:List Value):Prop:=xs=[]∨∃b o,q=some ⟨b,o,none⟩∧i7_ w b o xs
theorem Sl.nil (w:World) (q:Option Addr):Sl w q []:=.inl rfl
def Off (S:Nat→Prop) (q:Option Addr):Prop:=∀a,q=some a→¬S a.block
theorem Off.no (q:Option Addr):Off (λ_=>False) q:=λ_ _ h=>h
theorem Sl.keep {S:Nat→Prop} {w w':World} {q:Option Addr} {xs:List Value} (h:Sl w q xs) (g:Chg S w w') (hn:Off S q):Sl w' q xs:=by
  rcases h with h | ⟨b,o,rfl,h⟩
  · exact .inl h
  · exact .inr ⟨b,o,rfl,h.keep g (hn _ rfl)⟩
theorem Sl.grow {w w':World} {q:Option Addr} {xs:List Value} (h:Sl w q xs) (g:Grow w w'):Sl w' q xs:=h.keep g (Off.no q)
theorem Sl.at {w:World} {q:Option Addr} {xs:List Value} (h:Sl w q xs) {i:Nat} {v:Value} (hi:xs[i]? = some v) :
    ∃b o,q=some ⟨b,o,none⟩∧w.cell? ⟨b,o+i,none⟩=some v:=by
  rcases h with rfl | ⟨b,o,rfl,h⟩
  · simp at hi
  · exact ⟨b,o,rfl,h.cell hi⟩
theorem i7_.lt {w:World} {b o:Nat} {xs:List Value} (h:i7_ w b o xs):b<w.heap.size:=by
  obtain ⟨cs,T,fz,hb,hc⟩:=h;exact aj_ hb
def Own (e:TypeId) (k:Nat) (w:World) (q:Option Addr) (c:Nat) (xs:List Value):Prop:=
  (q=none∧c=0∧xs=[])∨
  ∃b o cs,q=some ⟨b,o,none⟩∧w.heap[b]? = some (.cells cs e (0,0))∧cs.size=o+c*k∧c≤9223372036854775807∧xs.length≤c*k∧∀i,i<xs.length→cs[o+i]? = xs[i]?
theorem Own.sl {e:TypeId} {k:Nat} {w:World} {q:Option Addr} {c:Nat} {xs:List Value} (h:Own e k w q c xs):Sl w q xs:=by
  rcases h with ⟨_,_,h⟩ | ⟨b,o,cs,rfl,hb,_,_,_,h⟩
  · exact .inl h
  · exact .inr ⟨b,o,rfl,cs,e,_,hb,h⟩
theorem Own.keep {S:Nat→Prop} {e:TypeId} {k:Nat} {w w':World} {q:Option Addr} {c:Nat} {xs:List Value} (h:Own e k w q c xs) (g:Chg S w w') (hn:Off S q):Own e k w' q c xs:=by
  rcases h with h | ⟨b,o,cs,rfl,hb,h0,h1,h2,h3⟩
  · exact .inl h
  · exact .inr ⟨b,o,cs,rfl,g.get hb (hn _ rfl),h0,h1,h2,h3⟩
theorem Own.grow {e:TypeId} {k:Nat} {w w':World} {q:Option Addr} {c:Nat} {xs:List Value} (h:Own e k w q c xs) (g:Grow w w'):Own e k w' q c xs:=h.keep g (Off.no q)
theorem Own.nil (e:TypeId) (k:Nat) (w:World):Own e k w none 0 []:=.inl ⟨rfl,rfl,rfl⟩
theorem Own.lt {e:TypeId} {k:Nat} {w:World} {q:Option Addr} {c:Nat} {xs:List Value} (h:Own e k w q c xs):∀a,q=some a→a.block<w.heap.size:=by
  rintro a rfl
  rcases h with ⟨h,_,_⟩ | ⟨b,o,cs,h,hb,_⟩
  · cases h
  · cases h;exact aj_ hb
def am_ (q:Option Addr) (n:Nat):Prop:=∃a,q=some a∧n=a.block
end Go.Vc
