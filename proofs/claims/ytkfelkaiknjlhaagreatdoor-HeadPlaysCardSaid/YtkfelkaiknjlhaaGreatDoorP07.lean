/-
  A part of the proof of the statement HeadPlaysCardSaid, in Lean: Ct1, Mk1, Sy9, MirP10, ShF, Sh1, MirP12, Sh2, Sh3, Cp, Sh4, Sh5, Sha0, Mk2, MirP11. By an AI agent.
-/
import Derived.Test.YtkfelkaiknjlhaaGreatDoorP06
import Derived.Test.YtkfelkaiknjlhaaGreatDoorP03
import Derived.Test.YtkfelkaiknjlhaaGreatDoorP05
import Derived.Test.YtkfelkaiknjlhaaGreatDoorP02
set_option linter.unusedSimpArgs false
set_option linter.unusedVariables false
set_option maxRecDepth 100000
namespace Go.Vc
open Go
theorem gg_ {n:Nat} (hn:n≤1099511627776) {w:World} {K:Value→World→Prop} (hK:K (.int .i64 (ba_ n)) w):aa_ PR F.e9_ ⟨[.int .i64 (n:Int)]⟩ w K:=by
 refine e9_ n S0 K w ⟨λh=>?_,λh=>?_⟩
 ·have:ba_ n=0:=by unfold ba_;omega
  rw [this] at hK;exact hK
 ·rw [w64 (n:=(n:Int) - 1) (by omega) (by omega),Int.tdiv_eq_ediv_of_nonneg (by omega),w64 (n:=((n:Int) - 1) / 64) (by omega) (by omega),w64 (by omega) (by omega)]
  have:((n:Int) - 1) / 64+1=(ba_ n:Nat):=by unfold ba_;omega
  rw [this];exact hK
theorem pT_ {n i:Nat} (hn:n≤1099511627776) (hi:i<ba_ n) {w:World} {K:Value→World→Prop} (hK:K (.int .i64 (min 64 (n - i*64):Nat)) w):aa_ PR F.ga_ ⟨[.int .i64 (n:Int),.int .i64 (i:Int)]⟩ w K:=by
 have hi':i*64<n:=by unfold ba_ at hi;omega
 refine ga_ n i S0 K w ⟨λh=>by omega,λ_=>?_⟩
 refine gg_ hn ⟨_,rfl,.init _ w,λh=>by omega,λ_=>?_⟩
 rw [w64 (n:=(i:Int)*64) (by omega) (by omega),w64 (n:=(n:Int) - (i:Int)*64) (by omega) (by omega)]
 have:(if (n:Int) - (i:Int)*64<64 then (n:Int) - (i:Int)*64 else 64)=((min 64 (n - i*64):Nat):Int):=by split <;> omega
 rw [this];exact hK
theorem ds_ (s:List UInt8) (a b:Nat):(str s).extract a b=str ((s.drop a).take (b - a)):=by
 apply ByteArray.ext
 rw [ByteArray.data_extract]
 apply Array.toList_inj.1
 simp [str]
def cutK (l:List UInt8) (k:Nat):List (List UInt8):=(List.range k).map λi=>(l.drop (64*i)).take 64
theorem rk_ {q:Option Addr} {n c:Nat} {xs:List (List UInt8)} {w:World} (hs:Sl w q (xs.map sv8')) (hl:n=xs.length) (hlc:n≤c) (hN:n≤1000000) (hlen:xs.flatten.length≤1099511627776) {K:Value→World→Prop}
  (hK:∀w' q' c',Grow w w'→Own T.string 1 w' q' c' ((cutL xs.flatten).map sv8')→(cutL xs.flatten).length≤c'→Off (λj=>j<w.heap.size) q'→K (.slice q' (cutL xs.flatten).length c') w'):aa_ PR F.h8_ ⟨[.slice q n c]⟩ w K:=by
 refine h8_ q n c S0 K w ?_
 refine jg_ hs hl hlc hN (by omega) λw1 g1=>⟨_,rfl,(Fr.init _ w).after g1,?_⟩
 generalize xs.flatten=l at *
 rw [af_]
 refine gg_ hlen ⟨_,rfl,(Fr.init _ w).after g1,?_⟩
 refine ⟨λq' n' c' i m w'=>∃k:Nat,i=k∧k≤ba_ l.length∧m=ba_ l.length - k∧Own T.string 1 w' q' c' ((cutK l k).map sv8')∧k=n'∧n'≤c'∧Off (λj=>j<w.heap.size) q',⟨_,0,rfl,by omega,rfl,.nil _ _ _,rfl,Nat.le_refl _,.none _⟩,?_⟩
 rintro q' n' c' i D m w2 ⟨k,rfl,hk,rfl,ho,rfl,hc,hof⟩ hF
 have hcl:(cutL l).length=ba_ l.length:=pz_ l
 refine ⟨λhlt=>?_,λhge=>?_⟩
 ·have hk':k<ba_ l.length:=by omega
  have hk2:k*64<l.length:=by unfold ba_ at hk';omega
  refine pT_ hlen hk' ⟨_,rfl,hF,?_⟩
  rw [w64 (n:=(k:Int)*64) (by omega) (by omega),w64 (n:=(k:Int)*64+((min 64 (l.length - k*64):Nat):Int)) (by omega) (by omega)]
  refine ⟨by omega,by omega,by omega,by omega,λb hb w4 hF4=>?_⟩
  have e1:(str l).extract (Int.toNat ((k:Int)*64)) (Int.toNat ((k:Int)*64+((min 64 (l.length - k*64):Nat):Int)))=str ((l.drop (64*k)).take 64):=by
   rw [ds_,show Int.toNat ((k:Int)*64)=64*k by omega,show Int.toNat ((k:Int)*64+((min 64 (l.length - k*64):Nat):Int)) - 64*k=min 64 (l.length - 64*k) by omega]
   congr 1
   rcases Nat.le_total 64 (l.length - 64*k) with h | h
   ·rw [Nat.min_eq_left h]
   ·rw [Nat.min_eq_right h,List.take_of_length_le (by rw [List.length_drop];exact Nat.le_refl _),List.take_of_length_le (by rw [List.length_drop];exact h)]
  rw [e1] at hF4 ⊢
  refine ia_ (ho.grow hF4.grow) (by simp [cutK]) hc (ys:=[(l.drop (64*k)).take 64]) (hF4.sl 0 rfl) rfl (by unfold ba_ at hk';omega) λq2 c2 w5 ho5 hc5 g5 hq5=>?_
  have hF5:=hF4.app2 g5 w.heap.size w2.heap.size hof (λa ha=>ho.lt a ha) (λy hy=>by simp at hy;subst hy;exact .inr hb) (Nat.le_refl _)
  refine ⟨_,_,_,rfl,hF5,ba_ l.length - (k+1),by omega,k+1,wr1 (by unfold ba_ at hk';omega),by omega,rfl,?_,rfl,hc5,hof.next hq5 (by have:=hF4.chg.size;omega)⟩
  have:cutK l (k+1)=cutK l k++[(l.drop (64*k)).take 64]:=by simp [cutK,List.range_succ]
  rw [this];exact ho5
 ·have e:k=ba_ l.length:=by omega
  subst e
  have e2:cutK l (ba_ l.length)=cutL l:=rfl
  rw [e2] at ho
  rw [← hcl] at hc ⊢
  exact hK w2 q' c' hF.gr ho hc hof
end Go.Vc
namespace Go.Vc
open Go
def fK (a:Int):Option (List Lit):=if IntKind.i64=IntKind.i64∧(Lit.int .i64 a).wf=true then some [Lit.int .i64 a] else none
theorem sZ_ (a k:Int):keyOf PR T.ao_ (.agg #[.int .i64 a,.int .i64 k])=(([fK a,fK k].mapM id).map List.flatten).map λls=>.string (keyBytes ls):=by kernel_rfl
theorem jX_ {a k:Int} (ha:0≤a∧a≤1000000000) (hk:0≤k∧k≤1000000000):∃l,keyOf PR T.ao_ (.agg #[.int .i64 a,.int .i64 k])=some l:=by
 have w:∀ {x:Int},0≤x∧x≤1000000000→fK x=some [Lit.int .i64 x]:=λ{x} h=>by
  unfold fK
  rw [if_pos]
  refine ⟨rfl,?_⟩
  simp [Lit.wf]
  exact ⟨(by have:IntKind.min .i64 = -9223372036854775808:=(by decide);omega),by have:IntKind.max .i64=9223372036854775807:=(by decide);omega⟩
 rw [sZ_,w ha,w hk]
 exact ⟨_,rfl⟩
theorem o6_:Maps.Keyed PR T.ao_:=Maps.Keyed.of_law (deep_law_laid (m:=3) (by kernel_rfl) (by omega) (Nat.le_of_ble_eq_true (by kernel_rfl)) (by kernel_rfl) (by kernel_rfl))
theorem rJ_:PR.underlying T.a6_=some (.map T.ao_ T.string):=by kernel_rfl
end Go.Vc
namespace Go.Vc
open Go
def retS (fn:Func):List Nat:=fn.results.toList.flatMap λr=>match r with | .tmp t=>[t] | .cell a _=>[a]
section
variable (P:Program) (okf:Ctx) (S:Nat→Prop) (w0:World) (nE:Nat)
def tt_ (fn:Func) (K:Value→World→Prop):Exit→Sy→Prop
 | .normal,σ=>resK P σ.H σ.env fn.results.toList λvs=>forget (some (retS fn)) nE (λ_=>false) σ λσ=>vis S w0 σ λw _=>K (oneV vs) w
 | .ret,σ=>resK P σ.H σ.env fn.results.toList λvs=>forget (some (retS fn)) nE (λ_=>false) σ λσ=>vis S w0 σ λw _=>K (oneV vs) w
 | _,_=>False
end
section
variable {P:Program} {okf:Ctx} {S:Nat→Prop} {w0:World} {nE:Nat}
theorem bb_ (hok:∀n,okf.fns.contains n=true→okFn P n=true) {f:FuncId} {fn:Func} {args:List SV} {H:List Bk} {w:World} {K:Value→World→Prop} (an:An)
  (hf:P.funcs[f]? = some fn) (hb:fn.body.isSome=true) (hwe:wfE' (bsH H) args) (hwh:wfH' (bsH H) H) (hF:Fs S w (LH H) w) (hnew:oV_ S H)
  (h:vc3 P okf S w (lenH H) (body fn) an (λ_=>false) ⟨args++List.replicate (fn.ntmps - args.length) (.c (.v undef)),H,[],w,false⟩ (tt_ P S w (lenH H) fn K)):aa_ P f ⟨denE args⟩ w K:=by
 cases hc:fn.body with
 | none=>simp [hc] at hb
 | some c=>
  have hbody:body fn=c:=by simp [body,hc]
  rw [hbody] at h
  have r:Rel S w ⟨args++List.replicate (fn.ntmps - args.length) (.c (.v undef)),H,[],w,false⟩ w:=by
   refine ⟨⟨hF.chg,.refl _ _,λi x A hx hA=>hF.loc ⟨x.b,A,x.T,x.wr⟩ (gk_.2 ⟨i,x,A,hx,hA,rfl⟩),me_ hF.nodup,λi x hx hw=>.inl (gX_ hnew x (by rw [do_] at hx;exact List.mem_of_getElem? hx) hw)⟩,?_,jm_ hwh,λ_=>rfl⟩
   intro s hs
   rcases List.mem_append.1 hs with hs | hs
   ·exact lB_ hwe s hs
   ·rw [List.mem_replicate] at hs;rw [hs.2];exact trivial
  refine calls_of_wp hf hc ?_
  have happ:∀(a b:List SV),denE (a++b)=denE a++denE b:=by
   intro a b
   induction a with
   | nil=>rfl
   | cons x a ih=>simp [denE,ih]
  have hrep:∀n,denE (List.replicate n (.c (.v undef)))=List.replicate n undef:=by
   intro n
   induction n with
   | zero=>rfl
   | succ n ih=>simp only [List.replicate_succ,denE,ih];rfl
  have henv:({ tmps:=(⟨denE args⟩:Array Value)++Array.replicate (fn.ntmps - (⟨denE args⟩:Array Value).size) undef,defers:=[] } : Act)=act (denE (args++List.replicate (fn.ntmps - args.length) (.c (.v undef)))):=by
   rw [happ,hrep]
   simp [act,g1_]
  rw [henv]
  refine wp_mono (kl_ hok c h r) ?_
  rintro e a' w' ⟨h1,h2,σ',rfl,hb',hK⟩
  have fin:(resK P σ'.H σ'.env fn.results.toList λvs=>forget (some (retS fn)) (lenH H) (λ_=>false) σ' λσ=>vis S w σ λw _=>K (oneV vs) w)→
    (act (denE σ'.env)).defers=[]∧∃v,(results fn (act (denE σ'.env)).tmps).run P w'=.ok v w'∧∃v',Ending.returned v=Ending.returned v'∧K v' w':=λh=>by
   obtain ⟨vs,hK,hr⟩:=iQ_ hb'.rel h
   obtain ⟨σ2,hK,r2,_,_⟩:=b5_ hK hb'.rel
   obtain ⟨σ3,hK,_⟩:=bH_ hK r2
   exact ⟨rfl,oneV vs,hl_ hr,_,rfl,hK⟩
  cases e with
  | normal=>exact fin hK
  | ret=>exact fin hK
  | exit i=>exact hK.elim
  | goto l=>exact hK.elim
  | panic c=>exact absurd rfl (h1 c)
  | outgrown=>exact absurd rfl h2
end
end Go.Vc
namespace Go.Vc
open Go
theorem iu_ (m0:Int) (m1:Int) (m2:Int) (y3:Option Addr) (ly3:Nat) (cy3:Nat) (S:SP) (K:KP) (w:World) (h:(m0<1→K (.tuple #[.pointer none,.iface 93 (Iv 13)]) w)∧(¬(m0<1)→(m0>1099511627776→K (.tuple #[.pointer none,.iface 93 (Iv 13)]) w)∧(¬(m0>1099511627776)→aa_ PR 94 #[Iv m1,.slice y3 ly3 cy3] w λv0 w0=>∃q0 v1,v0=.tuple #[.pointer q0,v1]∧Fs S w [] w0∧(v1=.nilIface→aa_ PR 95 #[.pointer q0,Iv m2] w0 λv2 w1=>∃q1 l0 l1 v3,v2=.tuple #[.slice q1 l0 l1,v3]∧Fs S w [] w1∧(v3=.nilIface→aa_ PR 96 #[.slice q1 l0 l1] w1 λv4 w2=>∃q2 l2 l3,v4=.slice q2 l2 l3∧Fs S w [] w2∧((l2:Int)>2048→K (.tuple #[.pointer none,.iface 93 (Iv 7)]) w2)∧(¬((l2:Int)>2048)→aa_ PR 97 #[Iv m1,.slice q1 l0 l1] w2 λv5 w3=>∃q3 l4 l5 v6,v5=.tuple #[.slice q3 l4 l5,v6]∧Fs S w [] w3∧(v6=.nilIface→aa_ PR 98 #[.pointer q0] w3 λv7 w4=>∃n0,v7=Iv n0∧Fs S w [] w4∧aa_ PR 99 #[.slice q2 l2 l3] w4 λv8 w5=>∃s0,v8=.string s0∧Fs S w [] w5∧∀l6,w5.heap.size≤l6→∀l7,w5.heap.size≤l7→∀w6,Fr S w w5 [l6] [⟨l7,#[Iv m0,Iv m1,Iv n0,.slice q3 l4 l5,Iv (l2:Int),.string s0,.slice q2 l2 l3],114,true⟩] w6→K (.tuple #[.pointer (some (⟨l7,0,none⟩)),.nilIface]) w6)∧(∀x0 v9,v6=.iface x0 v9→K (.tuple #[.pointer none,v6]) w3)∧(v6=.nilIface∨∃l8 v10,v6=.iface l8 v10)))∧(∀x1 v11,v3=.iface x1 v11→K (.tuple #[.pointer none,v3]) w1)∧(v3=.nilIface∨∃l9 v12,v3=.iface l9 v12))∧(∀x2 v13,v1=.iface x2 v13→K (.tuple #[.pointer none,v1]) w0)∧(v1=.nilIface∨∃l10 v14,v1=.iface l10 v14)))):aa_ PR 48 ⟨[.int .i64 m0,.int .i64 m1,.int .i64 m2,.slice y3 ly3 cy3]⟩ w K:=
 bb_ (okf:=⟨okL,[]⟩) ah_ (args:=[.c (.v (.int .i64 m0)),.c (.v (.int .i64 m1)),.c (.v (.int .i64 m2)),.c (.v (.slice y3 ly3 cy3))]) (H:=[]) (.s .z (.s .z (.s (.r ⟨(some []),false,[],[]⟩) (.s .z (.s (.r ⟨(some []),false,[],[]⟩) (.s .z (.s (.r ⟨(some []),false,[],[]⟩) (.s .z (.s (.r ⟨(some []),false,[],[]⟩) (.s .z (.s (.r ⟨(some []),false,[],[]⟩) (.s (.r ⟨(some [15]),false,[],[]⟩) .z)))))))))))) Go.Proofs.Tryz.func48 rfl ⟨trivial,trivial,trivial,trivial,trivial⟩ trivial (Fr.init S w) trivial (ad_ (by kernel_rfl) h)
theorem ps_ (m0:Int) (S:SP) (K:KP) (w:World) (h:(∀w0,Fr S w w [] [] w0→rn PR (Instr.makeSlice 39 (Iv (if (4096:Int)<(if (0:Int)>m0 then 0 else m0) then 4096 else (if (0:Int)>m0 then 0 else m0))) (Iv (if (4096:Int)<(if (0:Int)>m0 then 0 else m0) then 4096 else (if (0:Int)>m0 then 0 else m0)))) (λv0 w1=>∃q0 l0 l1,v0=.slice q0 l0 l1∧Fs S w [] w1∧rn PR (Instr.makeSlice 39 (Iv (if (4096:Int)<(if (0:Int)>m0 then 0 else m0) then 4096 else (if (0:Int)>m0 then 0 else m0))) (Iv (if (4096:Int)<(if (0:Int)>m0 then 0 else m0) then 4096 else (if (0:Int)>m0 then 0 else m0)))) (λv1 w2=>∃q1 l2 l3,v1=.slice q1 l2 l3∧Fs S w [] w2∧∀l4,w2.heap.size≤l4→∀w3,Fr S w w2 [] [⟨l4,#[Iv (-1),.bool false,.string ⟨#[]⟩,.slice q0 l0 l1,.string ⟨#[]⟩,.slice q1 l2 l3,.slice none 0 0],108,true⟩] w3→K (.pointer (some (⟨l4,0,none⟩))) w3) w1) w0)∧∀w4,Fr S w w [] [] w4→rn PR (Instr.makeSlice 39 (Iv (if (4096:Int)<(if (0:Int)>m0 then 0 else m0) then 4096 else (if (0:Int)>m0 then 0 else m0))) (Iv (if (4096:Int)<(if (0:Int)>m0 then 0 else m0) then 4096 else (if (0:Int)>m0 then 0 else m0)))) (λv2 w5=>∃q2 l5 l6,v2=.slice q2 l5 l6∧Fs S w [] w5∧rn PR (Instr.makeSlice 39 (Iv (if (4096:Int)<(if (0:Int)>m0 then 0 else m0) then 4096 else (if (0:Int)>m0 then 0 else m0))) (Iv (if (4096:Int)<(if (0:Int)>m0 then 0 else m0) then 4096 else (if (0:Int)>m0 then 0 else m0)))) (λv3 w6=>∃q3 l7 l8,v3=.slice q3 l7 l8∧Fs S w [] w6∧∀l9,w6.heap.size≤l9→∀w7,Fr S w w6 [] [⟨l9,#[Iv (-1),.bool false,.string ⟨#[]⟩,.slice q3 l7 l8,.string ⟨#[]⟩,.slice q2 l5 l6,.slice none 0 0],108,true⟩] w7→K (.pointer (some (⟨l9,0,none⟩))) w7) w5) w4):aa_ PR 10 ⟨[.int .i64 m0]⟩ w K:=
 bb_ (okf:=⟨okL,[]⟩) ah_ (args:=[.c (.v (.int .i64 m0))]) (H:=[]) (.s .z (.s .z (.s (.r ⟨(some []),false,[],[]⟩) .z))) Go.Proofs.Tryz.func10 rfl ⟨trivial,trivial⟩ trivial (Fr.init S w) trivial (ad_ (by kernel_rfl) h)
theorem jZ_ (p0:Option Addr) (S:SP) (K:KP) (w:World) (h:aa_ PR 86 #[.pointer p0] w λv0 w0=>∃s0 v1,v0=.tuple #[.string s0,v1]∧Fs S w [] w0∧(v1=.nilIface→aa_ PR 87 #[.string s0] w0 λv2 w1=>∃q0 l0 l1 n0,v2=.tuple #[.slice q0 l0 l1,Iv n0]∧Fs S w [] w1∧(n0<((ByteArray.size s0:Nat):Int)→aa_ PR 88 #[.pointer p0,Iv n0] w1 λv3 w2=>∃v4,v3=v4∧Fs S w [] w2∧(v4=.nilIface→aa_ PR 89 #[.pointer p0] w2 λv5 w3=>∃n1,v5=Iv n1∧Fs S w [] w3∧(n1>0→aa_ PR 31 #[.pointer p0] w3 λv6 w4=>∃v7,v6=v7∧Fs S w [] w4∧(v7=.nilIface→∀l2,w4.heap.size≤l2→∀w5,Fr S w w4 [] [⟨l2,#[.pointer p0,.slice q0 l0 l1,Iv n0],168,true⟩] w5→K (.tuple #[.pointer (some (⟨l2,0,none⟩)),.nilIface]) w5)∧(∀x0 v8,v7=.iface x0 v8→K (.tuple #[.pointer none,v7]) w4)∧(v7=.nilIface∨∃l3 v9,v7=.iface l3 v9))∧(¬(n1>0)→(v4=.nilIface→∀l4,w3.heap.size≤l4→∀w6,Fr S w w3 [] [⟨l4,#[.pointer p0,.slice q0 l0 l1,Iv n0],168,true⟩] w6→K (.tuple #[.pointer (some (⟨l4,0,none⟩)),.nilIface]) w6)∧(∀x1 v10,v4=.iface x1 v10→K (.tuple #[.pointer none,v4]) w3)∧(v4=.nilIface∨∃l5 v11,v4=.iface l5 v11)))∧(∀x2 v12,v4=.iface x2 v12→(v4=.nilIface→∀l6,w2.heap.size≤l6→∀w7,Fr S w w2 [] [⟨l6,#[.pointer p0,.slice q0 l0 l1,Iv n0],168,true⟩] w7→K (.tuple #[.pointer (some (⟨l6,0,none⟩)),.nilIface]) w7)∧(∀x3 v13,v4=.iface x3 v13→K (.tuple #[.pointer none,v4]) w2)∧(v4=.nilIface∨∃l7 v14,v4=.iface l7 v14))∧(v4=.nilIface∨∃l8 v15,v4=.iface l8 v15))∧(¬(n0<((ByteArray.size s0:Nat):Int))→(v1=.nilIface→aa_ PR 89 #[.pointer p0] w1 λv16 w8=>∃n2,v16=Iv n2∧Fs S w [] w8∧(n2>0→aa_ PR 31 #[.pointer p0] w8 λv17 w9=>∃v18,v17=v18∧Fs S w [] w9∧(v18=.nilIface→∀l9,w9.heap.size≤l9→∀w10,Fr S w w9 [] [⟨l9,#[.pointer p0,.slice q0 l0 l1,Iv n0],168,true⟩] w10→K (.tuple #[.pointer (some (⟨l9,0,none⟩)),.nilIface]) w10)∧(∀x4 v19,v18=.iface x4 v19→K (.tuple #[.pointer none,v18]) w9)∧(v18=.nilIface∨∃l10 v20,v18=.iface l10 v20))∧(¬(n2>0)→(v1=.nilIface→∀l11,w8.heap.size≤l11→∀w11,Fr S w w8 [] [⟨l11,#[.pointer p0,.slice q0 l0 l1,Iv n0],168,true⟩] w11→K (.tuple #[.pointer (some (⟨l11,0,none⟩)),.nilIface]) w11)∧(∀x5 v21,v1=.iface x5 v21→K (.tuple #[.pointer none,v1]) w8)∧(v1=.nilIface∨∃l12 v22,v1=.iface l12 v22)))∧(∀x6 v23,v1=.iface x6 v23→(v1=.nilIface→∀l13,w1.heap.size≤l13→∀w12,Fr S w w1 [] [⟨l13,#[.pointer p0,.slice q0 l0 l1,Iv n0],168,true⟩] w12→K (.tuple #[.pointer (some (⟨l13,0,none⟩)),.nilIface]) w12)∧(∀x7 v24,v1=.iface x7 v24→K (.tuple #[.pointer none,v1]) w1)∧(v1=.nilIface∨∃l14 v25,v1=.iface l14 v25))∧(v1=.nilIface∨∃l15 v26,v1=.iface l15 v26)))∧(∀x8 v27,v1=.iface x8 v27→K (.tuple #[.pointer none,v1]) w0)∧(v1=.nilIface∨∃l16 v28,v1=.iface l16 v28)):aa_ PR 44 ⟨[.pointer p0]⟩ w K:=
 bb_ (okf:=⟨okL,[]⟩) ah_ (args:=[.c (.v (.pointer p0))]) (H:=[]) (.s .z (.s (.r ⟨(some []),false,[],[]⟩) (.s .z (.s (.r ⟨(some []),false,[],[]⟩) (.s (.s .z (.c (.r ⟨(some []),false,[],[(2,[999])]⟩) .z)) (.s (.s (.r ⟨(some []),false,[],[]⟩) (.c (.r ⟨(some []),false,[],[(1,[999])]⟩) .z)) (.s .z (.s (.r ⟨(some []),false,[],[]⟩) .z)))))))) Go.Proofs.Tryz.func44 rfl ⟨trivial,trivial⟩ trivial (Fr.init S w) trivial (ad_ (by kernel_rfl) h)
theorem oG_ (p0:Option Addr) (m1:Int) (S:SP) (K:KP) (w:World) (h:(m1<1→K (.tuple #[.pointer none,.iface 93 (Iv 1)]) w)∧(¬(m1<1)→(m1>4096→K (.tuple #[.pointer none,.iface 93 (Iv 1)]) w)∧(¬(m1>4096)→aa_ PR 44 #[.pointer p0] w λv0 w0=>∃q0 v1,v0=.tuple #[.pointer q0,v1]∧Fs S w [] w0∧(v1=.nilIface→rn PR (Instr.makeMap 97 none) (λv2 w1=>∃q1,v2=.map q1∧Fs S w [] w1∧∀l0,w1.heap.size≤l0→∀w2,Fr S w w1 [] [⟨l0,#[.pointer q0,Iv m1,Iv 0,Iv 0,.map q1],99,true⟩] w2→aa_ PR 45 #[.pointer q0] w2 λv3 w3=>∃q2 l1 l2,v3=.slice q2 l1 l2∧Fs S w [⟨l0,#[.pointer q0,Iv m1,Iv 0,Iv 0,.map q1],99,true⟩] w3∧∃I0:Int→(Option Addr)→Int→Int→Int→(Option Nat)→Nat→World→Prop,(∃l3,I0 0 q0 m1 0 0 q1 l3 w3)∧∀n0 q3 n1 n2 n3 q4,∀D0:Nat→Value,∀l4 w4,I0 n0 q3 n1 n2 n3 q4 l4 w4→Fs S w [⟨l0,#[.pointer q3,Iv n1,Iv n2,Iv n3,.map q4],99,true⟩] w4→(n0<(l1:Int)→Dr q2 λa0=>(0:Int)≤n0∧n0<(l1:Int)∧Dr (some (Addr.add a0 (Int.toNat n0*1))) λa1=>∃s0,World.cell? w4 a1=some (.string s0)∧aa_ PR 46 #[.pointer (some (⟨l0,0,none⟩)),.string s0] w4 λv4 w5=>v4=.tuple #[]∧∃q5 n4 n5 n6 q6,Fs S w [⟨l0,#[.pointer q5,Iv n4,Iv n5,Iv n6,.map q6],99,true⟩] w5∧∃l5,l5<l4∧I0 (IntKind.wrap .i64 (n0+1)) q5 n4 n5 n6 q6 l5 w5)∧(¬(n0<(l1:Int))→K (.tuple #[.pointer (some (⟨l0,0,none⟩)),.nilIface]) w4)) w0)∧(∀x0 v5,v1=.iface x0 v5→K (.tuple #[.pointer none,v1]) w0)∧(v1=.nilIface∨∃l6 v6,v1=.iface l6 v6)))):aa_ PR 9 ⟨[.pointer p0,.int .i64 m1]⟩ w K:=
 bb_ (okf:=⟨okL,[]⟩) ah_ (args:=[.c (.v (.pointer p0)),.c (.v (.int .i64 m1))]) (H:=[]) (.s .z (.s .z (.s (.r ⟨(some []),false,[],[]⟩) (.s .z (.s (.r ⟨(some []),false,[],[]⟩) (.s (.s (.r ⟨(some [8]),false,[],[]⟩) (.b (.l (some [8]) (some [8]) [(34,.c (.int .i64))] [8] (.s .z (.s .z (.s (.b (.s .z (.r ⟨(some [8]),false,[],[(2,[999])]⟩))) .z)))))) .z)))))) Go.Proofs.Tryz.func9 rfl ⟨trivial,trivial,trivial⟩ trivial (Fr.init S w) trivial (ad_ (by kernel_rfl) h)
theorem m__ (p0:Option Addr) (m1:Int) (S:SP) (K:KP) (w:World) (h:(p0=none→K (.tuple #[.pointer none,.iface 93 (Iv 1)]) w)∧∀a0:Addr,p0=some a0→(m1<1→K (.tuple #[.pointer none,.iface 93 (Iv 1)]) w)∧(¬(m1<1)→(m1>4→K (.tuple #[.pointer none,.iface 93 (Iv 1)]) w)∧(¬(m1>4)→rn PR (Instr.makeSlice 64 (Iv m1) (Iv m1)) (λv0 w0=>∃q0 l0 l1,v0=.slice q0 l0 l1∧Fs S w [] w0∧∀l2,w0.heap.size≤l2→∀w1,Fr S w w0 [] [⟨l2,#[.pointer p0,.slice q0 l0 l1],66,true⟩] w1→K (.tuple #[.pointer (some (⟨l2,0,none⟩)),.nilIface]) w1) w))):aa_ PR 11 ⟨[.pointer p0,.int .i64 m1]⟩ w K:=
 bb_ (okf:=⟨okL,[]⟩) ah_ (args:=[.c (.v (.pointer p0)),.c (.v (.int .i64 m1))]) (H:=[]) (.s .z (.s .z (.s (.r ⟨(some []),false,[],[]⟩) .z))) Go.Proofs.Tryz.func11 rfl ⟨trivial,trivial,trivial⟩ trivial (Fr.init S w) trivial (ad_ (by kernel_rfl) h)
theorem qq_  (S:SP) (K:KP) (w:World) (h:aa_ PR 243 #[] w λv0 w0=>∃q0,v0=.pointer q0∧Fs S w [] w0∧∀l0,w0.heap.size≤l0→∀w1,Fr S w w0 [] [⟨l0,#[Uv 1779033703,Uv 3144134277,Uv 1013904242,Uv 2773480762,Uv 1359893119,Uv 2600822924,Uv 528734635,Uv 1541459225,.pointer q0,.slice none 0 0,Iv 0],354,true⟩] w1→K (.pointer (some (⟨l0,0,none⟩))) w1):aa_ PR 220 ⟨[]⟩ w K:=
 bb_ (okf:=⟨okL,[]⟩) ah_ (args:=[]) (H:=[]) (.s .z (.s (.r ⟨(some []),false,[],[]⟩) .z)) Go.Proofs.Tryz.func220 rfl trivial trivial (Fr.init S w) trivial (ad_ (by kernel_rfl) h)
end Go.Vc
namespace Go.Vc
open Go
def rotF (m0 m1:Int):Int:=(IntKind.wrap .u32 (((BitVec.toNat ((BitVec.ofInt 32 (IntKind.wrap .u32 ((m0*(((2:Int) ^ (Min.min (Int.toNat (IntKind.wrap .u64 (((BitVec.toNat ((BitVec.ofInt 64 (IntKind.wrap .u64 m1) &&& (BitVec.ofInt 64 31))):Nat):Int)))) 32)))))) ||| (BitVec.ofInt 32 (Int.fdiv m0 (((2:Int) ^ (Min.min (Int.toNat (IntKind.wrap .u64 (((32:Int) - (IntKind.wrap .u64 (((BitVec.toNat ((BitVec.ofInt 64 (IntKind.wrap .u64 m1) &&& (BitVec.ofInt 64 31))):Nat):Int))))))) 32))))))):Nat):Int)))
def sM_ (m1:Int):Prop:=(0:Int)≤IntKind.wrap .u64 (((BitVec.toNat ((BitVec.ofInt 64 (IntKind.wrap .u64 m1) &&& (BitVec.ofInt 64 31))):Nat):Int))∧(0:Int)≤IntKind.wrap .u64 (((32:Int) - (IntKind.wrap .u64 (((BitVec.toNat ((BitVec.ofInt 64 (IntKind.wrap .u64 m1) &&& (BitVec.ofInt 64 31))):Nat):Int)))))
def sp_ (n1 n2 n3 n4:Int):Int:=(IntKind.wrap .u32 (((BitVec.toNat ((BitVec.ofInt 32 (IntKind.wrap .u32 (((BitVec.toNat ((BitVec.ofInt 32 (IntKind.wrap .u32 (((BitVec.toNat ((BitVec.ofInt 32 (IntKind.wrap .u32 ((IntKind.wrap .u32 n1*16777216))) ||| (BitVec.ofInt 32 (IntKind.wrap .u32 ((IntKind.wrap .u32 n2*65536)))))):Nat):Int))) ||| (BitVec.ofInt 32 (IntKind.wrap .u32 ((IntKind.wrap .u32 n3*256)))))):Nat):Int))) ||| (BitVec.ofInt 32 (IntKind.wrap .u32 n4)))):Nat):Int)))
def so_ (n6 n7 n8 n9 n10 n11 n12 n13:Int):Int:=(IntKind.wrap .u32 ((IntKind.wrap .u32 ((IntKind.wrap .u32 ((n8+(IntKind.wrap .u32 (((BitVec.toNat ((BitVec.ofInt 32 (IntKind.wrap .u32 (((BitVec.toNat ((BitVec.ofInt 32 n10 ^^^ (BitVec.ofInt 32 n11))):Nat):Int))) ^^^ (BitVec.ofInt 32 (Int.fdiv n6 8)))):Nat):Int)))))+n9))+(IntKind.wrap .u32 (((BitVec.toNat ((BitVec.ofInt 32 (IntKind.wrap .u32 (((BitVec.toNat ((BitVec.ofInt 32 n12 ^^^ (BitVec.ofInt 32 n13))):Nat):Int))) ^^^ (BitVec.ofInt 32 (Int.fdiv n7 1024)))):Nat):Int))))))
def sL_ (n65 n66 n67 n69 n70 n71 n72 n73 n74 n75 n76 n77 n78 n79 n80:Int):Int:=(IntKind.wrap .u32 ((IntKind.wrap .u32 ((IntKind.wrap .u32 ((IntKind.wrap .u32 ((IntKind.wrap .u32 ((n72+(IntKind.wrap .u32 (((BitVec.toNat ((BitVec.ofInt 32 (IntKind.wrap .u32 (((BitVec.toNat ((BitVec.ofInt 32 n75 ^^^ (BitVec.ofInt 32 n76))):Nat):Int))) ^^^ (BitVec.ofInt 32 n77))):Nat):Int)))))+(IntKind.wrap .u32 (((BitVec.toNat ((BitVec.ofInt 32 (IntKind.wrap .u32 (((BitVec.toNat ((BitVec.ofInt 32 n69 &&& (BitVec.ofInt 32 n70))):Nat):Int))) ^^^ (BitVec.ofInt 32 (IntKind.wrap .u32 (((BitVec.toNat ((BitVec.ofInt 32 (IntKind.wrap .u32 (((BitVec.toNat ((BitVec.ofInt 32 4294967295 ^^^ (BitVec.ofInt 32 n69))):Nat):Int))) &&& (BitVec.ofInt 32 n71))):Nat):Int)))))):Nat):Int)))))+n73))+n74))+(IntKind.wrap .u32 ((IntKind.wrap .u32 (((BitVec.toNat ((BitVec.ofInt 32 (IntKind.wrap .u32 (((BitVec.toNat ((BitVec.ofInt 32 n78 ^^^ (BitVec.ofInt 32 n79))):Nat):Int))) ^^^ (BitVec.ofInt 32 n80))):Nat):Int))+(IntKind.wrap .u32 (((BitVec.toNat ((BitVec.ofInt 32 (IntKind.wrap .u32 (((BitVec.toNat ((BitVec.ofInt 32 (IntKind.wrap .u32 (((BitVec.toNat ((BitVec.ofInt 32 n65 &&& (BitVec.ofInt 32 n66))):Nat):Int))) ^^^ (BitVec.ofInt 32 (IntKind.wrap .u32 (((BitVec.toNat ((BitVec.ofInt 32 n65 &&& (BitVec.ofInt 32 n67))):Nat):Int)))))):Nat):Int))) ^^^ (BitVec.ofInt 32 (IntKind.wrap .u32 (((BitVec.toNat ((BitVec.ofInt 32 n66 &&& (BitVec.ofInt 32 n67))):Nat):Int)))))):Nat):Int)))))))))
def sK_ (n68 n69 n70 n71 n72 n73 n74 n75 n76 n77:Int):Int:=(IntKind.wrap .u32 ((n68+(IntKind.wrap .u32 ((IntKind.wrap .u32 ((IntKind.wrap .u32 ((IntKind.wrap .u32 ((n72+(IntKind.wrap .u32 (((BitVec.toNat ((BitVec.ofInt 32 (IntKind.wrap .u32 (((BitVec.toNat ((BitVec.ofInt 32 n75 ^^^ (BitVec.ofInt 32 n76))):Nat):Int))) ^^^ (BitVec.ofInt 32 n77))):Nat):Int)))))+(IntKind.wrap .u32 (((BitVec.toNat ((BitVec.ofInt 32 (IntKind.wrap .u32 (((BitVec.toNat ((BitVec.ofInt 32 n69 &&& (BitVec.ofInt 32 n70))):Nat):Int))) ^^^ (BitVec.ofInt 32 (IntKind.wrap .u32 (((BitVec.toNat ((BitVec.ofInt 32 (IntKind.wrap .u32 (((BitVec.toNat ((BitVec.ofInt 32 4294967295 ^^^ (BitVec.ofInt 32 n69))):Nat):Int))) &&& (BitVec.ofInt 32 n71))):Nat):Int)))))):Nat):Int)))))+n73))+n74))))))
def lits (L:List Int):Array Value:=#[.int .u32 (L.getD 0 0),.int .u32 (L.getD 1 0),.int .u32 (L.getD 2 0),.int .u32 (L.getD 3 0),.int .u32 (L.getD 4 0),.int .u32 (L.getD 5 0),.int .u32 (L.getD 6 0),.int .u32 (L.getD 7 0),.int .u32 (L.getD 8 0),.int .u32 (L.getD 9 0),.int .u32 (L.getD 10 0),.int .u32 (L.getD 11 0),.int .u32 (L.getD 12 0),.int .u32 (L.getD 13 0),.int .u32 (L.getD 14 0),.int .u32 (L.getD 15 0),.int .u32 (L.getD 16 0),.int .u32 (L.getD 17 0),.int .u32 (L.getD 18 0),.int .u32 (L.getD 19 0),.int .u32 (L.getD 20 0),.int .u32 (L.getD 21 0),.int .u32 (L.getD 22 0),.int .u32 (L.getD 23 0),.int .u32 (L.getD 24 0),.int .u32 (L.getD 25 0),.int .u32 (L.getD 26 0),.int .u32 (L.getD 27 0),.int .u32 (L.getD 28 0),.int .u32 (L.getD 29 0),.int .u32 (L.getD 30 0),.int .u32 (L.getD 31 0),.int .u32 (L.getD 32 0),.int .u32 (L.getD 33 0),.int .u32 (L.getD 34 0),.int .u32 (L.getD 35 0),.int .u32 (L.getD 36 0),.int .u32 (L.getD 37 0),.int .u32 (L.getD 38 0),.int .u32 (L.getD 39 0),.int .u32 (L.getD 40 0),.int .u32 (L.getD 41 0),.int .u32 (L.getD 42 0),.int .u32 (L.getD 43 0),.int .u32 (L.getD 44 0),.int .u32 (L.getD 45 0),.int .u32 (L.getD 46 0),.int .u32 (L.getD 47 0),.int .u32 (L.getD 48 0),.int .u32 (L.getD 49 0),.int .u32 (L.getD 50 0),.int .u32 (L.getD 51 0),.int .u32 (L.getD 52 0),.int .u32 (L.getD 53 0),.int .u32 (L.getD 54 0),.int .u32 (L.getD 55 0),.int .u32 (L.getD 56 0),.int .u32 (L.getD 57 0),.int .u32 (L.getD 58 0),.int .u32 (L.getD 59 0),.int .u32 (L.getD 60 0),.int .u32 (L.getD 61 0),.int .u32 (L.getD 62 0),.int .u32 (L.getD 63 0)]
end Go.Vc
namespace Go.Vc
open Go
theorem qN_ (L:List Int) {i:Nat} (h:i<64):(lits L)[i]? = some (.int .u32 (L.getD i 0)):=by
 have e:lits L=((List.range 64).map λj=>(.int .u32 (L.getD j 0):Value)).toArray:=rfl
 rw [e]
 simp [h]
def rt (x n:Int):Int:=rotF x (IntKind.wrap .i64 (0 - n))
theorem a4_ {x n:Int} (h:sM_ (IntKind.wrap .i64 (0 - n))) {w:World} {K:Value→World→Prop} (hK:K (.int .u32 (rt x n)) w):aa_ PR F.hf_ ⟨[.int .u32 x,.int .i64 n]⟩ w K:=
 hf_ x n S0 K w (bR_ x (IntKind.wrap .i64 (0 - n)) S0 _ w ⟨h.1,h.2,_,rfl,.init _ _,hK⟩)
instance rotDec (n:Int):Decidable (sM_ n):=inferInstanceAs (Decidable (_∧_))
def u32s (L:List Int):Array Value:=(L.map λx=>(.int .u32 x:Value)).toArray
theorem jp_ (L:List Int) (i:Nat) (v:Int):(u32s L).setIfInBounds i (.int .u32 v)=u32s (L.set i v):=by simp [u32s,List.map_set]
theorem cd_ {L:List Int} {i:Nat} (h:i<L.length):(u32s L)[i]? = some (.int .u32 (L.getD i 0)):=by simp [u32s,h]
theorem g5_ (L:List Int):(u32s L).size=L.length:=by simp [u32s]
def byt (bs:List UInt8) (i:Nat):Int:=((bs.getD i 0).toNat:Int)
theorem m7_ {bs:List UInt8} {i:Nat} (h:i<bs.length):(bs.map bv)[i]? = some (.int .u8 (byt bs i)):=by simp [h,byt,bv]
def sp1 (bs:List UInt8):Nat→List Int
 | 0=>List.replicate 64 0
 | i+1=>(sp1 bs i).set i (sp_ (byt bs (4*i)) (byt bs (4*i+1)) (byt bs (4*i+2)) (byt bs (4*i+3)))
def sp2 (L:List Int):Nat→List Int
 | 0=>L
 | k+1=>(sp2 L k).set (k+16) (so_ ((sp2 L k).getD (k+1) 0) ((sp2 L k).getD (k+14) 0) ((sp2 L k).getD k 0) ((sp2 L k).getD (k+9) 0) (rt ((sp2 L k).getD (k+1) 0) 7) (rt ((sp2 L k).getD (k+1) 0) 18) (rt ((sp2 L k).getD (k+14) 0) 17) (rt ((sp2 L k).getD (k+14) 0) 19))
theorem lN_ (bs:List UInt8):∀i,(sp1 bs i).length=64
 | 0=>by simp [sp1]
 | i+1=>by simp [sp1,lN_ bs i]
theorem oo_ (L:List Int) (h:L.length=64):∀i,(sp2 L i).length=64
 | 0=>h
 | i+1=>by simp [sp2,oo_ L h i]
def cN_ (bs:List UInt8):List Int:=sp2 (sp1 bs 16) 48
theorem z64 (bs:List UInt8):u32s (sp1 bs 0)=#[.int .u32 0,.int .u32 0,.int .u32 0,.int .u32 0,.int .u32 0,.int .u32 0,.int .u32 0,.int .u32 0,.int .u32 0,.int .u32 0,.int .u32 0,.int .u32 0,.int .u32 0,.int .u32 0,.int .u32 0,.int .u32 0,.int .u32 0,.int .u32 0,.int .u32 0,.int .u32 0,.int .u32 0,.int .u32 0,.int .u32 0,.int .u32 0,.int .u32 0,.int .u32 0,.int .u32 0,.int .u32 0,.int .u32 0,.int .u32 0,.int .u32 0,.int .u32 0,.int .u32 0,.int .u32 0,.int .u32 0,.int .u32 0,.int .u32 0,.int .u32 0,.int .u32 0,.int .u32 0,.int .u32 0,.int .u32 0,.int .u32 0,.int .u32 0,.int .u32 0,.int .u32 0,.int .u32 0,.int .u32 0,.int .u32 0,.int .u32 0,.int .u32 0,.int .u32 0,.int .u32 0,.int .u32 0,.int .u32 0,.int .u32 0,.int .u32 0,.int .u32 0,.int .u32 0,.int .u32 0,.int .u32 0,.int .u32 0,.int .u32 0,.int .u32 0]:=rfl
theorem lK_ {y:Option Addr} {n c:Nat} {bs:List UInt8} {w:World} (hs:Sl w y (bs.map bv)) (hl:n=bs.length) (h64:64≤n) {K:Value→World→Prop} (hK:∀w',Grow w w'→K (.agg (lits (cN_ bs))) w') :
  aa_ PR F.fO_ ⟨[.slice y n c]⟩ w K:=by
 subst hl
 have hbl:bs.length=(bs.map bv).length:=by simp
 refine fO_ y bs.length c S0 K w λb0 hb0 b1 hb1 w0 hF0=>?_
 refine ⟨λn0 v l w'=>∃i:Nat,n0=i∧i≤16∧l=16 - i∧v=.agg (u32s (sp1 bs i)),⟨_,0,rfl,by omega,rfl,by rw [z64]⟩,?_⟩
 rintro n0 v D l w1 ⟨i,rfl,hi,rfl,rfl⟩ hF1
 refine ⟨λhlt w2 hF2=>⟨(· = w2),rfl,?_⟩,λhge=>?_⟩
 ·have hi':i<16:=by omega
  have hs2:=hs.grow hF2.gr
  have e0:IntKind.wrap .i64 (4*(i:Int))=((4*i:Nat):Int):=by rw [w64 (by omega) (by omega)];omega
  have e1:IntKind.wrap .i64 (((4*i:Nat):Int)+1)=((4*i+1:Nat):Int):=by rw [w64 (by omega) (by omega)];omega
  have e2:IntKind.wrap .i64 (((4*i:Nat):Int)+2)=((4*i+2:Nat):Int):=by rw [w64 (by omega) (by omega)];omega
  have e3:IntKind.wrap .i64 (((4*i:Nat):Int)+3)=((4*i+3:Nat):Int):=by rw [w64 (by omega) (by omega)];omega
  rw [e0,e1,e2,e3]
  refine hs2.rd (v:=.int .u8 (byt bs (4*i))) hbl (by omega) (m7_ (by omega)) λx hx=>⟨_,λw3 e=>e ▸ hx,?_⟩
  refine hs2.rd (v:=.int .u8 (byt bs (4*i+1))) hbl (by omega) (m7_ (by omega)) λx hx=>⟨_,λw3 e=>e ▸ hx,?_⟩
  refine hs2.rd (v:=.int .u8 (byt bs (4*i+2))) hbl (by omega) (m7_ (by omega)) λx hx=>⟨_,λw3 e=>e ▸ hx,?_⟩
  refine hs2.rd (v:=.int .u8 (byt bs (4*i+3))) hbl (by omega) (m7_ (by omega)) λx hx=>⟨_,λw3 e=>e ▸ hx,?_⟩
  refine ⟨by omega,by omega,by show 0+(Int.toNat (i:Int))*1<(u32s (sp1 bs i)).size;rw [g5_,lN_];omega,λw7 hF7=>⟨16 - (i+1),by omega,i+1,?_,by omega,rfl,?_⟩⟩
  ·rw [w64 (by omega) (by omega)];rfl
  ·show Value.agg ((u32s (sp1 bs i)).setIfInBounds (0+(Int.toNat (i:Int))*1) (.int .u32 (sp_ (byt bs (4*i)) (byt bs (4*i+1)) (byt bs (4*i+2)) (byt bs (4*i+3)))))=_
   rw [show 0+(Int.toNat (i:Int))*1=i by omega,jp_];rfl
 ·have:i=16:=by omega
  subst this
  have hL1:=lN_ bs 16
  refine ⟨λn0 v l w'=>∃i:Nat,n0=((i+16:Nat):Int)∧i≤48∧l=48 - i∧v=.agg (u32s (sp2 (sp1 bs 16) i)),⟨_,0,rfl,by omega,rfl,rfl⟩,?_⟩
  generalize hLe:sp1 bs 16=L at hL1
  rintro n5 v D l w8 ⟨i,rfl,hi,rfl,rfl⟩ hF8
  have hL:=oo_ L hL1 i
  generalize hS:sp2 L i=Si at hL
  refine ⟨λhlt w9 hF9=>?_,λhge=>?_⟩
  ·have hi':i<48:=by omega
   have c15:IntKind.wrap .i64 (((i+16:Nat):Int) - 15)=((i+1:Nat):Int):=by rw [w64 (by omega) (by omega)];omega
   have c2:IntKind.wrap .i64 (((i+16:Nat):Int) - 2)=((i+14:Nat):Int):=by rw [w64 (by omega) (by omega)];omega
   have c16:IntKind.wrap .i64 (((i+16:Nat):Int) - 16)=((i:Nat):Int):=by rw [w64 (by omega) (by omega)];omega
   have c7:IntKind.wrap .i64 (((i+16:Nat):Int) - 7)=((i+9:Nat):Int):=by rw [w64 (by omega) (by omega)];omega
   rw [c15,c2,c16,c7]
   have at_:∀ {j:Nat},j<64→(u32s Si)[0+(Int.toNat (j:Int))*1]? = some (.int .u32 (Si.getD j 0)):=λ{j} h=>by
    rw [show 0+(Int.toNat (j:Int))*1=j by omega];exact cd_ (by omega)
   refine ⟨λ_=>True,trivial,by omega,by omega,_,at_ (by omega),by omega,by omega,_,at_ (by omega),λw10 hF10=>?_⟩
   refine ⟨(· = w10),rfl,by omega,by omega,ac_.2 ⟨Si.getD i 0,λw' e=>?_,by omega,by omega,ac_.2 ⟨Si.getD (i+9) 0,λw' e=>?_,?_⟩⟩⟩
   ·subst e;exact hF10.ld 1 _ rfl rfl (at_ (by omega))
   ·subst e;exact hF10.ld 1 _ rfl rfl (at_ (by omega))
   ·refine a4_ (by decide) ⟨_,rfl,hF10.reset,rfl,a4_ (by decide) ⟨_,rfl,hF10.reset,rfl,a4_ (by decide) ⟨_,rfl,hF10.reset,rfl,a4_ (by decide) ⟨_,rfl,hF10.reset,rfl,?_⟩⟩⟩⟩
    refine ⟨by omega,by omega,by show 0+(Int.toNat ((i+16:Nat):Int))*1<(u32s Si).size;rw [g5_];omega,λw17 hF17=>⟨48 - (i+1),by omega,i+1,?_,by omega,rfl,?_⟩⟩
    ·rw [w64 (by omega) (by omega)];omega
    ·show Value.agg ((u32s Si).setIfInBounds (0+(Int.toNat ((i+16:Nat):Int))*1) (.int .u32 (so_ (Si.getD (i+1) 0) (Si.getD (i+14) 0) (Si.getD i 0) (Si.getD (i+9) 0) (rt (Si.getD (i+1) 0) 7) (rt (Si.getD (i+1) 0) 18) (rt (Si.getD (i+14) 0) 17) (rt (Si.getD (i+14) 0) 19))))=_
     rw [show 0+(Int.toNat ((i+16:Nat):Int))*1=i+16 by omega,jp_,← hS];rfl
  ·have:i=48:=by omega
   subst this
   have h64:∀j:Nat,j<64→(Value.cells (.agg (u32s Si)))[j]? = some (.int .u32 (Si.getD j 0)):=λj h=>cd_ (by omega)
   refine ⟨_,h64 0 (by decide),?_⟩
   refine ⟨_,h64 1 (by decide),?_⟩
   refine ⟨_,h64 2 (by decide),?_⟩
   refine ⟨_,h64 3 (by decide),?_⟩
   refine ⟨_,h64 4 (by decide),?_⟩
   refine ⟨_,h64 5 (by decide),?_⟩
   refine ⟨_,h64 6 (by decide),?_⟩
   refine ⟨_,h64 7 (by decide),?_⟩
   refine ⟨_,h64 8 (by decide),?_⟩
   refine ⟨_,h64 9 (by decide),?_⟩
   refine ⟨_,h64 10 (by decide),?_⟩
   refine ⟨_,h64 11 (by decide),?_⟩
   refine ⟨_,h64 12 (by decide),?_⟩
   refine ⟨_,h64 13 (by decide),?_⟩
   refine ⟨_,h64 14 (by decide),?_⟩
   refine ⟨_,h64 15 (by decide),?_⟩
   refine ⟨_,h64 16 (by decide),?_⟩
   refine ⟨_,h64 17 (by decide),?_⟩
   refine ⟨_,h64 18 (by decide),?_⟩
   refine ⟨_,h64 19 (by decide),?_⟩
   refine ⟨_,h64 20 (by decide),?_⟩
   refine ⟨_,h64 21 (by decide),?_⟩
   refine ⟨_,h64 22 (by decide),?_⟩
   refine ⟨_,h64 23 (by decide),?_⟩
   refine ⟨_,h64 24 (by decide),?_⟩
   refine ⟨_,h64 25 (by decide),?_⟩
   refine ⟨_,h64 26 (by decide),?_⟩
   refine ⟨_,h64 27 (by decide),?_⟩
   refine ⟨_,h64 28 (by decide),?_⟩
   refine ⟨_,h64 29 (by decide),?_⟩
   refine ⟨_,h64 30 (by decide),?_⟩
   refine ⟨_,h64 31 (by decide),?_⟩
   refine ⟨_,h64 32 (by decide),?_⟩
   refine ⟨_,h64 33 (by decide),?_⟩
   refine ⟨_,h64 34 (by decide),?_⟩
   refine ⟨_,h64 35 (by decide),?_⟩
   refine ⟨_,h64 36 (by decide),?_⟩
   refine ⟨_,h64 37 (by decide),?_⟩
   refine ⟨_,h64 38 (by decide),?_⟩
   refine ⟨_,h64 39 (by decide),?_⟩
   refine ⟨_,h64 40 (by decide),?_⟩
   refine ⟨_,h64 41 (by decide),?_⟩
   refine ⟨_,h64 42 (by decide),?_⟩
   refine ⟨_,h64 43 (by decide),?_⟩
   refine ⟨_,h64 44 (by decide),?_⟩
   refine ⟨_,h64 45 (by decide),?_⟩
   refine ⟨_,h64 46 (by decide),?_⟩
   refine ⟨_,h64 47 (by decide),?_⟩
   refine ⟨_,h64 48 (by decide),?_⟩
   refine ⟨_,h64 49 (by decide),?_⟩
   refine ⟨_,h64 50 (by decide),?_⟩
   refine ⟨_,h64 51 (by decide),?_⟩
   refine ⟨_,h64 52 (by decide),?_⟩
   refine ⟨_,h64 53 (by decide),?_⟩
   refine ⟨_,h64 54 (by decide),?_⟩
   refine ⟨_,h64 55 (by decide),?_⟩
   refine ⟨_,h64 56 (by decide),?_⟩
   refine ⟨_,h64 57 (by decide),?_⟩
   refine ⟨_,h64 58 (by decide),?_⟩
   refine ⟨_,h64 59 (by decide),?_⟩
   refine ⟨_,h64 60 (by decide),?_⟩
   refine ⟨_,h64 61 (by decide),?_⟩
   refine ⟨_,h64 62 (by decide),?_⟩
   refine ⟨_,h64 63 (by decide),?_⟩
   intro w18 hF18
   have hk:=hK w18 hF18.gr
   rw [show cN_ bs=Si by rw [cN_,hLe,hS]] at hk
   exact hk
end Go.Vc
namespace Go.Vc
open Go
theorem sE_  (S:SP) (K:KP) (w:World) (h:∀l0,w.heap.size≤l0→∀w0,Fr S w w [] [⟨l0,#[Uv 1116352408,Uv 1899447441,Uv 3049323471,Uv 3921009573,Uv 961987163,Uv 1508970993,Uv 2453635748,Uv 2870763221,Uv 3624381080,Uv 310598401,Uv 607225278,Uv 1426881987,Uv 1925078388,Uv 2162078206,Uv 2614888103,Uv 3248222580,Uv 3835390401,Uv 4022224774,Uv 264347078,Uv 604807628,Uv 770255983,Uv 1249150122,Uv 1555081692,Uv 1996064986,Uv 2554220882,Uv 2821834349,Uv 2952996808,Uv 3210313671,Uv 3336571891,Uv 3584528711,Uv 113926993,Uv 338241895,Uv 666307205,Uv 773529912,Uv 1294757372,Uv 1396182291,Uv 1695183700,Uv 1986661051,Uv 2177026350,Uv 2456956037,Uv 2730485921,Uv 2820302411,Uv 3259730800,Uv 3345764771,Uv 3516065817,Uv 3600352804,Uv 4094571909,Uv 275423344,Uv 430227734,Uv 506948616,Uv 659060556,Uv 883997877,Uv 958139571,Uv 1322822218,Uv 1537002063,Uv 1747873779,Uv 1955562222,Uv 2024104815,Uv 2227730452,Uv 2361852424,Uv 2428436474,Uv 2756734187,Uv 3204031479,Uv 3329325298],364,true⟩] w0→K (.pointer (some (⟨l0,0,none⟩))) w0):aa_ PR 243 ⟨[]⟩ w K:=
 bb_ (okf:=⟨okL,[]⟩) ah_ (args:=[]) (H:=[]) (.s .z (.s (.r ⟨(some []),false,[],[]⟩) .z)) Go.Proofs.Tryz.func243 rfl trivial trivial (Fr.init S w) trivial (ad_ (by kernel_rfl) h)
end Go.Vc
namespace Go.Vc
open Go
def kL:List Int:=[1116352408,1899447441,3049323471,3921009573,961987163,1508970993,2453635748,2870763221,3624381080,310598401,607225278,1426881987,1925078388,2162078206,2614888103,3248222580,3835390401,4022224774,264347078,604807628,770255983,1249150122,1555081692,1996064986,2554220882,2821834349,2952996808,3210313671,3336571891,3584528711,113926993,338241895,666307205,773529912,1294757372,1396182291,1695183700,1986661051,2177026350,2456956037,2730485921,2820302411,3259730800,3345764771,3516065817,3600352804,4094571909,275423344,430227734,506948616,659060556,883997877,958139571,1322822218,1537002063,1747873779,1955562222,2024104815,2227730452,2361852424,2428436474,2756734187,3204031479,3329325298]
def KAt (w:World) (b:Nat):Prop:=∃T,w.heap[b]? = some (.cells (u32s kL) T (0,0))
theorem KAt.grow {w w':World} {b:Nat} (h:KAt w b) (g:Grow w w'):KAt w' b:=by obtain ⟨T,h⟩:=h;exact ⟨T,Grow.get g h⟩
theorem s1_ {w:World} {K:Value→World→Prop} (hK:∀w' b,Grow w w'→w.heap.size≤b→KAt w' b→K (.pointer (some ⟨b,0,none⟩)) w'):aa_ PR F.tr_ ⟨[]⟩ w K:=
 sE_ S0 K w λb hb w0 hF0=>hK w0 b hF0.gr hb ⟨_,hF0.blk 0 rfl⟩
structure Ch where
 a:Int
 b:Int
 c:Int
 d:Int
 e:Int
 f:Int
 g:Int
 h:Int
def Ch.ls (c:Ch):List Int:=[c.a,c.b,c.c,c.d,c.e,c.f,c.g,c.h]
def Ch.of (L:List Int):Ch:=⟨L.getD 0 0,L.getD 1 0,L.getD 2 0,L.getD 3 0,L.getD 4 0,L.getD 5 0,L.getD 6 0,L.getD 7 0⟩
def Ch.arr (c:Ch):Array Value:=#[.int .u32 c.a,.int .u32 c.b,.int .u32 c.c,.int .u32 c.d,.int .u32 c.e,.int .u32 c.f,.int .u32 c.g,.int .u32 c.h]
def rnd (k w:Int) (c:Ch):Ch:=⟨sL_ c.a c.b c.c c.e c.f c.g c.h k w (rt c.e 6) (rt c.e 11) (rt c.e 25) (rt c.a 2) (rt c.a 13) (rt c.a 22),c.a,c.b,c.c,sK_ c.d c.e c.f c.g c.h k w (rt c.e 6) (rt c.e 11) (rt c.e 25),c.e,c.f,c.g⟩
def rndN (W:List Int) (c:Ch):Nat→Ch
 | 0=>c
 | i+1=>rnd (kL.getD i 0) (W.getD i 0) (rndN W c i)
def addN (s c:List Int):Nat→List Int
 | 0=>s
 | i+1=>(addN s c i).set i (IntKind.wrap .u32 ((addN s c i).getD i 0+c.getD i 0))
theorem m9_ (s c:List Int):∀i,(addN s c i).length=s.length
 | 0=>rfl
 | i+1=>by simp [addN,m9_ s c i]
def ql_ (W:List Int) (c:Ch):Ch:=Ch.of (addN (rndN W c 64).ls c.ls 8)
theorem nh_ {kb:Nat} {y:Option Addr} {n cy:Nat} {bs:List UInt8} {c:Ch} {w:World} (hk:KAt w kb) (hs:Sl w y (bs.map bv)) (hl:n=bs.length) (h64:64≤n) {K:Value→World→Prop} (hK:∀w',Grow w w'→K (.agg (ql_ (cN_ bs) c).arr) w') :
  aa_ PR F.cP_ ⟨[.agg #[.int .u32 c.a,.int .u32 c.b,.int .u32 c.c,.int .u32 c.d,.int .u32 c.e,.int .u32 c.f,.int .u32 c.g,.int .u32 c.h],.pointer (some ⟨kb,0,none⟩),.slice y n cy]⟩ w K:=by
 refine cP_ c.a c.b c.c c.d c.e c.f c.g c.h (some ⟨kb,0,none⟩) y n cy S0 K w λl0 hl0 l1 hl1 w0 hF0=>?_
 refine lK_ (hs.grow hF0.gr) hl h64 λw1 g1=>?_
 unfold ql_ at hK
 generalize cN_ bs=W at hK
 refine ⟨_,_,_,_,_,_,_,_,_,_,_,_,_,_,_,_,_,_,_,_,_,_,_,_,_,_,_,_,_,_,_,_,_,_,_,_,_,_,_,_,_,_,_,_,_,_,_,_,_,_,_,_,_,_,_,_,_,_,_,_,_,_,_,_,rfl,hF0.reset.after g1,λl2 hl2 l3 hl3 w2 hF2=>?_⟩
 refine ⟨λi a b c' d e f g h l w'=>∃k:Nat,i=k∧k≤64∧l=64 - k∧(⟨a,b,c',d,e,f,g,h⟩:Ch)=rndN W c k,⟨_,0,rfl,by omega,rfl,rfl⟩,?_⟩
 rintro i a b c' d e f g h D l w3 ⟨k,rfl,hk64,rfl,hst⟩ hF3
 refine ⟨λhlt w4 hF4=>?_,λhge=>?_⟩
 ·have hk':k<64:=by omega
  refine ⟨λ_=>True,trivial,by omega,by omega,by omega,by omega,λw5 hF5=>?_⟩
  obtain ⟨T,hkb⟩:=hk.grow hF5.gr
  have hkc:w5.cell? ⟨kb,k,none⟩=some (.int .u32 (kL.getD k 0)):=by
   rw [ap_ hkb];exact cd_ hk'
  refine ⟨(· = w5),rfl,by omega,by omega,by omega,by omega,by omega,by omega,ac_.2 (ac_.2 ⟨by omega,by omega,ac_.2 ⟨kL.getD k 0,λw' e=>?_,by omega,by omega,W.getD k 0,?_,?_⟩⟩)⟩
  ·subst e;rw [am_,show 0+(Int.toNat (k:Int))*1=k by omega];exact hkc
  ·rw [show 0+(Int.toNat (k:Int))*1=k by omega];exact qN_ W hk'
  ·refine a4_ (by decide) ⟨_,rfl,hF5.reset,rfl,a4_ (by decide) ⟨_,rfl,hF5.reset,rfl,a4_ (by decide) ⟨_,rfl,hF5.reset,rfl,λw10 hF10=>?_⟩⟩⟩
   refine ⟨λ_=>True,trivial,by omega,by omega,by omega,by omega,by omega,by omega,by omega,by omega,?_⟩
   refine a4_ (by decide) ⟨_,rfl,hF10.reset,trivial,a4_ (by decide) ⟨_,rfl,hF10.reset,trivial,a4_ (by decide) ⟨_,rfl,hF10.reset,trivial,?_⟩⟩⟩
   refine ⟨by omega,by omega,by omega,by omega,by omega,by omega,by omega,by omega,by omega,by omega,λw14 hF14=>⟨64 - (k+1),by omega,k+1,?_,by omega,rfl,?_⟩⟩
   ·rw [w64 (by omega) (by omega)];rfl
   ·show _=rnd (kL.getD k 0) (W.getD k 0) (rndN W c k)
    rw [← hst];rfl
 ·have:k=64:=by omega
  subst this
  rw [← hst] at hK
  have e0 : #[Value.int .u32 a,.int .u32 b,.int .u32 c',.int .u32 d,.int .u32 e,.int .u32 f,.int .u32 g,.int .u32 h]=u32s (addN (Ch.ls ⟨a,b,c',d,e,f,g,h⟩) c.ls 0):=rfl
  generalize hsv:Ch.ls ⟨a,b,c',d,e,f,g,h⟩=sv at hK e0
  have hsl:sv.length=8:=by rw [← hsv];rfl
  refine ⟨λi v l w'=>∃k:Nat,i=k∧k≤8∧l=8 - k∧v=.agg (u32s (addN sv c.ls k)),⟨_,0,rfl,by omega,rfl,by rw [e0]⟩,?_⟩
  rintro i v D l w15 ⟨k,rfl,hk8,rfl,rfl⟩ hF15
  have hL:=m9_ sv c.ls k
  generalize hS:addN sv c.ls k=A at hL
  refine ⟨λhlt w16 hF16=>?_,λhge=>?_⟩
  ·have hk':k<8:=by omega
   have e1:0+(Int.toNat (k:Int))*1=k:=by omega
   rw [e1]
   refine ⟨(· = w16),rfl,by omega,by omega,ac_.2 ⟨A.getD k 0,λw' e=>?_,by omega,by omega,c.ls.getD k 0,?_,by omega,by omega,?_,λw18 hF18=>⟨8 - (k+1),by omega,k+1,?_,by omega,rfl,?_⟩⟩⟩
   ·subst e;exact hF16.ld 2 k rfl rfl (cd_ (L:=A) (i:=k) (by omega))
   ·exact cd_ (L:=c.ls) (by show k<8;omega)
   ·show k<(u32s A).size;rw [g5_];omega
   ·rw [w64 (by omega) (by omega)];rfl
   ·show Value.agg ((u32s A).setIfInBounds k (.int .u32 (IntKind.wrap .u32 (A.getD k 0+c.ls.getD k 0))))=_
    rw [jp_,← hS];rfl
  ·have:k=8:=by omega
   subst this
   have h8:∀j:Nat,j<8→(Value.cells (.agg (u32s A)))[j]? = some (.int .u32 (A.getD j 0)):=λj h=>cd_ (by omega)
   refine ⟨_,h8 0 (by decide),_,h8 1 (by decide),_,h8 2 (by decide),_,h8 3 (by decide),_,h8 4 (by decide),_,h8 5 (by decide),_,h8 6 (by decide),_,h8 7 (by decide),λw19 hF19=>?_⟩
   have hk:=hK w19 hF19.gr
   rw [hS] at hk
   exact hk
end Go.Vc
namespace Go.Vc
open Go
def ob_ (bs:List UInt8) (c:Ch):Ch:=ql_ (cN_ (bs.take 64)) c
theorem kv_ {a b:List UInt8} (h:∀j,j<64→byt a j=byt b j):∀i,i≤16→sp1 a i=sp1 b i
 | 0,_=>rfl
 | i+1,hi=>by
  rw [sp1,sp1,kv_ h i (by omega),h (4*i) (by omega),h (4*i+1) (by omega),h (4*i+2) (by omega),h (4*i+3) (by omega)]
theorem lJ_ (bs:List UInt8):cN_ (bs.take 64)=cN_ bs:=by
 unfold cN_
 rw [kv_ (a:=bs.take 64) (b:=bs) (λj hj=>?_) 16 (Nat.le_refl _)]
 unfold byt
 rw [List.getD_eq_getElem?_getD,List.getD_eq_getElem?_getD,List.getElem?_take_of_lt hj]
def pcs (c:Ch) (bs:List UInt8):Nat→Ch
 | 0=>c
 | i+1=>ob_ (bs.drop (64*i)) (pcs c bs i)
theorem Sl.drop {w:World} {q:Option Addr} {xs:List Value} (h:Sl w q xs) {k c:Nat} (hc:xs.length≤c) (hk:k≤xs.length):Sl w (if c=k then q else q.map λa=>a.add k) (xs.drop k):=by
 by_cases h0:xs.drop k=[]
 ·exact .inl h0
 ·have hlt:k<xs.length:=by
   rcases Nat.lt_or_ge k xs.length with h | h
   ·exact h
   ·exact absurd (List.drop_eq_nil_of_le h) h0
  rw [if_neg (by omega)]
  rcases h with rfl | ⟨b,o,rfl,cs,T,fz,hb,hc⟩
  ·simp at hlt
  ·refine .inr ⟨b,o+k,by rw [Option.map_some,am_],cs,T,fz,hb,λi hi=>?_⟩
   rw [List.length_drop] at hi
   rw [Nat.add_assoc,hc (k+i) (by omega),List.getElem?_drop]
theorem pQ_ (a:Addr) (k:Nat):(a.add k).block=a.block:=by
 unfold Addr.add;split <;> rfl
theorem eo_ {kb:Nat} {y:Option Addr} {n cy:Nat} {bs:List UInt8} {c:Ch} {w:World} (hk:KAt w kb) (hs:Sl w y (bs.map bv)) (hl:n=bs.length) (hc:n≤cy) (hn:n≤4611686018427387904) {K:Value→World→Prop}
  (hK:∀w' q' n' c',Grow w w'→Sl w' q' ((bs.drop (64*(bs.length / 64))).map bv)→n'=bs.length - 64*(bs.length / 64)→(∀a,q'=some a→∃a0,y=some a0∧a.block=a0.block)→K (.tuple #[.agg (pcs c bs (bs.length / 64)).arr,.slice q' n' c']) w') :
  aa_ PR F.dj_ ⟨[.agg #[.int .u32 c.a,.int .u32 c.b,.int .u32 c.c,.int .u32 c.d,.int .u32 c.e,.int .u32 c.f,.int .u32 c.g,.int .u32 c.h],.pointer (some ⟨kb,0,none⟩),.slice y n cy]⟩ w K:=by
 refine dj_ c.a c.b c.c c.d c.e c.f c.g c.h (some ⟨kb,0,none⟩) y n cy S0 K w λl0 hl0 l1 hl1 w0 hF0=>?_
 refine ⟨λq l cc a b c' d e f g h m w'=>∃i:Nat,64*i≤bs.length∧l=bs.length - 64*i∧l≤cc∧m=l∧Sl w q ((bs.drop (64*i)).map bv)∧(∀a,q=some a→∃a0,y=some a0∧a.block=a0.block)∧(⟨a,b,c',d,e,f,g,h⟩:Ch)=pcs c bs i,⟨_,0,by omega,by omega,hc,rfl,hs,(λa ha=>⟨a,ha,rfl⟩),rfl⟩,?_⟩
 rintro q l cc a b c' d e f g h D m w1 ⟨i,hi,rfl,hlc,rfl,hsl,hqb,hst⟩ hF1
 refine ⟨λhge=>?_,λhlt w4 hF4=>?_⟩
 ·refine nh_ (c:=⟨a,b,c',d,e,f,g,h⟩) (hk.grow hF1.gr) (hsl.grow hF1.gr) (by rw [List.length_drop]) (by omega) λw2 g2=>⟨_,_,_,_,_,_,_,_,rfl,hF1.after g2,by omega,by omega,λw3 hF3=>?_⟩
  refine ⟨bs.length - 64*(i+1),by omega,i+1,by omega,by omega,by omega,by omega,?_,?_,?_⟩
  ·have:=hsl.drop (k:=64) (c:=cc) (by rw [List.length_map,List.length_drop];exact hlc) (by rw [List.length_map,List.length_drop];omega)
   rw [← List.map_drop,List.drop_drop] at this
   exact this
  ·intro x hx
   by_cases hcc:cc=64
   ·rw [if_pos hcc] at hx;exact hqb x hx
   ·rw [if_neg hcc] at hx
    cases q with
    | none=>cases hx
    | some z=>
     cases hx
     obtain ⟨a0,e1,e2⟩:=hqb z rfl
     exact ⟨a0,e1,by rw [pQ_];exact e2⟩
  ·show ql_ (cN_ (bs.drop (64*i))) ⟨a,b,c',d,e,f,g,h⟩=ob_ (bs.drop (64*i)) (pcs c bs i)
   rw [ob_,lJ_,hst]
 ·have e:bs.length / 64=i:=by omega
  subst e
  have hk:=hK w4 q _ cc hF4.gr (hsl.grow hF4.gr) rfl hqb
  rw [← hst] at hk
  exact hk
def padN (n:Nat):Nat:=(120 - n%64)%64
def eb (many:Int) (i:Nat):UInt8:=UInt8.ofNat (IntKind.wrap .u8 (Int.fdiv (IntKind.wrap .i64 (8*many)) ((2:Int) ^ (Min.min (Int.toNat (IntKind.wrap .i64 (8*(i:Int)))) 64)))).toNat
def ebs (many:Int):Nat→List UInt8
 | 0=>[]
 | k+1=>ebs many k++[eb many (7 - k)]
theorem j7_ (many:Int):∀k,(ebs many k).length=k
 | 0=>rfl
 | k+1=>by simp [ebs,j7_ many k]
def endL (rest:List UInt8) (many:Int):List UInt8:=rest++[128]++List.replicate (padN (rest.length+1)) 0++ebs many 8
theorem h7_ (x:Int):(.int .u8 (IntKind.wrap .u8 x):Value)=bv (UInt8.ofNat (IntKind.wrap .u8 x).toNat):=by
 unfold bv
 rw [wrap_u8]
 have h1:0≤x%256:=Int.emod_nonneg _ (by decide)
 have h2:x%256<256:=Int.emod_lt_of_pos _ (by decide)
 have:(UInt8.ofNat (x%256).toNat).toNat=(x%256).toNat:=by
  show (x%256).toNat%256=_
  omega
 rw [this,Int.toNat_of_nonneg h1]
theorem mZ_ {y:Option Addr} {n cy:Nat} {rest:List UInt8} {many:Int} {w:World} (hs:Sl w y (rest.map bv)) (hl:n=rest.length) (hn:n≤1000000) {K:Value→World→Prop}
  (hK:∀w' q' c',Grow w w'→Sl w' q' ((endL rest many).map bv)→(endL rest many).length≤c'→K (.slice q' (endL rest many).length c') w') :
  aa_ PR F.lS_ ⟨[.slice y n cy,.int .i64 many]⟩ w K:=by
 subst hl
 refine lS_ y rest.length cy many S0 K w ?_
 refine fC_ (xs:=[]) (ys:=rest) (.nil _ _ _) rfl (Nat.le_refl _) hs rfl (by omega) λq0 c0 w0 ho0 hc0 g0 hq0=>?_
 have of0:Off (λj=>j<w.heap.size) q0:=λa ha hlt=>by
  rcases hq0 a ha with e | e
  ·cases e
  ·subst e;exact absurd hlt (Nat.lt_irrefl _)
 have g0':Grow w w0:=g0.mono λk _ h=>by obtain ⟨a,ha,_⟩:=h;cases ha
 have hF0:Fs S0 w [] w0:=(Fr.init _ w).after g0'
 refine ⟨_,_,_,rfl,hF0,λb1 hb1 w1 hF1=>?_⟩
 have s0:=g0'.size
 refine fC_ (ys:=[128]) (ho0.grow hF1.grow) (by simp) hc0 (hF1.sl 0 rfl) rfl (by omega) λq1 c1 w2 ho2 hc2 g2 hq2=>?_
 have app:∀ {L:List Blk} {w1 w2:World} {q:Option Addr} {M:List Nat} {wp:World} {c:Nat} {bs:List UInt8},Fr S0 w wp M L w1→wp.heap.size≤w1.heap.size→Chg (aM_ q) w1 w2→Off (λj=>j<w.heap.size) q→Own T.uint8 1 wp q c (bs.map bv)→(∀x,x∈L→wp.heap.size≤x.b)→Fs S0 w L w2:=λ{L w1 w2 q M wp c bs} hF hsz g ho hown hL=>
  hF.app2 g w.heap.size wp.heap.size ho (λa ha=>hown.lt a ha) (λx hx=>.inr (hL x hx)) (Nat.le_refl _)
 have hF2:=app hF1 hF1.grow.size g2 of0 ho0 (λx hx=>by simp at hx;subst hx;exact hb1)
 have of1:=of0.next hq2 (by have:=hF1.gr.size;omega)
 refine ⟨_,_,_,rfl,hF2,?_⟩
 have hl1:rest.length+1=(rest++[128]).length:=by simp
 generalize hA:rest++[(128:UInt8)]=A at ho2 hl1
 have eA:([]++rest++[(128:UInt8)])=A:=by rw [List.nil_append];exact hA
 refine ⟨λq l c m w'=>∃j:Nat,j≤padN (rest.length+1)∧m=padN (rest.length+1) - j∧Own T.uint8 1 w' q c ((A++List.replicate j 0).map bv)∧l=A.length+j∧l≤c∧Off (λx=>x<w.heap.size) q,⟨_,0,by omega,rfl,?_,?_,?_,of1⟩,?_⟩
 ·rw [List.replicate_zero,List.append_nil];rw [List.nil_append,hA] at ho2;exact ho2
 ·simp at hl1 ⊢;omega
 ·exact hc2
 rintro q2 l2 c2 D m w3 ⟨j,hj,rfl,ho3,rfl,hlc3,of3⟩ hF3
 have hpad:padN (rest.length+1)<64:=Nat.mod_lt _ (by decide)
 have hmod:Int.tmod (((A.length+j:Nat):Int)) 64=(((A.length+j)%64:Nat):Int):=by rw [Int.tmod_eq_emod_of_nonneg (by omega)];omega
 rw [hmod]
 refine ⟨λh56=>?_,λhne b7 hb7 w7 hF7=>?_⟩
 ·have hje:j=padN (rest.length+1):=by
   have h56':(A.length+j)%64=56:=by omega
   unfold padN at hj ⊢
   rw [hl1] at hj ⊢
   omega
  subst hje
  generalize hB:A++List.replicate (padN (rest.length+1)) 0=B at ho3
  have hBl:A.length+padN (rest.length+1)=B.length:=by rw [← hB];simp
  refine ⟨λq l c n m w'=>∃k:Nat,k≤8∧n=7 - (k:Int)∧m=8 - k∧Own T.uint8 1 w' q c ((B++ebs many k).map bv)∧l=B.length+k∧l≤c∧Off (λx=>x<w.heap.size) q,⟨_,0,by omega,rfl,rfl,by rw [ebs,List.append_nil];exact ho3,by omega,hlc3,of3⟩,?_⟩
  rintro q3 l3 c3 n D m w4 ⟨k,hk,rfl,rfl,ho4,rfl,hlc4,of4⟩ hF4
  refine ⟨λhge=>⟨?_,λb5 hb5 w5 hF5=>?_⟩,λhlt=>?_⟩
  ·rw [w64 (by omega) (by omega)];omega
  ·have hk':k<8:=by omega
   have ek:(7 - (k:Int))=((7 - k:Nat):Int):=by omega
   rw [ek] at hF5 ⊢
   rw [h7_] at hF5 ⊢
   refine fC_ (ys:=[eb many (7 - k)]) (ho4.grow hF5.grow) (by simp [j7_]) hlc4 (hF5.sl 0 rfl) rfl (by omega) λq5 c5 w6 ho6 hc6 g6 hq6=>?_
   have hF6:=app hF5 hF5.grow.size g6 of4 ho4 (λx hx=>by simp at hx;subst hx;exact hb5)
   refine ⟨_,_,_,rfl,hF6,8 - (k+1),by omega,k+1,by omega,?_,rfl,?_,by omega,hc6,of4.next hq6 (by have:=hF5.gr.size;omega)⟩
   ·rw [w64 (by omega) (by omega)];omega
   ·rw [ebs,← List.append_assoc];exact ho6
  ·have:k=8:=by omega
   subst this
   have e:B++ebs many 8=endL rest many:=by rw [← hB,← hA];rfl
   rw [e] at ho4
   have el:B.length+8=(endL rest many).length:=by rw [← e,List.length_append,j7_]
   rw [el] at hlc4 ⊢
   exact hK w4 q3 c3 hF4.gr ho4.sl hlc4
 ·have hjl:j<padN (rest.length+1):=by
   rcases Nat.lt_or_ge j (padN (rest.length+1)) with h | h
   ·exact h
   ·exfalso
    apply hne
    have:j=padN (rest.length+1):=by omega
    subst this
    unfold padN
    rw [hl1]
    omega
  refine fC_ (ys:=[0]) (ho3.grow hF7.grow) (by simp) hlc3 (hF7.sl 0 rfl) rfl (by omega) λq5 c5 w6 ho6 hc6 g6 hq6=>?_
  have hF6:=app hF7 hF7.grow.size g6 of3 ho3 (λx hx=>by simp at hx;subst hx;exact hb7)
  refine ⟨_,_,_,rfl,hF6,padN (rest.length+1) - (j+1),by omega,j+1,by omega,rfl,?_,by omega,hc6,of3.next hq6 (by have:=hF7.gr.size;omega)⟩
  rw [List.replicate_succ',← List.append_assoc];exact ho6
end Go.Vc
namespace Go.Vc
open Go
theorem f__ {b n m c c2:Nat} {zs ys:List Value} {q2:Option Addr} {w:World} (ho:Own T.uint8 1 w (some ⟨b,0,none⟩) m zs) (hz:zs.length=n) (hs:Sl w q2 ys) (hy:ys.length=n) (h1:∀y∈ys,oneC y=true) {K:Value→World→Prop}
  (hK:∀w',Own T.uint8 1 w' (some ⟨b,0,none⟩) m ys→Chg (· = b) w w'→K (.int .i64 n) w'):rn PR (Builtin.copy_ #[T.a8_,T.a8_] T.int #[.slice (some ⟨b,0,none⟩) n c,.slice q2 n c2]) K w:=by
 obtain ⟨i,hi,hk⟩:=sq_
 refine cA_ ?_
 have ld:∀(K:Array Value→World→Prop),K ys.toArray w→sv PR (Builtin.firstCells i.size n (.slice q2 n c2)) K w:=by
  intro K hK
  rcases hs with rfl | ⟨b,o,rfl,h⟩
  ·cases q2 with
   | none=>exact hK
   | some a=>
    have:n*i.size=0:=by rw [hk];simpa using hy.symm
    simp only [Builtin.firstCells,this]
    exact hK
  ·simp only [Builtin.firstCells]
   exact b1_ (by rw [hk];omega) h hK
 unfold Builtin.copy_
 have hmin:Nat.min n n=n:=Nat.min_self n
 simp only [List.getElem?_toArray,List.getElem?_cons_zero,List.getElem?_cons_succ,aE_,aq_ cj_,Builtin.lenOf,aY_,bJ_ hi,hmin]
 refine ld _ ?_
 rcases ho with ⟨h,_⟩ | ⟨b',o,cs,h,hb,h2,h3,h4,h5⟩
 ·cases h
 ·cases h
  simp only [aE_,aY_]
  refine bI_ (o:=0) ys 0 cs w hb (by omega) h1 λw' cs' hb' hs' hout hin' hsz' g=>?_
  exact hK w' (.inr ⟨b,0,cs',rfl,hb',by omega,h3,by omega,λj hj=>by have:=hin' j hj;simpa using this⟩) g
end Go.Vc
namespace Go.Vc
open Go
theorem kL_ (c:Ch) (f t:List UInt8):∀i,64*i≤f.length→pcs c (f++t) i=pcs c f i
 | 0,_=>rfl
 | i+1,h=>by
  rw [pcs,pcs,kL_ c f t i (by omega)]
  unfold ob_
  rw [List.drop_append_of_le_length (by omega),List.take_append_of_le_length (by rw [List.length_drop];omega)]
theorem oJ_ (c:Ch) (f t:List UInt8) (m:Nat) (h:64*m≤f.length):∀j,pcs (pcs c f m) (f.drop (64*m)++t) j=pcs c (f++t) (m+j)
 | 0=>(kL_ c f t m h).symm
 | j+1=>by
  rw [pcs,oJ_ c f t m h j,← Nat.add_assoc,pcs]
  unfold ob_
  rw [Nat.mul_add,← List.drop_drop,List.drop_append_of_le_length h]
theorem iZ_ {n:Nat} (hn:n≤281474976710656) {w:World} {K:Value→World→Prop}
  (hK:∀b w',b=w.heap.size→Grow w w'→Own T.uint8 1 w' (some ⟨b,0,none⟩) n (List.replicate n (.int .u8 0))→K (.slice (some ⟨b,0,none⟩) n n) w') :
  rn PR (Instr.makeSlice T.a8_ (.int .i64 (n:Int)) (.int .i64 (n:Int))) K w:=by
 obtain ⟨i,hi,hk,hb,hz⟩:=t_u8
 exact cA_ <| cD_ (i:=i) (by_:=1) cj_ hi hz rfl hk hb (by omega) (by omega) (by omega) λb w' e _ g ho=>hK b w' e g (by rw [Int.toNat_natCast] at ho;exact ho)
theorem KAt.keep {S:Nat→Prop} {w w':World} {b:Nat} (h:KAt w b) (g:Chg S w w') (hn:¬S b):KAt w' b:=by obtain ⟨T,h⟩:=h;exact ⟨T,g.get h hn⟩
theorem KAt.lt {w:World} {b:Nat} (h:KAt w b):b<w.heap.size:=by obtain ⟨T,h⟩:=h;exact ak_ h
def stC0 (c:Ch) (kb:Nat) (q:Option Addr) (l cc:Nat) (many:Int):Array Value:=
 #[.int .u32 c.a,.int .u32 c.b,.int .u32 c.c,.int .u32 c.d,.int .u32 c.e,.int .u32 c.f,.int .u32 c.g,.int .u32 c.h,.pointer (some ⟨kb,0,none⟩),.slice q l cc,.int .i64 many]
theorem mq_ {k0 kb n cy:Nat} {c0:Ch} {y:Option Addr} {xs:List (List UInt8)} {w:World} (hb:w.heap[k0]? = some (.cells (stC0 c0 kb none 0 0 0) T.dJ_ (0,0))) (hk:KAt w kb) (hkk:kb≠k0) (hs:Sl w y (xs.map sv8')) (hyk:xs=[]∨Off (· = k0) y) (hl:n=xs.length) (hn:n≤1000000) (hbig:xs.flatten.length≤1099511627776) {K:Value→World→Prop}
  (hK:∀w' q c',Chg (· = k0) w w'→w'.heap[k0]? = some (.cells (stC0 (pcs c0 xs.flatten (xs.flatten.length / 64)) kb q (xs.flatten.length - 64*(xs.flatten.length / 64)) c' xs.flatten.length) T.dJ_ (0,0))→Sl w' q ((xs.flatten.drop (64*(xs.flatten.length / 64))).map bv)→K (.tuple #[]) w') :
  aa_ PR F.fT_ ⟨[.pointer (some ⟨k0,0,none⟩),.slice y n cy]⟩ w K:=by
 subst hl
 have hk0:=ak_ hb
 refine hg_ k0 c0.a c0.b c0.c c0.d c0.e c0.f c0.g c0.h (some ⟨kb,0,none⟩) none 0 0 0 y xs.length cy (· = k0) K w ((Fr.init _ w).entry hb (λx h=>by cases h) λ_=>rfl) ⟨rfl,trivial⟩ ?_
 refine ⟨λn0 a b c' d e f g h q0 q1 l1 l2 n9 m w'=>∃i:Nat,n0=i∧i≤xs.length∧m=xs.length - i∧(⟨a,b,c',d,e,f,g,h⟩:Ch)=pcs c0 (xs.take i).flatten ((xs.take i).flatten.length / 64)∧q0=some ⟨kb,0,none⟩∧Own T.uint8 1 w' q1 l2 (((xs.take i).flatten.drop (64*((xs.take i).flatten.length / 64))).map bv)∧l1=(xs.take i).flatten.length - 64*((xs.take i).flatten.length / 64)∧l1≤l2∧n9=(xs.take i).flatten.length∧Off (λj=>j<w.heap.size) q1,⟨_,0,rfl,by omega,rfl,(by rw [List.take_zero];rfl),rfl,(by rw [List.take_zero,List.flatten_nil,List.drop_nil,List.map_nil];exact .nil _ _ _),(by simp),Nat.le_refl _,(by simp),λa h=>by cases h⟩,?_⟩
 rintro n0 a b c' d e f g h q0 q1 l1 l2 n9 D m w0 ⟨i,rfl,hi,rfl,hst,rfl,ho,rfl,hlc,rfl,of1⟩ hF0
 refine ⟨λhlt=>?_,λhge=>?_⟩
 ·have hi':i<xs.length:=by omega
  have hs0:=hs.keep hF0.chg (hyk.elim (λh=>by subst h;simp at hi') id)
  refine hs0.rd (v:=sv8' xs[i]) (by simp) (by omega) (by simp [hi']) λz hz=>⟨_,hz,?_⟩
  have hfl:=d4_ hi'
  have hle:=bD_ xs (i+1)
  rw [hfl,List.length_append] at hle
  generalize hFi:(xs.take i).flatten=Fi at *
  have hmany:IntKind.wrap .i64 ((Fi.length:Int)+((ByteArray.size (str xs[i]):Nat):Int))=(((xs.take (i+1)).flatten.length:Nat):Int):=by
   rw [af_,hfl,List.length_append,w64 (by omega) (by omega)];omega
  have hm64:64*(Fi.length / 64)≤Fi.length:=by omega
  generalize hB:Fi.drop (64*(Fi.length / 64))++xs[i]=B
  have hBl:B.length=Fi.length - 64*(Fi.length / 64)+xs[i].length:=by rw [← hB,List.length_append,List.length_drop]
  have hdiv:(Fi.length+xs[i].length) / 64=Fi.length / 64+B.length / 64:=by omega
  have hst':pcs (pcs c0 Fi (Fi.length / 64)) B (B.length / 64)=pcs c0 (xs.take (i+1)).flatten ((xs.take (i+1)).flatten.length / 64):=by
   rw [hfl,List.length_append,hdiv,← hB,oJ_ c0 Fi xs[i] _ hm64]
  have hdr:B.drop (64*(B.length / 64))=(xs.take (i+1)).flatten.drop (64*((xs.take (i+1)).flatten.length / 64)):=by
   rw [hfl,List.length_append,hdiv,Nat.mul_add,← List.drop_drop,List.drop_append_of_le_length hm64,hB]
  have hdr2:(B.drop (64*(B.length / 64))).length=(xs.take (i+1)).flatten.length - 64*((xs.take (i+1)).flatten.length / 64):=by
   rw [hdr,List.length_drop]
  have hl2:Fi.length - 64*(Fi.length / 64)+ByteArray.size (str xs[i])=B.length:=by rw [af_,hBl]
  rw [hmany]
  have hmany:(((xs.take (i+1)).flatten.length:Nat):Int)=(((xs.take (i+1)).flatten.length:Nat):Int):=rfl
  have hoff:∀ {q:Option Addr},Off (λj=>j<w.heap.size) q→Off (· = k0) q:=λh a ha e=>by have:=h.le a ha;have e':a.block=k0:=e;omega
  have hMn:∀ {l8:Nat} {N:Nat} {q3:Option Addr} {wa wb:World} {M:List Nat} {zs:List Value},Sl wa q3 zs→(∀z,q3=some z→z.block<N)→N≤l8→Off (· = k0) q3→Chg (·∈M) wa wb→(∀k,k∈M→k=k0∨k=l8)→Sl wb q3 zs:=λ{l8 N q3 wa wb M zs} hsl hq hN ho g hM=>hsl.keep g λz hz e=>by
   rcases hM _ e with e | e
   ·exact ho z hz e
   ·have:=hq z hz;omega
  refine ⟨λw1 hF1=>?_,λl24 hl24 w1 hF1=>?_⟩
  ·have g1:Chg (· = k0) w0 w1:=hF1.stp.mono λj _ hj=>by simpa using hj
   have s1:=g1.size
   refine kf_ (ho.keep g1 (hoff of1)) (by rw [List.length_drop]) hlc (by rw [af_];omega) λq2 c2 w2 ho2 hc2 g2 hq2=>?_
   rw [bd_,hB] at ho2
   rw [hl2] at hc2
   have hF2:=hF1.app2 g2 w.heap.size w0.heap.size of1 (λa ha=>ho.lt a ha) (λx hx=>by simp at hx;subst hx;exact .inl hk0) (Nat.le_refl _)
   have of2:Off (λj=>j<w.heap.size) q2:=of1.next hq2 (by have:=hF1.chg.size;omega)
   have hoq:∀a,q2=some a→a.block<w2.heap.size:=λa ha=>ho2.lt a ha
   rw [hl2]
   refine ⟨_,_,_,rfl,hF2,?_,λl15 hl15 w12 hF12=>?_⟩
   ·refine eo_ (c:=⟨a,b,c',d,e,f,g,h⟩) (hk.keep hF2.chg hkk) ho2.sl rfl hc2 (by omega) λw3 q3 n3 c3 g3 hs3 hn3 hq3=>?_
    rw [hst]
    have hqo:Off (· = k0) q3:=λz hz ez=>by obtain ⟨a0,e1,e2⟩:=hq3 z hz;have:=of2.le a0 e1;have e3:z.block=k0:=ez;omega
    have hql:∀z,q3=some z→z.block<w2.heap.size:=λz hz=>by obtain ⟨a0,e1,e2⟩:=hq3 z hz;have:=ho2.lt a0 e1;omega
    have hF3:=hF2.after g3
    have lq:n3=(B.drop (64*(B.length / 64))).length:=by rw [List.length_drop];exact hn3
    rw [hst']
    refine ⟨_,_,_,_,_,_,_,_,_,_,_,rfl,hF3,λl8 hl8=>⟨λw4 hF4=>?_,λw4 hF4=>?_⟩⟩
    ·have hsl:=hMn (l8:=l8) hs3 hql (by have:=g3.size;omega) hqo hF4.stp (λk hk=>by simp at hk;omega)
     refine iZ_ (by omega) λb5 w5 hb5 g5 ho5=>?_
     have hF5:=hF4.after g5
     refine ⟨_,_,_,rfl,hF5,λw6 hF6=>?_⟩
     have g6:Chg (· = k0) w5 w6:=hF6.stp.mono λi _ hi=>by simpa using hi
     have b5k:b5≠k0:=by have:=hF4.chg.size;omega
     refine f__ (ho5.keep g6 (λa ha e=>by cases ha;exact b5k e)) (by simp) (((hsl.grow g5).keep g6 hqo)) (by rw [List.length_map];exact lq.symm) (λy hy=>by obtain ⟨z,_,rfl⟩:=List.mem_map.1 hy;rfl) λw7 ho7 g7=>?_
     have hF7:=hF6.step g7 (λx hx=>by simp at hx;subst hx;exact λe=>b5k e.symm) (λk hk e=>by have e':k=b5:=e;have:=hF4.chg.size;omega)
     exact ⟨_,rfl,hF7,xs.length - (i+1),by omega,i+1,by rw [w64 (by omega) (by omega)];rfl,by omega,rfl,rfl,rfl,by rw [← hdr];exact ho7,by rw [lq,hdr2],Nat.le_refl _,hmany,λa ha hlt=>by cases ha;have:=hF4.chg.size;simp only [] at hlt;omega⟩
    ·have hsl:=hMn (l8:=l8) hs3 hql (by have:=g3.size;omega) hqo hF4.stp (λk hk=>by simp at hk;omega)
     refine iZ_ (by omega) λb5 w5 hb5 g5 ho5=>?_
     have hF5:=hF4.after g5
     refine ⟨_,_,_,rfl,hF5,λw6 hF6=>?_⟩
     have g6:Chg (· = k0) w5 w6:=hF6.stp.mono λi _ hi=>by simpa using hi
     have b5k:b5≠k0:=by have:=hF4.chg.size;omega
     refine f__ (ho5.keep g6 (λa ha e=>by cases ha;exact b5k e)) (by simp) (((hsl.grow g5).keep g6 hqo)) (by rw [List.length_map];exact lq.symm) (λy hy=>by obtain ⟨z,_,rfl⟩:=List.mem_map.1 hy;rfl) λw7 ho7 g7=>?_
     have hF7:=hF6.step g7 (λx hx=>by simp at hx;subst hx;exact λe=>b5k e.symm) (λk hk e=>by have e':k=b5:=e;have:=hF4.chg.size;omega)
     exact ⟨_,rfl,hF7,xs.length - (i+1),by omega,i+1,by rw [w64 (by omega) (by omega)];rfl,by omega,rfl,rfl,rfl,by rw [← hdr];exact ho7,by rw [lq,hdr2],Nat.le_refl _,hmany,λa ha hlt=>by cases ha;have:=hF4.chg.size;simp only [] at hlt;omega⟩
   ·have g12:Grow w2 w12:=hF12.grow
    have ho2:=ho2.grow g12
    have hF2:=hF12.reset
    refine eo_ (c:=⟨a,b,c',d,e,f,g,h⟩) (hk.keep hF2.chg hkk) ho2.sl rfl hc2 (by omega) λw3 q3 n3 c3 g3 hs3 hn3 hq3=>?_
    rw [hst]
    have hqo:Off (· = k0) q3:=λz hz ez=>by obtain ⟨a0,e1,e2⟩:=hq3 z hz;have:=of2.le a0 e1;have e3:z.block=k0:=ez;omega
    have hql:∀z,q3=some z→z.block<w12.heap.size:=λz hz=>by obtain ⟨a0,e1,e2⟩:=hq3 z hz;have:=ho2.lt a0 e1;omega
    have hF3:=hF2.after g3
    have lq:n3=(B.drop (64*(B.length / 64))).length:=by rw [List.length_drop];exact hn3
    have hql2:∀z,q3=some z→z.block<w2.heap.size:=λz hz=>by obtain ⟨a0,e1,e2⟩:=hq3 z hz;have:=hoq a0 e1;omega
    rw [hst']
    refine ⟨_,_,_,_,_,_,_,_,_,_,_,rfl,hF3,λw4 hF4=>?_,λw4 hF4=>?_⟩
    ·have hsl:=hMn (l8:=l15) hs3 hql2 hl15 hqo hF4.stp (λk hk=>by simp at hk;omega)
     refine iZ_ (by omega) λb5 w5 hb5 g5 ho5=>?_
     have hF5:=hF4.after g5
     refine ⟨_,_,_,rfl,hF5,λw6 hF6=>?_⟩
     have g6:Chg (· = k0) w5 w6:=hF6.stp.mono λi _ hi=>by simpa using hi
     have b5k:b5≠k0:=by have:=hF4.chg.size;omega
     refine f__ (ho5.keep g6 (λa ha e=>by cases ha;exact b5k e)) (by simp) (((hsl.grow g5).keep g6 hqo)) (by rw [List.length_map];exact lq.symm) (λy hy=>by obtain ⟨z,_,rfl⟩:=List.mem_map.1 hy;rfl) λw7 ho7 g7=>?_
     have hF7:=hF6.step g7 (λx hx=>by simp at hx;subst hx;exact λe=>b5k e.symm) (λk hk e=>by have e':k=b5:=e;have:=hF4.chg.size;omega)
     exact ⟨_,rfl,hF7,xs.length - (i+1),by omega,i+1,by rw [w64 (by omega) (by omega)];rfl,by omega,rfl,rfl,rfl,by rw [← hdr];exact ho7,by rw [lq,hdr2],Nat.le_refl _,hmany,λa ha hlt=>by cases ha;have:=hF4.chg.size;simp only [] at hlt;omega⟩
    ·have hsl:=hMn (l8:=l15) hs3 hql2 hl15 hqo hF4.stp (λk hk=>by simp at hk;omega)
     refine iZ_ (by omega) λb5 w5 hb5 g5 ho5=>?_
     have hF5:=hF4.after g5
     refine ⟨_,_,_,rfl,hF5,λw6 hF6=>?_⟩
     have g6:Chg (· = k0) w5 w6:=hF6.stp.mono λi _ hi=>by simpa using hi
     have b5k:b5≠k0:=by have:=hF4.chg.size;omega
     refine f__ (ho5.keep g6 (λa ha e=>by cases ha;exact b5k e)) (by simp) (((hsl.grow g5).keep g6 hqo)) (by rw [List.length_map];exact lq.symm) (λy hy=>by obtain ⟨z,_,rfl⟩:=List.mem_map.1 hy;rfl) λw7 ho7 g7=>?_
     have hF7:=hF6.step g7 (λx hx=>by simp at hx;subst hx;exact λe=>b5k e.symm) (λk hk e=>by have e':k=b5:=e;have:=hF4.chg.size;omega)
     exact ⟨_,rfl,hF7,xs.length - (i+1),by omega,i+1,by rw [w64 (by omega) (by omega)];rfl,by omega,rfl,rfl,rfl,by rw [← hdr];exact ho7,by rw [lq,hdr2],Nat.le_refl _,hmany,λa ha hlt=>by cases ha;have:=hF4.chg.size;simp only [] at hlt;omega⟩
  ·have g1:Chg (· = k0) w0 w1:=hF1.stp.mono λj _ hj=>by simpa using hj
   have s1:=g1.size
   refine kf_ (ho.keep g1 (hoff of1)) (by rw [List.length_drop]) hlc (by rw [af_];omega) λq2 c2 w2 ho2 hc2 g2 hq2=>?_
   rw [bd_,hB] at ho2
   rw [hl2] at hc2
   have hF2:=hF1.app2 g2 w.heap.size w0.heap.size of1 (λa ha=>ho.lt a ha) (λx hx=>by simp at hx;rcases hx with rfl | rfl;exact .inl hk0;exact .inr hl24) (Nat.le_refl _)
   have of2:Off (λj=>j<w.heap.size) q2:=of1.next hq2 (by have:=hF1.chg.size;omega)
   have hoq:∀a,q2=some a→a.block<w2.heap.size:=λa ha=>ho2.lt a ha
   rw [hl2]
   refine ⟨_,_,_,rfl,hF2,?_⟩
   have hl24w:l24<w1.heap.size:=ak_ (hF1.blk 1 rfl)
   have hq24:∀a,q2=some a→a.block≠l24:=λa ha e=>by
    rcases hq2 a ha with h | h
    ·have:=ho.lt a h;omega
    ·subst h;simp only [] at e;omega
   refine eo_ (c:=⟨a,b,c',d,e,f,g,h⟩) (hk.keep hF2.chg hkk) ho2.sl rfl hc2 (by omega) λw3 q3 n3 c3 g3 hs3 hn3 hq3=>?_
   rw [hst]
   have hqo:Off (· = k0) q3:=λz hz ez=>by obtain ⟨a0,e1,e2⟩:=hq3 z hz;have:=of2.le a0 e1;have e3:z.block=k0:=ez;omega
   have hql:∀z,q3=some z→z.block<w2.heap.size:=λz hz=>by obtain ⟨a0,e1,e2⟩:=hq3 z hz;have:=ho2.lt a0 e1;omega
   have hF3:=hF2.after g3
   have hne:∀z,q3=some z→z.block≠l24:=λz hz e=>by obtain ⟨a0,e1,e2⟩:=hq3 z hz;exact hq24 a0 e1 (by omega)
   have lq:n3=(B.drop (64*(B.length / 64))).length:=by rw [List.length_drop];exact hn3
   rw [hst']
   refine ⟨_,_,_,_,_,_,_,_,_,_,_,rfl,hF3,λw4 hF4=>?_,λw4 hF4=>?_⟩
   ·have hsl:=hs3.keep hF4.stp (λz hz e=>by simp at e;have h1:=hqo z hz;have h2:=hne z hz;omega)
    refine iZ_ (by omega) λb5 w5 hb5 g5 ho5=>?_
    have hF5:=hF4.after g5
    refine ⟨_,_,_,rfl,hF5,λw6 hF6=>?_⟩
    have g6:Chg (· = k0) w5 w6:=hF6.stp.mono λi _ hi=>by simpa using hi
    have b5k:b5≠k0:=by have:=hF4.chg.size;omega
    refine f__ (ho5.keep g6 (λa ha e=>by cases ha;exact b5k e)) (by simp) (((hsl.grow g5).keep g6 hqo)) (by rw [List.length_map];exact lq.symm) (λy hy=>by obtain ⟨z,_,rfl⟩:=List.mem_map.1 hy;rfl) λw7 ho7 g7=>?_
    have hF7:=hF6.step g7 (λx hx=>by simp at hx;subst hx;exact λe=>b5k e.symm) (λk hk e=>by have e':k=b5:=e;have:=hF4.chg.size;omega)
    exact ⟨_,rfl,hF7,xs.length - (i+1),by omega,i+1,by rw [w64 (by omega) (by omega)];rfl,by omega,rfl,rfl,rfl,by rw [← hdr];exact ho7,by rw [lq,hdr2],Nat.le_refl _,hmany,λa ha hlt=>by cases ha;have:=hF4.chg.size;simp only [] at hlt;omega⟩
   ·have hsl:=hs3.keep hF4.stp (λz hz e=>by simp at e;have h1:=hqo z hz;have h2:=hne z hz;omega)
    refine iZ_ (by omega) λb5 w5 hb5 g5 ho5=>?_
    have hF5:=hF4.after g5
    refine ⟨_,_,_,rfl,hF5,λw6 hF6=>?_⟩
    have g6:Chg (· = k0) w5 w6:=hF6.stp.mono λi _ hi=>by simpa using hi
    have b5k:b5≠k0:=by have:=hF4.chg.size;omega
    refine f__ (ho5.keep g6 (λa ha e=>by cases ha;exact b5k e)) (by simp) (((hsl.grow g5).keep g6 hqo)) (by rw [List.length_map];exact lq.symm) (λy hy=>by obtain ⟨z,_,rfl⟩:=List.mem_map.1 hy;rfl) λw7 ho7 g7=>?_
    have hF7:=hF6.step g7 (λx hx=>by simp at hx;subst hx;exact λe=>b5k e.symm) (λk hk e=>by have e':k=b5:=e;have:=hF4.chg.size;omega)
    exact ⟨_,rfl,hF7,xs.length - (i+1),by omega,i+1,by rw [w64 (by omega) (by omega)];rfl,by omega,rfl,rfl,rfl,by rw [← hdr];exact ho7,by rw [lq,hdr2],Nat.le_refl _,hmany,λa ha hlt=>by cases ha;have:=hF4.chg.size;simp only [] at hlt;omega⟩
 ·have:i=xs.length:=by omega
  subst this
  rw [List.take_length] at hst ho hF0
  have hb0:=hF0.blk 0 rfl
  have hk:=hK w0 q1 l2 hF0.chg
  rw [← hst] at hk
  exact hk hb0 ho.sl
end Go.Vc
namespace Go.Vc
open Go
def u8f (x:Int):UInt8:=UInt8.ofNat (IntKind.wrap .u8 x).toNat
def wb (x:Int):List UInt8:=[u8f (Int.fdiv x 16777216),u8f (Int.fdiv x 65536),u8f (Int.fdiv x 256),u8f x]
theorem n1_ (x:Int):(wb x).map bv=[.int .u8 (IntKind.wrap .u8 (Int.fdiv x 16777216)),.int .u8 (IntKind.wrap .u8 (Int.fdiv x 65536)),.int .u8 (IntKind.wrap .u8 (Int.fdiv x 256)),.int .u8 (IntKind.wrap .u8 x)]:=by
 rw [h7_,h7_,h7_,h7_];rfl
def dgN (L:List Int):Nat→List UInt8
 | 0=>[]
 | i+1=>dgN L i++wb (L.getD i 0)
theorem hZ_ (L:List Int):∀i,(dgN L i).length=4*i
 | 0=>rfl
 | i+1=>by rw [dgN,List.length_append,hZ_ L i];simp [wb];omega
theorem q3_ (rest:List UInt8) (many:Int):(endL rest many).length=rest.length+1+padN (rest.length+1)+8:=by
 simp [endL,j7_];omega
theorem Chg.same {w w':World} {b:Nat} {o:Obj} (g:Chg (· = b) w w') (h:w.heap[b]? = some o) (h':w'.heap[b]? = some o):Grow w w':=
 ⟨g.os,g.tape,g.output,g.size,λk hk _=>by
  by_cases e:k=b
  ·subst e;rw [h,h']
  ·exact g.block k hk e⟩
theorem pU_ {k0 kb l cc:Nat} {c:Ch} {q:Option Addr} {rest:List UInt8} {many:Int} {w:World} (hb:w.heap[k0]? = some (.cells (stC0 c kb q l cc many) T.dJ_ (0,0))) (hk:KAt w kb) (hs:Sl w q (rest.map bv)) (hl:l=rest.length) (hn:l≤100000) {K:Value→World→Prop}
  (hK:∀w',Grow w w'→K (.string (str (dgN (pcs c (endL rest many) ((endL rest many).length / 64)).ls 8))) w'):aa_ PR F.hs_ ⟨[.pointer (some ⟨k0,0,none⟩)]⟩ w K:=by
 have hk0:=ak_ hb
 have hel:=q3_ rest many
 have hpad:padN (rest.length+1)<64:=Nat.mod_lt _ (by decide)
 have h0:Fs (· = k0) w [⟨k0,stC0 c kb q l cc many,T.dJ_,true⟩] w:=(Fr.init _ w).entry hb (λx h=>by cases h) λ_=>rfl
 refine jx_ k0 c.a c.b c.c c.d c.e c.f c.g c.h (some ⟨kb,0,none⟩) q l cc many (· = k0) K w h0 ⟨rfl,trivial⟩ ⟨λw0 hF0=>?_,λb24 hb24 w0 hF0=>?_⟩
 ·have g0:Grow w w0:=hF0.grow
  refine mZ_ (many:=many) (hs.grow g0) hl (by omega) λw1 q1 c1 g1 hs1 hc1=>?_
  have hF1:=hF0.reset.after g1
  refine ⟨_,_,_,rfl,hF1,?_,λb13 hb13 w8 hF8=>?_⟩
  ·refine eo_ (c:=c) (hk.grow (g0.trans g1)) (hs1) rfl hc1 (by omega) λw9 q9 n9 c9 g9 hs9 hn9 hq9=>?_
   have hF9:=hF1.after g9
   generalize pcs c (endL rest many) ((endL rest many).length / 64)=C at hK ⊢
   refine ⟨_,_,_,_,_,_,_,_,_,_,_,rfl,hF9,λb4 hb4 w3 hF3=>?_⟩
   refine ⟨λq l cc n m w'=>∃i:Nat,n=i∧i≤8∧m=8 - i∧Own T.uint8 1 w' q cc ((dgN C.ls i).map bv)∧l=(dgN C.ls i).length∧l≤cc∧Off (λj=>j<w.heap.size) q,⟨_,0,rfl,by omega,rfl,.nil _ _ _,rfl,Nat.le_refl _,λa h=>by cases h⟩,?_⟩
   rintro q2 l2 c2 n D m w4 ⟨i,rfl,hi,rfl,ho,rfl,hlc,of4⟩ hF4
   refine ⟨λhlt=>?_,λhge=>?_⟩
   ·have hi':i<8:=by omega
    refine ⟨by omega,by omega,C.ls.getD i 0,?_,λb5 hb5 w5 hF5=>?_⟩
    ·rw [show Int.toNat (i:Int)*1=i by omega];exact cd_ (L:=C.ls) (by show i<8;omega)
    ·have hsl:Sl w5 (some ⟨b5,0,none⟩) ((wb (C.ls.getD i 0)).map bv):=by rw [n1_];exact hF5.sl 1 rfl
     have hdl:=hZ_ C.ls i
     refine fC_ (ys:=wb (C.ls.getD i 0)) (ho.grow hF5.grow) (by simp) hlc hsl rfl (by rw [hdl];omega) λq5 c5 w6 ho6 hc6 g6 hq6=>?_
     have hF6:=hF5.app2 g6 w.heap.size w4.heap.size of4 (λa ha=>ho.lt a ha) (λx hx=>by simp at hx;rcases hx with rfl | rfl;exact .inl hk0;exact .inr hb5) (Nat.le_refl _)
     exact ⟨_,_,_,rfl,hF6,8 - (i+1),by omega,i+1,by rw [w64 (by omega) (by omega)];rfl,by omega,rfl,ho6,by rw [dgN,List.length_append];rfl,hc6,of4.next hq6 (by have:=hF5.chg.size;omega)⟩
   ·have:i=8:=by omega
    subst this
    refine cA_ <| fa_ cj_ n2_ u_u8 ho.sl rfl ?_
    exact ⟨_,rfl,hF4,hK w4 (hF4.chg.same hb (hF4.blk 0 rfl))⟩
  ·have g8:Grow w1 w8:=hF8.grow
   refine eo_ (c:=c) (hk.grow ((g0.trans g1).trans g8)) (hs1.grow g8) rfl hc1 (by omega) λw9 q9 n9 c9 g9 hs9 hn9 hq9=>?_
   have hF9:=hF8.reset.after g9
   generalize pcs c (endL rest many) ((endL rest many).length / 64)=C at hK ⊢
   refine ⟨_,_,_,_,_,_,_,_,_,_,_,rfl,hF9,λw3 hF3=>?_⟩
   refine ⟨λq l cc n m w'=>∃i:Nat,n=i∧i≤8∧m=8 - i∧Own T.uint8 1 w' q cc ((dgN C.ls i).map bv)∧l=(dgN C.ls i).length∧l≤cc∧Off (λj=>j<w.heap.size) q,⟨_,0,rfl,by omega,rfl,.nil _ _ _,rfl,Nat.le_refl _,λa h=>by cases h⟩,?_⟩
   rintro q2 l2 c2 n D m w4 ⟨i,rfl,hi,rfl,ho,rfl,hlc,of4⟩ hF4
   refine ⟨λhlt=>?_,λhge=>?_⟩
   ·have hi':i<8:=by omega
    refine ⟨by omega,by omega,C.ls.getD i 0,?_,λb5 hb5 w5 hF5=>?_⟩
    ·rw [show Int.toNat (i:Int)*1=i by omega];exact cd_ (L:=C.ls) (by show i<8;omega)
    ·have hsl:Sl w5 (some ⟨b5,0,none⟩) ((wb (C.ls.getD i 0)).map bv):=by rw [n1_];exact hF5.sl 1 rfl
     have hdl:=hZ_ C.ls i
     refine fC_ (ys:=wb (C.ls.getD i 0)) (ho.grow hF5.grow) (by simp) hlc hsl rfl (by rw [hdl];omega) λq5 c5 w6 ho6 hc6 g6 hq6=>?_
     have hF6:=hF5.app2 g6 w.heap.size w4.heap.size of4 (λa ha=>ho.lt a ha) (λx hx=>by simp at hx;rcases hx with rfl | rfl;exact .inl hk0;exact .inr hb5) (Nat.le_refl _)
     exact ⟨_,_,_,rfl,hF6,8 - (i+1),by omega,i+1,by rw [w64 (by omega) (by omega)];rfl,by omega,rfl,ho6,by rw [dgN,List.length_append];rfl,hc6,of4.next hq6 (by have:=hF5.chg.size;omega)⟩
   ·have:i=8:=by omega
    subst this
    refine cA_ <| fa_ cj_ n2_ u_u8 ho.sl rfl ?_
    exact ⟨_,rfl,hF4,hK w4 (hF4.chg.same hb (hF4.blk 0 rfl))⟩
 ·have g0:Grow w w0:=hF0.grow
  refine mZ_ (many:=many) (hs.grow g0) hl (by omega) λw1 q1 c1 g1 hs1 hc1=>?_
  have hF1:=hF0.reset.after g1
  refine ⟨_,_,_,rfl,hF1,?_⟩
  refine eo_ (c:=c) (hk.grow (g0.trans g1)) (hs1) rfl hc1 (by omega) λw9 q9 n9 c9 g9 hs9 hn9 hq9=>?_
  have hF9:=hF1.after g9
  generalize pcs c (endL rest many) ((endL rest many).length / 64)=C at hK ⊢
  refine ⟨_,_,_,_,_,_,_,_,_,_,_,rfl,hF9,λw3 hF3=>?_⟩
  refine ⟨λq l cc n m w'=>∃i:Nat,n=i∧i≤8∧m=8 - i∧Own T.uint8 1 w' q cc ((dgN C.ls i).map bv)∧l=(dgN C.ls i).length∧l≤cc∧Off (λj=>j<w.heap.size) q,⟨_,0,rfl,by omega,rfl,.nil _ _ _,rfl,Nat.le_refl _,λa h=>by cases h⟩,?_⟩
  rintro q2 l2 c2 n D m w4 ⟨i,rfl,hi,rfl,ho,rfl,hlc,of4⟩ hF4
  refine ⟨λhlt=>?_,λhge=>?_⟩
  ·have hi':i<8:=by omega
   refine ⟨by omega,by omega,C.ls.getD i 0,?_,λb5 hb5 w5 hF5=>?_⟩
   ·rw [show Int.toNat (i:Int)*1=i by omega];exact cd_ (L:=C.ls) (by show i<8;omega)
   ·have hsl:Sl w5 (some ⟨b5,0,none⟩) ((wb (C.ls.getD i 0)).map bv):=by rw [n1_];exact hF5.sl 1 rfl
    have hdl:=hZ_ C.ls i
    refine fC_ (ys:=wb (C.ls.getD i 0)) (ho.grow hF5.grow) (by simp) hlc hsl rfl (by rw [hdl];omega) λq5 c5 w6 ho6 hc6 g6 hq6=>?_
    have hF6:=hF5.app2 g6 w.heap.size w4.heap.size of4 (λa ha=>ho.lt a ha) (λx hx=>by simp at hx;rcases hx with rfl | rfl;exact .inl hk0;exact .inr hb5) (Nat.le_refl _)
    exact ⟨_,_,_,rfl,hF6,8 - (i+1),by omega,i+1,by rw [w64 (by omega) (by omega)];rfl,by omega,rfl,ho6,by rw [dgN,List.length_append];rfl,hc6,of4.next hq6 (by have:=hF5.chg.size;omega)⟩
  ·have:i=8:=by omega
   subst this
   refine cA_ <| fa_ cj_ n2_ u_u8 ho.sl rfl ?_
   exact ⟨_,rfl,hF4,hK w4 (hF4.chg.same hb (hF4.blk 0 rfl))⟩
end Go.Vc
namespace Go.Vc
open Go
def rH_:Ch:=⟨1779033703,3144134277,1013904242,2773480762,1359893119,2600822924,528734635,1541459225⟩
def shaL (f:List UInt8):List UInt8:=
 dgN (pcs (pcs rH_ f (f.length / 64)) (endL (f.drop (64*(f.length / 64))) f.length) ((endL (f.drop (64*(f.length / 64))) f.length).length / 64)).ls 8
theorem qH_ {w:World} {K:Value→World→Prop} (hK:∀w' b kb,Grow w w'→w.heap.size≤b→w'.heap[b]? = some (.cells (stC0 rH_ kb none 0 0 0) T.dJ_ (0,0))→KAt w' kb→kb≠b→K (.pointer (some ⟨b,0,none⟩)) w'):aa_ PR F.rT_ ⟨[]⟩ w K:=by
 refine qq_ S0 K w (s1_ λw1 kb g1 hkb hk=>⟨_,rfl,(Fr.init _ w).after g1,λb hb w2 hF2=>?_⟩)
 have hkl:=hk.lt
 exact hK w2 b kb hF2.gr (by have:=g1.size;omega) (hF2.blk 0 rfl) (hk.grow hF2.grow) (by omega)
theorem lR_:∃H:List UInt8→List UInt8,(∀l,(H l).length=32)∧∀(xs:List (List UInt8)) (q:Option Addr) (n c:Nat) (w:World) (K:Value→World→Prop),Sl w q (xs.map sv8')→n=xs.length→n≤1000→xs.flatten.length≤1099511627776→
  (∀w',Grow w w'→K (.string (str (H xs.flatten))) w')→aa_ PR F.os_ ⟨[.slice q n c]⟩ w K:=by
 refine ⟨shaL,λl=>hZ_ _ 8,λxs q n c w K hs hl hn hb hK=>?_⟩
 refine qp_ q n c S0 K w (qH_ λw1 b kb g1 hbw hbb hk hkb=>⟨_,rfl,(Fr.init _ w).after g1,?_⟩)
 have hoff:xs=[]∨Off (· = b) q:=by
  rcases hs with h | ⟨b',o,rfl,hr⟩
  ·exact .inl (by simpa using h)
  ·refine .inr λa ha e=>?_
   cases ha
   have:=hr.lt
   have e':b'=b:=e
   omega
 refine mq_ hbb hk hkb (hs.grow g1) hoff hl (by omega) hb λw2 q2 c2 g2 hb2 hs2=>?_
 have hF2:Fs S0 w [] w2:=((Fr.init _ w).after g1).step g2 (λx hx=>by cases hx) λk hk e=>by have e':k=b:=e;omega
 refine ⟨rfl,hF2,?_⟩
 refine pU_ hb2 (hk.keep g2 hkb) hs2 (by rw [List.length_drop]) (by omega) λw3 g3=>⟨_,rfl,hF2.after g3,hK w3 (hF2.after g3).chg⟩
end Go.Vc
namespace Go.Vc
open Go
noncomputable def Hs:List UInt8→List UInt8:=Classical.choose lR_
theorem ne_ (l:List UInt8):(Hs l).length=32:=(Classical.choose_spec lR_).1 l
theorem e__ {xs:List (List UInt8)} {q:Option Addr} {n c:Nat} {w:World} {K:Value→World→Prop} (hs:Sl w q (xs.map sv8')) (hn:n=xs.length) (hl:n≤1000) (hb:xs.flatten.length≤1099511627776)
  (hK:∀w',Grow w w'→K (.string (str (Hs xs.flatten))) w'):aa_ PR F.os_ ⟨[.slice q n c]⟩ w K:=(Classical.choose_spec lR_).2 xs q n c w K hs hn hl hb hK
noncomputable def bi_ (s:List UInt8):List UInt8:=Hs (0 :: s)
noncomputable def cf_ (a b:List UInt8):List UInt8:=Hs (1 :: (a++b))
theorem p5_ {s:List UInt8} (hs:s.length≤1000000) {w:World} {K:Value→World→Prop} (hK:∀w',Grow w w'→K (.string (str (bi_ s))) w'):aa_ PR F.eW_ ⟨[.string (str s)]⟩ w K:=by
 refine eW_ (str s) S0 K w λb hb w0 hF0=>?_
 have e:([[0],s]:List (List UInt8)).flatten=0 :: s:=by simp
 refine e__ (xs:=[[0],s]) (hF0.sl 0 rfl) rfl (by omega) (by rw [e];simp;omega) λw1 g1=>⟨_,rfl,hF0.after g1,?_⟩
 rw [e];exact hK w1 (hF0.after g1).chg
theorem pY_ {a b:List UInt8} (ha:a.length=32) (hb:b.length=32) {w:World} {K:Value→World→Prop} (hK:∀w',Grow w w'→K (.string (str (cf_ a b))) w'):aa_ PR F.eV_ ⟨[.string (str a),.string (str b)]⟩ w K:=by
 refine eV_ (str a) (str b) S0 K w λx hx w0 hF0=>?_
 have e:([[1],a,b]:List (List UInt8)).flatten=1 :: (a++b):=by simp
 refine e__ (xs:=[[1],a,b]) (hF0.sl 0 rfl) rfl (by omega) (by rw [e];simp;omega) λw1 g1=>⟨_,rfl,hF0.after g1,?_⟩
 rw [e];exact hK w1 (hF0.after g1).chg
theorem nF_ {x:Nat} (h:x≠0) (h2:x<2 ^ 64):Lib.bitLen x=Nat.log2 x+1:=by
 induction x using Nat.strongRecOn with
 | _ x ih=>
  rw [Lib.bitLen_half x h h2]
  by_cases h1:x / 2=0
  ·have:x=1:=by omega
   subst this
   decide
  ·rw [ih (x / 2) (by omega) h1 (by omega),Nat.log2_def x,if_pos (by omega)]
   omega
theorem iN_ {n:Nat} (h2:2≤n) (hn:n≤1048576) {w:World} {K:Value→World→Prop} (hK:K (.int .i64 (aw_ n)) w):aa_ PR F.dT_ ⟨[.int .i64 (n:Int)]⟩ w K:=by
 refine dT_ n S0 K w ?_
 have e1:IntKind.wrap .u64 (IntKind.wrap .i64 ((n:Int) - 1))=((n - 1:Nat):Int):=by
  rw [w64 (by omega) (by omega),IntKind.wrap_u64];omega
 rw [e1]
 have hlog:=Nat.log2_lt (n:=n - 1) (k:=20) (by omega)
 have hl20:Nat.log2 (n - 1)<20∨n - 1=1048576 - 1+0∨True:=.inr (.inr trivial)
 have hlt:Nat.log2 (n - 1)<21:=by
  rcases Nat.lt_or_ge (Nat.log2 (n - 1)) 21 with h | h
  ·exact h
  ·have:=Nat.log2_self_le (n:=n - 1) (by omega)
   have h3:2 ^ 21≤2 ^ Nat.log2 (n - 1):=Nat.pow_le_pow_right (by omega) h
   omega
 refine lj_ (by omega) (by omega) ⟨_,rfl,.init _ w,?_⟩
 rw [Int.toNat_natCast,nF_ (by omega) (by omega),w64 (by omega) (by omega)]
 refine ⟨by omega,?_⟩
 have e2:Int.toNat (((Nat.log2 (n - 1)+1:Nat):Int) - 1)=Nat.log2 (n - 1):=by omega
 have e3:((1:Int)*2 ^ min (Nat.log2 (n - 1)) 64)=((aw_ n:Nat):Int):=by
  rw [Nat.min_eq_left (by omega)];unfold aw_;simp
 rw [e2,e3]
 have:=gZ_ h2
 rw [w64 (by omega) (by omega)]
 exact hK
def oS_ (leaves:List (List UInt8)) (R:Value→Value→Prop):Prop:=∀key v,R key v→∃a k:Nat,key=.agg #[.int .i64 a,.int .i64 k]∧1≤k∧a+k≤leaves.length∧v=.string (str (bF_ cf_ leaves k a k))
def dh_ (w:World) (b:Nat) (q:Option Addr) (c m:Nat) (leaves:List (List UInt8)) (R:Value→Value→Prop):Prop:=
 w.heap[b]? = some (.cells #[.slice q leaves.length c,.map (some m)] T.cs_ (0,0))∧Sl w q (leaves.map sv8')∧(∃n,MapP w T.ao_ m n R)∧oS_ leaves R
theorem dh_.grow {w w':World} {b:Nat} {q:Option Addr} {c m:Nat} {leaves:List (List UInt8)} {R:Value→Value→Prop} (h:dh_ w b q c m leaves R) (g:Grow w w'):dh_ w' b q c m leaves R:=by
 obtain ⟨h1,h2,⟨n,h3⟩,h4⟩:=h
 exact ⟨Grow.get g h1,h2.grow g,⟨n,h3.grow g⟩,h4⟩
theorem hD_ {w:World} {b m:Nat} {cs:Array Value} {T:TypeId} {fz:Nat × Nat} {k:TypeId} {n:Nat} {R:Value→Value→Prop} (hb:w.heap[b]? = some (.cells cs T fz)) (hm:MapP w k m n R):b≠m:=by
 rintro rfl
 obtain ⟨es,clock,h,_⟩:=hm
 rw [hb] at h;cases h
theorem slNe {w:World} {q:Option Addr} {xs:List Value} {k:TypeId} {m n:Nat} {R:Value→Value→Prop} (hs:Sl w q xs) (hm:MapP w k m n R):xs=[]∨Off (· = m) q:=by
 rcases hs with h | ⟨b,o,rfl,cs,T,fz,h1,h2⟩
 ·exact .inl h
 ·refine .inr λa ha e=>?_
  cases ha
  exact hD_ h1 hm e
inductive cC_ (R:Value→Value→Prop):Nat→Nat→Prop where
 | leaf (a:Nat) (v:Value) (h:R (.agg #[.int .i64 (a:Nat),.int .i64 (1:Nat)]) v):cC_ R a 1
 | node (a n:Nat) (v:Value) (hn:2≤n) (h:R (.agg #[.int .i64 (a:Nat),.int .i64 (n:Nat)]) v) (h1:cC_ R a (aw_ n)) (h2:cC_ R (a+aw_ n) (n - aw_ n)):cC_ R a n
theorem cC_.mono {R R':Value→Value→Prop} {a n:Nat} (h:cC_ R a n) (hR:∀x y,R x y→∃z,R' x z):cC_ R' a n:=by
 induction h with
 | leaf a v h=>obtain ⟨z,hz⟩:=hR _ _ h;exact .leaf a z hz
 | node a n v hn h _ _ i1 i2=>obtain ⟨z,hz⟩:=hR _ _ h;exact .node a n z hn hz i1 i2
theorem pl_ {leaves:List (List UInt8)} (hl:∀x∈leaves,x.length=32) (hn:leaves.length≤100000):∀(k a:Nat),1≤k→a+k≤leaves.length→∀ {w:World} {b:Nat} {q:Option Addr} {c m:Nat} {R:Value→Value→Prop},dh_ w b q c m leaves R→∀ {K:Value→World→Prop},
  (∀w' R',dh_ w' b q c m leaves R'→(∀x y,R x y→∃z,R' x z)→R' (.agg #[.int .i64 a,.int .i64 k]) (.string (str (bF_ cf_ leaves k a k)))→cC_ R' a k→Chg (· = m) w w'→K (.string (str (bF_ cf_ leaves k a k))) w')→
  aa_ PR F.fk_ ⟨[.pointer (some ⟨b,0,none⟩),.agg #[.int .i64 a,.int .i64 k]]⟩ w K:=by
 intro k
 induction k using Nat.strongRecOn with
 | _ k ih=>
  intro a hk1 hak w b q c m R hT K hK
  obtain ⟨h1,h2,⟨n,h3⟩,h4⟩:=hT
  have hbm:=hD_ h1 h3
  have hqm:=slNe h2 h3
  obtain ⟨kl,hkl⟩:=jX_ (a:=a) (k:=k) ⟨by omega,by omega⟩ ⟨by omega,by omega⟩
  have note:∀(w1:World) (R1:Value→Value→Prop) (d:List UInt8),d=bF_ cf_ leaves k a k→dh_ w1 b q c m leaves R1→(∀x y,R x y→∃z,R1 x z)→(k=1∨2≤k∧cC_ R1 a (aw_ k)∧cC_ R1 (a+aw_ k) (k - aw_ k))→Chg (· = m) w w1→
    ∀K':World→Prop,(∀w',Chg (· = m) w1 w'→K (.string (str d)) w'→K' w')→rn PR (Instr.mapUpdate T.a6_ (.map (some m)) (.agg #[.int .i64 a,.int .i64 k]) (.string (str d))) (λ_ w3=>K' w3) w1:=by
   rintro w1 R1 d rfl ⟨t1,t2,⟨n1,t3⟩,t4⟩ hR hA g K' hK'
   have hup:∀ {R2:Value→Value→Prop},(∀x y,R2 x y→∃z,updR R2 (.agg #[.int .i64 a,.int .i64 k]) (.string (str (bF_ cf_ leaves k a k))) x z):=λ{R2} x y hxy=>by
    by_cases e:x=.agg #[.int .i64 a,.int .i64 k]
    ·exact ⟨_,.inl ⟨e,rfl⟩⟩
    ·exact ⟨y,.inr ⟨e,hxy⟩⟩
   have hall:cC_ (updR R1 (.agg #[.int .i64 a,.int .i64 k]) (.string (str (bF_ cf_ leaves k a k)))) a k:=by
    rcases hA with h1 | ⟨h2,ha,hb⟩
    ·subst h1
     exact .leaf a _ (.inl ⟨rfl,rfl⟩)
    ·exact .node a k _ h2 (.inl ⟨rfl,rfl⟩) (ha.mono hup) (hb.mono hup)
   refine km_ o6_ rJ_ t3 hkl λw' hm' g' _=>hK' w' g' (hK w' _ ⟨g'.get t1 hbm,?_,⟨_,hm'⟩,?_⟩ ?_ (.inl ⟨rfl,rfl⟩) hall (g.trans g' λ_ _ e=>e))
   ·rcases hqm with h | h
    ·exact .inl h
    ·exact t2.keep g' h
   ·rintro key v (⟨rfl,rfl⟩ | ⟨_,hr⟩)
    ·exact ⟨a,k,rfl,hk1,hak,rfl⟩
    ·exact t4 key v hr
   ·intro x y hxy
    by_cases e:x=.agg #[.int .i64 a,.int .i64 k]
    ·exact ⟨_,.inl ⟨e,rfl⟩⟩
    ·obtain ⟨z,hz⟩:=hR x y hxy
     exact ⟨z,.inr ⟨e,hz⟩⟩
  have hS:∀ {w':World},Chg (· = m) w w'→Chg (λj=>j=b∨j=m) w w':=λg=>g.mono λ_ _ e=>.inr e
  refine gK_ b q leaves.length c (some m) a k (λj=>j=b∨j=m) K w ((Fr.init _ w).entry h1 (λx h=>by cases h) λ_=>.inl rfl) ⟨.inl rfl,trivial⟩ λb0 hb0=>⟨λh=>?_,λh w4 hF4=>?_⟩
  ·intro w0 hF0
   have hk:k=1:=by omega
   subst hk
   have g0:Grow w w0:=hF0.grow
   have ha:a<leaves.length:=by omega
   refine ⟨(· = w0),rfl,?_⟩
   refine (h2.grow g0).rd (v:=sv8' leaves[a]) (by simp) (by omega) (by simp [ha]) λx hx=>⟨_,λw1 e=>e ▸ hx,λw2 hF2=>⟨λ_=>True,trivial,?_⟩⟩
   have g2:Grow w0 w2:=hF2.grow
   have hT2:dh_ w2 b q c m leaves R:=dh_.grow ⟨h1,h2,⟨n,h3⟩,h4⟩ (g0.trans g2)
   have e1:leaves[a]=bF_ cf_ leaves 1 a 1:=by
    unfold bF_;rw [if_pos rfl];simp [List.getD,ha]
   refine note w2 R _ e1 hT2 (λx y h=>⟨y,h⟩) (.inl rfl) (g0.trans g2).chg _ λw' g' hk=>⟨hF2.step g' (λx hx=>?_) (λ_ _ e=>.inr e),hk⟩
   rcases List.mem_cons.1 hx with rfl | hx
   ·exact hbm
   ·simp at hx;subst hx;simp only [];have:=h3.lt;omega
  ·have hk2:2≤k:=by omega
   have hh:=gZ_ hk2
   have hmlt:=h3.lt
   have g4:Grow w w4:=hF4.grow
   refine iN_ hk2 (by omega) ⟨_,rfl,hF4.reset,λw6 hF6=>⟨λ_=>True,trivial,?_⟩⟩
   have g6:Grow w4 w6:=hF6.grow
   have hT6:dh_ w6 b q c m leaves R:=dh_.grow ⟨h1,h2,⟨n,h3⟩,h4⟩ (g4.trans g6)
   have hfr:∀ {w1 w2:World},Fs (λj=>j=b∨j=m) w [⟨b,#[.slice q leaves.length c,.map (some m)],T.cs_,true⟩,⟨b0,#[.int .i64 a,.int .i64 k],T.ao_,true⟩] w1→Chg (· = m) w1 w2→Fs (λj=>j=b∨j=m) w [⟨b,#[.slice q leaves.length c,.map (some m)],T.cs_,true⟩,⟨b0,#[.int .i64 a,.int .i64 k],T.ao_,true⟩] w2:=λhF g=>hF.step g (λx hx=>by
    rcases List.mem_cons.1 hx with rfl | hx
    ·exact hbm
    ·simp at hx;subst hx;simp only [];omega) (λ_ _ e=>.inr e)
   refine ih (aw_ k) (by omega) a hh.1 (by omega) hT6 λw7 R7 hT7 hR7 hin7 ha7 g7=>⟨_,rfl,_,_,_,_,hfr hF6.reset g7,trivial,?_⟩
   have hF7:=hfr hF6.reset g7
   have ea:IntKind.wrap .i64 ((a:Int)+(aw_ k:Nat))=((a+aw_ k:Nat):Int):=by rw [w64 (by omega) (by omega)];omega
   have ek:IntKind.wrap .i64 ((k:Int) - (aw_ k:Nat))=((k - aw_ k:Nat):Int):=by rw [w64 (by omega) (by omega)];omega
   rw [ea,ek]
   refine ih (k - aw_ k) (by omega) (a+aw_ k) (by omega) (by omega) hT7 λw8 R8 hT8 hR8 hin8 ha8 g8=>⟨_,rfl,_,_,_,_,hfr hF7 g8,trivial,?_⟩
   have hF8:=hfr hF7 g8
   refine pY_ (g9_ ne_ leaves hl _ _ _ hh.1 (Nat.le_refl _) (by omega)) (g9_ ne_ leaves hl _ _ _ (by omega) (Nat.le_refl _) (by omega)) λw9 g9=>⟨_,rfl,hF8.after g9,trivial,λw10 hF10=>⟨λ_=>True,trivial,?_⟩⟩
   have g10:Grow w9 w10:=hF10.grow
   have e1:cf_ (bF_ cf_ leaves (aw_ k) a (aw_ k)) (bF_ cf_ leaves (k - aw_ k) (a+aw_ k) (k - aw_ k))=bF_ cf_ leaves k a k:=by
    obtain ⟨f,rfl⟩:∃f,k=f+1:=⟨k - 1,by omega⟩
    conv=>rhs;unfold bF_
    rw [if_neg (by omega),ec_ cf_ leaves f (aw_ (f+1)) a _ hh.1 (by omega) (Nat.le_refl _),ec_ cf_ leaves f (f+1 - aw_ (f+1)) _ _ (by omega) (by omega) (Nat.le_refl _)]
   refine note w10 R8 _ e1 ((hT8.grow g9).grow g10) (λx y h=>by obtain ⟨z,hz⟩:=hR7 x y h;exact hR8 x z hz) (.inr ⟨hk2,ha7.mono hR8,ha8⟩) ?_ _ λw' g' hk=>⟨hfr hF10.reset g',hk⟩
   exact (((((g4.trans g6).then g7).trans g8 λ_ _ e=>e).grow g9).grow g10)
end Go.Vc
namespace Go.Vc
open Go
theorem dU_ (k0:Nat) (m1:Int) (m2:Int) (m3:Int) (y4:Option Addr) (ly4:Nat) (cy4:Nat) (m5:Int) (z6:ByteArray) (y7:Option Addr) (ly7:Nat) (cy7:Nat) (S:SP) (K:KP) (w:World) (hF:Fs S w [⟨k0,#[.int .i64 m1,.int .i64 m2,.int .i64 m3,.slice y4 ly4 cy4,.int .i64 m5,.string z6,.slice y7 ly7 cy7],114,false⟩] w) (h:aa_ PR 152 #[.slice y7 ly7 cy7] w λv0 w0=>∃q0,v0=.pointer q0∧Fs S w [⟨k0,#[Iv m1,Iv m2,Iv m3,.slice y4 ly4 cy4,Iv m5,.string z6,.slice y7 ly7 cy7],114,false⟩] w0∧K (.pointer q0) w0):aa_ PR 106 ⟨[.pointer (some ⟨k0,0,none⟩)]⟩ w K:=
 ab_ (okf:=⟨okL,[]⟩) ah_ (args:=[.c (.p 0 k0 true 0)]) (H:=[⟨k0,.l [.v (.int .i64 m1),.v (.int .i64 m2),.v (.int .i64 m3),.v (.slice y4 ly4 cy4),.v (.int .i64 m5),.v (.string z6),.v (.slice y7 ly7 cy7)],114,false⟩]) (.s .z (.s .z (.s (.r ⟨(some [0]),false,[],[]⟩) .z))) Go.Proofs.Tryz.func106 rfl ⟨rfl,trivial⟩ ⟨⟨trivial,⟨trivial,⟨trivial,⟨trivial,⟨trivial,⟨trivial,⟨trivial,trivial⟩⟩⟩⟩⟩⟩⟩,trivial⟩ hF trivial (ad_ (by kernel_rfl) h)
theorem ij_ (m0:Int) (p1:Option Addr) (p2:Option Addr) (k3:Nat) (p4:Option Addr) (S:SP) (K:KP) (w:World) (hF:Fs S w [⟨k3,#[.pointer p4],30,false⟩] w) (h:∀l0,w.heap.size≤l0→Dr p4 λa0=>Dr (some a0) λa1=>∀w0,Fr S w w [] [⟨k3,#[.pointer p4],30,false⟩,⟨l0,#[.pointer p1,.pointer p2],151,true⟩] w0→Dr (some (Addr.add a1 2)) λa2=>∃n0,World.cell? w0 a2=some (Iv n0)∧(m0≤IntKind.wrap .i64 (n0 - 3)→Dr p4 λa3=>Dr (some a3) λa4=>Dr (some (Addr.add a4 3)) λa5=>∃n1,World.cell? w0 a5=some (Iv n1)∧(m0=n1→K (.bool false) w0)∧(¬(m0=n1)→K (.bool true) w0))∧(¬(m0≤IntKind.wrap .i64 (n0 - 3))→K (.bool false) w0)):aa_ PR 160 ⟨[.int .i64 m0,.agg #[.pointer p1,.pointer p2],.pointer (some ⟨k3,0,none⟩)]⟩ w K:=
 ab_ (okf:=⟨okL,[]⟩) ah_ (args:=[.c (.v (.int .i64 m0)),.a [.v (.pointer p1),.v (.pointer p2)],.c (.p 0 k3 true 0)]) (H:=[⟨k3,.l [.v (.pointer p4)],30,false⟩]) (.s (.r ⟨(some [2]),false,[],[]⟩) .z) Go.Proofs.Tryz.func160 rfl ⟨trivial,⟨trivial,trivial,trivial⟩,rfl,trivial⟩ ⟨⟨trivial,trivial⟩,trivial⟩ hF trivial (ad_ (by kernel_rfl) h)
theorem aB_ (g0:Option Nat) (k1:Nat) (p2:Option Addr) (S:SP) (K:KP) (w:World) (hF:Fs S w [⟨k1,#[.pointer p2],30,false⟩] w) (h:rn PR (Instr.range 97 (.map g0)) (λv0 w0=>Fs S w [⟨k1,#[.pointer p2],30,false⟩] w0∧let B0:Blk:=⟨k1,#[.pointer p2],30,false⟩;∃I0:Nat→World→Prop,(∃l0,I0 l0 w0)∧∀D0:Nat→Value,∀l1 w1,I0 l1 w1→Fs S w [B0] w1→rn PR (Instr.next v0 false 0) (λv1 w2=>(v1=.tuple #[.bool false]∧Fs S w [B0] w2∧K (.tuple #[]) w2)∨∃v2 v3,v1=.tuple #[.bool true,v2,v3]∧Fs S w [B0] w2∧rn PR (Instr.entry v0) (λv4 w3=>∃v5 v6,v4=.tuple #[v5,v6]∧Fs S w [B0] w3∧∃n0,v5=Iv n0∧∃q0 q1,v6=.agg #[.pointer q0,.pointer q1]∧∀l2,w3.heap.size≤l2→∀w4,Fr S w w3 [l2] [B0,⟨l2,#[.pointer q0,.pointer q1],151,true⟩] w4→aa_ PR 160 #[Iv n0,.agg #[.pointer q0,.pointer q1],.pointer (some (⟨k1,0,none⟩))] w4 λv7 w5=>∃b0,v7=.bool b0∧(b0=true→Fs S w [B0,⟨l2,#[.pointer q0,.pointer q1],151,true⟩] w5∧rn PR (Builtin.delete_ #[97,3] 0 #[.map g0,Iv n0]) (λv8 w6=>v8=.tuple #[]∧Fs S w [B0] w6∧∃l3,l3<l1∧I0 l3 w6) w5)∧(b0=false→Fs S w [B0,⟨l2,#[.pointer q0,.pointer q1],151,true⟩] w5∧∃l4,l4<l1∧I0 l4 w5)) w2) w1) w):aa_ PR 159 ⟨[.map g0,.func (.func 160) #[] #[.pointer (some ⟨k1,0,none⟩)]]⟩ w K:=
 ab_ (okf:=⟨okL,[12,11]⟩) ah_ (args:=[.c (.v (.map g0)),.c (.v (.func (.func 160) #[] #[.pointer (some ⟨k1,0,none⟩)]))]) (H:=[⟨k1,.l [.v (.pointer p2)],30,false⟩]) (.s (.r ⟨(some []),false,[],[]⟩) (.b (.l (some []) (some []) [] [] (.s (.r ⟨(some []),false,[],[]⟩) (.s .z (.b (.s (.r ⟨(some []),false,[],[]⟩) (.s (.r ⟨(some [5]),false,[],[]⟩) (.c (.r ⟨(some []),false,[],[]⟩) .z))))))))) Go.Proofs.Tryz.func159 rfl ⟨trivial,trivial,trivial⟩ ⟨⟨trivial,trivial⟩,trivial⟩ hF trivial (ad_ (by kernel_rfl) h)
end Go.Vc
