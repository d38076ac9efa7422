/-
  A part of the proof of the statement HeadAgainCardSaid, in Lean: RoE, Ms1, Fx1, Fx0, Fx3, MirP15, Rd1, Rd2, MirM1, Ms2, Ms3. By an AI agent.
-/
import Derived.Test.YtoopcoeonbkedaaGreatDoorP10
import Derived.Test.YtoopcoeonbkedaaGreatDoorCards
import Derived.Test.YtoopcoeonbkedaaGreatDoorTie
import Derived.LaidSub
import Derived.LaidLaws
import Derived.LaidHandle
import Derived.Stop.LaidErr
import Derived.Deep.DeepHandedRow
import Derived.Deep.DeepWitnessRowRef
import Derived.Lib.LaidTab
import Derived.Lib.LaidIn
import Derived.Test.YtoopcoeonbkedaaGreatDoorP07
import Derived.Test.YtoopcoeonbkedaaGreatDoorP06
import Derived.Test.YtoopcoeonbkedaaGreatDoorP09
import Derived.Test.YtoopcoeonbkedaaGreatDoorP02
set_option linter.unusedSimpArgs false
set_option linter.unusedVariables false
set_option maxRecDepth 1000000
namespace Go.Vc
open Go Go.ChangeShapes Go.WideShapes Go.ChangeAt Go.RowKit Go.Deep Go.Proofs Go.Proofs.YtoopcoeonbkedaaGreatDoor
theorem gErr:PR.globalNamed "errors.errorType" = some 0:=by kernel_rfl
theorem rtN:(PR.cutTypes.find? (·.1 == "internal/reflectlite.rtype")).map (·.2)=some T.di_:=by kernel_rfl
theorem uu_:PR.types.size=373:=by kernel_rfl
theorem tY_:((List.range 373).filter λt=>PR.rowNamed t [101,114,114,111,114])=[T.error]:=by kernel_rfl
theorem tg_ {W:World} (h:laidMetH PR [("errors.errorType", Rows.laid_errors_errorType)] W):ErrT W:=by
 obtain ⟨_,h2⟩:=laidMetH_iff.1 h
 obtain ⟨name,u,ty,e1,e2,e3,e4,e5⟩:=h2 ("errors.errorType", Rows.laid_errors_errorType) (by
  refine List.mem_filter.2 ⟨?_,rfl⟩
  exact .head _)
 have en:name=[101,114,114,111,114]:=(Option.some.inj e1).symm
 subst en
 obtain rfl:=Option.some.inj (rtN.symm.trans e2)
 have hm:ty∈(List.range 373).filter λt=>PR.rowNamed t [101,114,114,111,114]:=List.mem_filter.2 ⟨List.mem_range.2 (by rw [← uu_];exact e3),e4⟩
 rw [tY_] at hm
 obtain rfl:=List.mem_singleton.1 hm
 have hh:typeHandle PR T.error=.pointer (some ⟨2,T.error,none⟩):=by kernel_rfl
 rw [hh] at e5
 have:=World.var?_cell gErr e5 0
 unfold ErrT
 simpa using this
noncomputable def h9_ (os:Os):World:=
 let w0:=World.holding Tryz.prog os ⟨#[],#[],[]⟩
 let put (h:Array Obj) (g:Nat) (cs:Array Value):Array Obj:=h.modify g fun
  | .cells _ t frozen=>.cells cs t frozen
  | o=>o
 { w0 with heap:=put w0.heap 0 #[.iface T.di_ (.agg #[.pointer (some ⟨2,T.error,none⟩)])] }
theorem rV_ (os:Os) (args:Array Value):laidMetH Tryz.prog [("errors.errorType", Rows.laid_errors_errorType)] ((h9_ os).forCall (λ_ _=>0) ⟨#[],args,[]⟩).memory:=
 laidMetH_of_parts (LaidIn.of_run (l:=[("errors.errorType", Rows.laid_errors_errorType)].filter λx=>x.2.handleName?.isNone) [] 8 (by kernel_rfl) (by kernel_rfl) (by kernel_rfl) (by kernel_rfl)).met (by kernel_rfl)
end Go.Vc
namespace Go.Vc
open Go
theorem gN_:∀(l:List UInt8) (i x y k:Nat),i≤7→x<128 ^ i→aF_ i x l=.inl (y,k)→y<72057594037927936∧k≤i+l.length
 | [],i,x,y,k,_,_,h=>by simp [aF_] at h
 | c :: r,i,x,y,k,hi,hx,h=>by
  have hm:c.toNat%128<128:=Nat.mod_lt _ (by decide)
  have hp:x+c.toNat%128*128 ^ i<128 ^ (i+1):=by
   have h1:c.toNat%128*128 ^ i≤127*128 ^ i:=Nat.mul_le_mul_right _ (by omega)
   rw [Nat.pow_succ];omega
  unfold aF_ at h
  split at h
  ·split at h
   ·cases h
   ·have:=gN_ r (i+1) _ y k (by omega) hp h
    rw [List.length_cons];omega
  ·split at h
   ·cases h
   ·cases h
    have:(128:Nat) ^ (i+1)≤128 ^ 8:=Nat.pow_le_pow_right (by decide) (by omega)
    have e:(128:Nat) ^ 8=72057594037927936:=by decide
    rw [List.length_cons];omega
theorem if_:∀(l:List UInt8) (i x c:Nat),aF_ i x l=.inr c→c=3∨c=4
 | [],i,x,c,h=>by simp [aF_] at h;omega
 | b :: r,i,x,c,h=>by
  unfold aF_ at h
  split at h
  ·split at h
   ·cases h;exact .inr rfl
   ·exact if_ r _ _ _ h
  ·split at h
   ·cases h;exact .inr rfl
   ·cases h
def shL (l:List UInt8) (a:Nat):(Nat × Nat) ⊕ Nat:=match aF_ 0 0 (l.drop a) with
 | .inl (x,k)=>.inl (x,a+k)
 | .inr c=>.inr c
def txL (l:List UInt8) (a:Nat):(List UInt8 × Nat) ⊕ Nat:=match shL l a with
 | .inr c=>.inr c
 | .inl (n,b)=>if n>l.length - b then .inr 3 else .inl ((l.drop b).take n,b+n)
theorem pt_ {l:List UInt8} {a x b:Nat} (ha:a≤l.length) (h:shL l a=.inl (x,b)):x<72057594037927936∧b≤l.length:=by
 unfold shL at h
 split at h
 ·rename_i y k hg
  cases h
  have:=gN_ _ 0 0 _ _ (by decide) (by decide) hg
  rw [List.length_drop] at this
  omega
 ·cases h
theorem tG_ {l t:List UInt8} {a b:Nat} (ha:a≤l.length) (h:txL l a=.inl (t,b)):b≤l.length:=by
 unfold txL at h
 split at h
 ·cases h
 ·rename_i n c hg
  have:=pt_ ha hg
  split at h
  ·cases h
  ·cases h;omega
abbrev RS:=Nat × Option Nat
def rsS (l:List UInt8) (s:RS):Nat × RS:=match s.2 with
 | some c=>(0,s)
 | none=>match shL l s.1 with
  | .inl (x,b)=>(x,(b,none))
  | .inr c=>(0,(s.1,some c))
def rsT (l:List UInt8) (s:RS):List UInt8 × RS:=match s.2 with
 | some c=>([],s)
 | none=>match txL l s.1 with
  | .inl (t,b)=>(t,(b,none))
  | .inr c=>([],(s.1,some c))
theorem nE_ {l:List UInt8} {s:RS} (h:s.1≤l.length):(rsS l s).1<72057594037927936∧(rsS l s).2.1≤l.length:=by
 unfold rsS
 split
 ·exact ⟨by simp,h⟩
 ·split
  ·rename_i hg;exact pt_ h hg
  ·exact ⟨by simp,h⟩
theorem sw_ {l:List UInt8} {s:RS} (h:s.1≤l.length):(rsT l s).2.1≤l.length:=by
 unfold rsT
 split
 ·exact h
 ·split
  ·rename_i hg;exact tG_ h hg
  ·exact h
def rsTs (l:List UInt8):Nat→RS→List (List UInt8) × RS
 | 0,s=>([],s)
 | k+1,s=>((rsTs l k s).1++[(rsT l (rsTs l k s).2).1],(rsT l (rsTs l k s).2).2)
theorem nD_ (l:List UInt8):∀(k:Nat) (s:RS),(rsTs l k s).1.length=k
 | 0,s=>rfl
 | k+1,s=>by simp [rsTs,nD_ l k s]
theorem pz_ {l:List UInt8} : ∀(k:Nat) {s:RS},s.1≤l.length→(rsTs l k s).2.1≤l.length
 | 0,s,h=>h
 | k+1,s,h=>sw_ (pz_ k h)
structure MsgL where
 kind:Int
 ver:Int
 i:Int
 text:List UInt8
 proof:List (List UInt8)
def jr_ (k v i:Int) (t n:Nat):Bool:=
 if k=1 then decide (v=0∧i=0∧n=0) else
 if k=3 then decide (v≠0∧t≤64) else
 if k=2∨k=4 then decide (v≠0∧t=0∧n=0) else
 if k=10 then decide (t=0∧n=0) else
 if k=5∨k=6∨k=7∨k=8∨k=9 then decide (v≠0∧i=0∧t=0∧n=0) else
 if k=11 then decide (i=0∧t=0∧n=0) else false
def e6_ (m:MsgL):Prop:=(0≤m.ver∧m.ver≤1099511627776)∧(0≤m.i∧m.i≤1099511627776)∧m.text.length≤5000∧m.proof.length≤20∧(∀p∈m.proof,p.length=32)∧jr_ m.kind m.ver m.i m.text.length m.proof.length=true
def pZ_ (l:List UInt8):Nat:=
 if l.length<6 then 3 else
 if fixed ((l.drop 4).take 2)>60000 then 6 else
 if fixed ((l.drop 4).take 2)>l.length - 6 then 3 else 5
def h1_ (S:List UInt8→Nat) (l:List UInt8):List UInt8 ⊕ Nat:=match d9_ S l with
 | none=>.inr (pZ_ l)
 | some (t,n)=>if n<l.length then .inr 4 else .inl t
def rs0 (l:List UInt8):RS:=if l=[] then (0,some 3) else (1,none)
def lF_ (l:List UInt8):Int:=((l.headD 0).toNat:Int)
open Classical in
noncomputable def mW_ (l:List UInt8):MsgL ⊕ Nat:=
 let v:=rsS l (rs0 l)
 let i:=rsS l v.2
 let t:=rsT l i.2
 let n:=rsS l t.2
 if n.1>20 then .inr 4 else
 let p:=rsTs l n.1 n.2
 match p.2.2 with
 | some c=>.inr c
 | none=>if p.2.1<l.length then .inr 4 else
  if e6_ ⟨lF_ l,v.1,i.1,t.1,p.1⟩ then .inl ⟨lF_ l,v.1,i.1,t.1,p.1⟩ else .inr 4
noncomputable def eM_ (S:List UInt8→Nat) (l:List UInt8):MsgL ⊕ Nat:=match h1_ S l with
 | .inr c=>.inr c
 | .inl t=>mW_ t
def a3_ (m:MsgL):List UInt8:=[UInt8.ofNat m.kind.toNat]++ac_ m.ver.toNat++ac_ m.i.toNat++(ac_ m.text.length++m.text)++ac_ m.proof.length++m.proof.flatMap λp=>ac_ p.length++p
end Go.Vc
namespace Go.Vc
open Go
theorem gD_ {s:ByteArray} {at_:Int} {k:Nat} (hk:1≤k∧k≤6) (ha:0≤at_) (hb:at_+k≤s.size) (hs:s.size≤4611686018427387904) {w:World} {K:Value→World→Prop}
  (hK:K (.tuple #[.int .i64 (fixed ((s.data.toList.drop at_.toNat).take k)),.int .i64 (at_+k),.nilIface]) w):aa_ PR F.cG_ ⟨[.string s,.int .i64 at_,.int .i64 (k:Int)]⟩ w K:=by
 have h0:Fs S0 w [] w:=Fr.init _ w
 refine cG_ s at_ k S0 K w (f0_ (λ_=>⟨true,rfl,(λ_=>⟨h0,λh=>by omega,λ_=>⟨λh=>by omega,λ_=>⟨λh=>?_,λ_=>?_⟩⟩⟩),λh=>by cases h⟩) λh=>absurd ⟨ha,by omega⟩ h)
 ·rw [w64 (by omega) (by omega)] at h;omega
 ·refine ⟨λn0 n1 m w'=>∃j:Nat,n1=j∧j≤k∧m=k - j∧n0=fixed ((s.data.toList.drop at_.toNat).take j)∧w'=w,⟨_,0,rfl,by omega,rfl,rfl,rfl⟩,?_⟩
  rintro n0 n1 D m w4 ⟨j,rfl,hj,rfl,rfl,rfl⟩ hF4
  refine ⟨λhlt=>?_,λhge=>?_⟩
  ·have hj':j<k:=by omega
   have e8:IntKind.wrap .i64 ((8:Int)*(j:Int))=((8*j:Nat):Int):=by rw [w64 (by omega) (by omega)];omega
   have ea:IntKind.wrap .i64 (at_+(j:Int))=at_+j:=w64 (by omega) (by omega)
   have hbl:=lW_ s (at_+j).toNat
   have hby:IntKind.wrap .i64 ((aE_ s (at_+(j:Int)).toNat:Nat):Int)=(aE_ s (at_+j).toNat:Nat):=w64 (by omega) (by omega)
   have hmin:Min.min (Int.toNat ((8*j:Nat):Int)) 64=8*j:=by rw [Int.toNat_natCast];omega
   rw [ea,e8,hby,hmin]
   have hlen:((s.data.toList.drop at_.toNat).take j).length=j:=by
    rw [List.length_take,List.length_drop,cV_];omega
   have hfl:=nT_ ((s.data.toList.drop at_.toNat).take j)
   rw [hlen] at hfl
   have h256:(256:Nat) ^ j=2 ^ (8*j):=by rw [Nat.pow_mul]
   have hp:(2:Nat) ^ (8*j)≤2 ^ 40:=Nat.pow_le_pow_right (by decide) (by omega)
   have hnext:(s.data.toList.drop at_.toNat).take (j+1)=(s.data.toList.drop at_.toNat).take j++[UInt8.ofNat (aE_ s (at_+j).toNat)]:=by
    rw [List.take_add_one]
    congr 1
    rw [List.getElem?_drop]
    have:=iB_ (s:=s) (i:=(at_+j).toNat) (by omega)
    rw [show at_.toNat+j=(at_+j).toNat by omega,this];rfl
   refine ⟨by omega,by omega,by omega,k - (j+1),by omega,j+1,by rw [w64 (by omega) (by omega)];rfl,by omega,rfl,?_,rfl⟩
   have hp':((2 ^ (8*j):Nat):Int)=(2:Int) ^ (8*j):=by simp
   have h40:(2:Nat) ^ 40=1099511627776:=by decide
   have hm:(aE_ s (at_+j).toNat)*2 ^ (8*j)≤255*2 ^ 40:=Nat.mul_le_mul (by omega) hp
   have hmc:((aE_ s (at_+j).toNat:Nat):Int)*(2:Int) ^ (8*j)=((aE_ s (at_+j).toNat*2 ^ (8*j):Nat):Int):=by rw [← hp'];simp
   have hlt2:((fixed ((s.data.toList.drop at_.toNat).take j):Nat):Int)<(2:Int) ^ (8*j):=by rw [← hp'];rw [h256] at hfl;exact Int.ofNat_lt.2 hfl
   have hroom:((aE_ s (at_+j).toNat:Nat):Int)*(2:Int) ^ (8*j)+(2:Int) ^ (8*j)≤9223372036854775808:=by rw [hmc,← hp'];omega
   rw [sy_ (by omega) hlt2 (by omega) hroom,hnext,oy_,hlen,h256]
   have:(UInt8.ofNat (aE_ s (at_+j).toNat)).toNat=aE_ s (at_+j).toNat:=UInt8.toNat_ofNat_of_lt (by have:UInt8.size=256:=rfl;omega)
   rw [this,← hp'];simp
  ·have:j=k:=by omega
   subst this
   rw [w64 (by omega) (by omega)]
   exact hK
end Go.Vc
namespace Go.Vc
open Go
theorem nM_ {S:List UInt8→Nat} {l t:List UInt8} {n:Nat} (h:d9_ S l=some (t,n)):n≤l.length∧6≤n∧t.length+6=n∧t.length≤60000:=by
 unfold d9_ at h
 split at h
 ·cases h
 ·split at h
  ·cases h
  ·split at h
   ·cases h
   ·split at h
    ·cases h
    ·rename_i h1 h2 h3 _
     simp only [Option.some.injEq,Prod.mk.injEq] at h
     obtain ⟨rfl,rfl⟩:=h
     rw [List.length_take,List.length_drop]
     omega
theorem l5_ {S:List UInt8→Nat} {f:Nat} {l t:List UInt8} {n:Nat} (h:d9_ S l=some (t,n)):allL S (f+1) l=(t :: (allL S f (l.drop n)).1,n+(allL S f (l.drop n)).2):=by
 rw [allL,h]
theorem l6_ {S:List UInt8→Nat} {f:Nat} {l:List UInt8} (h:d9_ S l=none):allL S f l=([],0):=by
 cases f with
 | zero=>rfl
 | succ f=>rw [allL,h]
end Go.Vc
namespace Go.Vc
open Go
theorem ex_ {w:World} {b:Nat} {m:Int} {c:Nat} (hb:w.heap[b]? = some (.cells #[.int .i64 m] T.int (0,0))) {K:Value→World→Prop} (hK:∀w' e,Grow w w'→isEC c e→K (.tuple #[.string ⟨#[]⟩,.int .i64 m,e]) w'):aa_ PR F.lN_ ⟨[.iface T.am_ (.int .i64 c),.pointer (some ⟨b,0,none⟩)]⟩ w K:=
 jI_ _ b m S0 K w ((Fr.init _ w).entry hb (λx h=>by cases h) λh=>by cases h) ⟨rfl,λw1 hF1=>hK w1 _ hF1.grow (.inr ⟨_,rfl⟩)⟩
theorem mg_ {l:List UInt8} {at_:Nat} (hl:l.length≤1099511627776) (ha:at_≤l.length) {w:World} {K:Value→World→Prop}
  (h1:∀w' e,Grow w w'→isEC (pZ_ (l.drop at_)) e→d9_ crcN (l.drop at_)=none→K (.tuple #[.string ⟨#[]⟩,.int .i64 at_,e]) w')
  (h2:∀w' t n,Grow w w'→d9_ crcN (l.drop at_)=some (t,n)→K (.tuple #[.string (str t),.int .i64 ((at_+n:Nat):Int),.nilIface]) w'):aa_ PR F.dq_ ⟨[.string (str l),.int .i64 (at_:Int)]⟩ w K:=by
 have hsz:=af_ l
 have hdl:(l.drop at_).length=l.length - at_:=List.length_drop
 refine dq_ (str l) at_ S0 K w λb hb=>⟨λh=>by omega,λ_=>⟨λh=>by rw [hsz] at h;omega,λ_=>⟨λh w6 hF6=>?_,λhge w6 hF6=>?_⟩⟩⟩
 ·rw [hsz,w64 (by omega) (by omega)] at h
  refine ex_ (c:=3) (hF6.blk 0 rfl) λw7 e g7 he=>⟨_,_,_,rfl,hF6.after g7,h1 w7 e (hF6.grow.trans g7) ?_ ?_⟩
  ·unfold pZ_;rw [if_pos (by omega)];exact he
  ·unfold d9_;rw [if_pos (by omega)]
 rw [hsz,w64 (by omega) (by omega)] at hge
 refine gD_ (k:=4) (by decide) (by omega) (by rw [hsz];omega) (by rw [hsz];omega) ⟨_,_,_,rfl,hF6.reset,?_⟩
 refine gD_ (k:=2) (by decide) (by omega) (by rw [hsz];omega) (by rw [hsz];omega) ⟨_,_,_,rfl,hF6.reset,?_⟩
 have f4:d9_ crcN (l.drop at_)=if fixed ((l.drop (at_+4)).take 2)>60000 then none else
   if fixed ((l.drop (at_+4)).take 2)>l.length - at_ - 6 then none else
   if crcN ((l.drop (at_+4)).take (2+fixed ((l.drop (at_+4)).take 2)))≠fixed ((l.drop at_).take 4) then none else
   some ((l.drop (at_+6)).take (fixed ((l.drop (at_+4)).take 2)),6+fixed ((l.drop (at_+4)).take 2)):=by
  unfold d9_
  rw [if_neg (by omega),List.drop_drop,List.drop_drop,hdl]
 rw [be_,Int.toNat_natCast,show Int.toNat ((at_:Int)+(4:Nat))=at_+4 by omega]
 have fE:pZ_ (l.drop at_)=if fixed ((l.drop (at_+4)).take 2)>60000 then 6 else if fixed ((l.drop (at_+4)).take 2)>l.length - at_ - 6 then 3 else 5:=by
  unfold pZ_
  rw [if_neg (by omega),List.drop_drop,hdl]
 generalize hn:fixed ((l.drop (at_+4)).take 2)=n at f4 fE ⊢
 have hgr:∀ {w':World},Grow w6 w'→Grow w w':=λg=>hF6.grow.trans g
 refine ⟨λh=>?_,λhle=>⟨λh=>?_,λhfit=>?_⟩⟩
 ·refine ex_ (c:=6) (hF6.blk 0 rfl) λw7 e g7 he=>⟨_,_,_,rfl,hF6.after g7,h1 w7 e (hgr g7) (by rw [fE,if_pos (by omega)];exact he) ?_⟩
  rw [f4,if_pos (by omega)]
 ·rw [hsz,w64 (by omega) (by omega)] at h
  refine ex_ (c:=3) (hF6.blk 0 rfl) λw7 e g7 he=>⟨_,_,_,rfl,hF6.after g7,h1 w7 e (hgr g7) (by rw [fE,if_neg (by omega),if_pos (by omega)];exact he) ?_⟩
  rw [f4,if_neg (by omega),if_pos (by omega)]
 rw [hsz,w64 (by omega) (by omega)] at hfit
 rw [hsz,w64 (n:=(at_:Int)+(4:Nat)+(2:Nat)+(n:Nat)) (by omega) (by omega)]
 have e1:Int.toNat ((at_:Int)+(4:Nat)+(2:Nat)+(n:Nat))=at_+6+n:=by omega
 have ex1:ByteArray.extract (str l) (at_+4) (at_+6+n)=str ((l.drop (at_+4)).take (2+n)):=by
  rw [a6_];congr 2;omega
 have ex2:ByteArray.extract (str l) (Int.toNat ((at_:Int)+(4:Nat)+(2:Nat))) (at_+6+n)=str ((l.drop (at_+6)).take n):=by
  rw [a6_,show Int.toNat ((at_:Int)+(4:Nat)+(2:Nat))=at_+6 by omega];congr 2;omega
 rw [e1]
 refine ⟨by omega,by omega,by omega,by omega,λl1 hl1 w11 hF11=>?_⟩
 rw [ex1] at hF11 ⊢
 refine n7_ (xs:=[(l.drop (at_+4)).take (2+n)]) (hF11.sl 1 rfl) rfl (by simp) (λx hx=>by simp at hx;subst hx;rw [List.length_take,List.length_drop];omega) λw12 g12=>?_
 have hF12:=hF11.after g12
 have g02:Grow w w12:=hgr (hF11.grow.trans g12)
 refine ⟨_,rfl,hF11.reset.after g12,λheq=>⟨by omega,by omega,by omega,by omega,?_⟩,λhne=>?_⟩
 ·rw [ex2]
  have:=h2 w12 _ _ g02 (by rw [f4,if_neg (by omega),if_neg (by omega),if_neg (by simp at heq;simp;omega)])
  rw [show ((at_+(6+n):Nat):Int)=(at_:Int)+(4:Nat)+(2:Nat)+(n:Nat) by omega] at this
  exact this
 ·refine ex_ (c:=5) (hF12.blk 0 rfl) λw13 e g13 he=>⟨_,_,_,rfl,hF11.reset.after (g12.trans g13),h1 w13 e (g02.trans g13) (by rw [fE,if_neg (by omega),if_neg (by omega)];exact he) ?_⟩
  rw [f4,if_neg (by omega),if_neg (by omega),if_pos (by simp at hne;omega)]
theorem sn_ {l:List UInt8} (hl:l.length≤1000000) {w:World} {K:Value→World→Prop}
  (hK:∀w' q c,Grow w w'→Own T.string 1 w' q c ((allL crcN (l.length+1) l).1.map sv8')→(allL crcN (l.length+1) l).1.length≤c→Off (λj=>j<w.heap.size) q→K (.tuple #[.slice q (allL crcN (l.length+1) l).1.length c,.int .i64 ((allL crcN (l.length+1) l).2:Nat)]) w'):aa_ PR F.ej_ ⟨[.string (str l)]⟩ w K:=by
 refine ej_ (str l) S0 K w ⟨λq n c at_ m w'=>∃(a f:Nat) (ts:List (List UInt8)),at_=a∧n=ts.length∧m=f∧a≤l.length∧ts.length≤a∧l.length<f+a∧n≤c∧allL crcN (l.length+1) l=(ts++(allL crcN f (l.drop a)).1,a+(allL crcN f (l.drop a)).2)∧Own T.string 1 w' q c (ts.map sv8')∧Off (λj=>j<w.heap.size) q,
  ⟨_,0,l.length+1,[],rfl,rfl,rfl,by omega,by simp,by omega,by simp,by simp,.nil _ _ _,.none _⟩,?_⟩
 rintro q n c at_ D m w1 ⟨a,f,ts,rfl,rfl,rfl,ha,hta,hf,hc,hall,ho,hof⟩ hF1
 refine mg_ (by omega) ha (λw2 e g2 he hn=>⟨_,_,_,rfl,hF1.after g2,(λh=>by obtain ⟨t,x,rfl⟩:=he.err;cases h),λt x h=>?_,.inr (by obtain ⟨t,x,h⟩:=he.err;exact ⟨t,x,h⟩)⟩) λw2 t n g2 hn=>⟨_,_,_,rfl,hF1.after g2,λ_=>λl4 hl4 w3 hF3=>?_,(λt x h=>by cases h),.inl rfl⟩
 ·rw [l6_ hn] at hall
  simp only [List.append_nil,Nat.add_zero] at hall
  have:=hK w2 q c (hF1.gr.trans g2)
  rw [hall] at this
  exact this (ho.grow g2) hc hof
 ·have hle:=nM_ hn
  rw [List.length_drop] at hle
  obtain ⟨f',rfl⟩:∃f',m=f'+1:=⟨m - 1,by omega⟩
  rw [l5_ hn,List.drop_drop] at hall
  refine gA_ ((ho.grow g2).grow hF3.grow) (by simp) hc (ys:=[t]) (hF3.sl 0 rfl) rfl (by omega) λq2 c2 w5 ho5 hc5 g5 hq5=>?_
  have s1:=hF1.gr.size
  have s2:=g2.size
  have hF5:=hF3.app2 g5 w.heap.size w2.heap.size hof (λa ha=>Nat.lt_of_lt_of_le (ho.lt a ha) s2) (λy hy=>by simp at hy;subst hy;exact .inr hl4) (by omega)
  refine ⟨_,_,_,rfl,hF5,f',by omega,a+n,f',ts++[t],rfl,by simp,rfl,by omega,by simp;omega,by omega,by simpa using hc5,?_,by simpa using ho5,hof.next hq5 (by have:=hF3.grow.size;omega)⟩
  rw [hall];simp [Nat.add_assoc]
end Go.Vc
namespace Go.Vc
open Go
theorem ok_ (z0:ByteArray) (S:SP) (K:KP) (w:World) (h:aa_ PR 122 #[.string z0,Iv 1] w λv0 w0=>∃n0 n1 v1,v0=.tuple #[Iv n0,Iv n1,v1]∧Fs S w [] w0∧(v1=.nilIface→(n0>IntKind.wrap .i64 (((ByteArray.size z0:Nat):Int) - n1)→K (.tuple #[.pointer none,.bool false]) w0)∧(¬(n0>IntKind.wrap .i64 (((ByteArray.size z0:Nat):Int) - n1))→(0:Int)≤IntKind.wrap .i64 (n1+n0)∧IntKind.wrap .i64 (n1+n0)≤((ByteArray.size z0:Nat):Int)∧(0:Int)≤n1∧n1≤((Int.toNat (IntKind.wrap .i64 (n1+n0)):Nat):Int)∧aa_ PR 169 #[.string (ByteArray.extract z0 (Int.toNat n1) (Int.toNat (IntKind.wrap .i64 (n1+n0))))] w0 λv2 w1=>∃n2 n3 n4 q0 l0 l1 n5 s0 v3,v2=.tuple #[.agg #[Iv n2,Iv n3,Iv n4,.slice q0 l0 l1,Iv n5,.string s0],v3]∧Fs S w [] w1∧∀l2,w1.heap.size≤l2→(v3=.nilIface→(0:Int)≤IntKind.wrap .i64 (n1+n0)∧IntKind.wrap .i64 (n1+n0)≤((ByteArray.size z0:Nat):Int)∧∀l3,w1.heap.size≤l3→∀w2,Fr S w w1 [l2] [⟨l2,#[Iv n2,Iv n3,Iv n4,.slice q0 l0 l1,Iv n5,.string s0],69,true⟩,⟨l3,#[.string (ByteArray.extract z0 (Int.toNat (IntKind.wrap .i64 (n1+n0))) (ByteArray.size z0))],9,true⟩] w2→let B0:Blk:=⟨l2,#[Iv n2,Iv n3,Iv n4,.slice q0 l0 l1,Iv n5,.string s0],69,true⟩;aa_ PR 102 #[.slice (some (⟨l3,0,none⟩)) 1 1] w2 λv4 w3=>∃q1 l4 l5,v4=.slice q1 l4 l5∧Fs S w [B0,⟨l3,#[.string (ByteArray.extract z0 (Int.toNat (IntKind.wrap .i64 (n1+n0))) (ByteArray.size z0))],9,true⟩] w3∧((l4:Int)=n5→∀w4,Fr S w w3 [] [B0] w4→aa_ PR 105 #[.slice q1 l4 l5] w4 λv5 w5=>∃s1,v5=.string s1∧Fs S w [B0] w5∧(s1=s0→∀l6,w5.heap.size≤l6→∀w6,Fr S w w5 [] [⟨l6,#[Iv n2,Iv n3,Iv n4,.slice q0 l0 l1,Iv n5,.string s0,.slice q1 l4 l5],121,true⟩] w6→K (.tuple #[.pointer (some (⟨l6,0,none⟩)),.bool true]) w6)∧(¬(s1=s0)→K (.tuple #[.pointer none,.bool false]) w5))∧(¬((l4:Int)=n5)→∀w7,Fr S w w3 [] [] w7→K (.tuple #[.pointer none,.bool false]) w7))∧(∀x0 v6,v3=.iface x0 v6→∀w8,Fr S w w1 [l2] [] w8→K (.tuple #[.pointer none,.bool false]) w8)∧(v3=.nilIface∨∃l7 v7,v3=.iface l7 v7)))∧(∀x1 v8,v1=.iface x1 v8→K (.tuple #[.pointer none,.bool false]) w0)∧(v1=.nilIface∨∃l8 v9,v1=.iface l8 v9)):aa_ PR 136 ⟨[.string z0]⟩ w K:=
 a7_ (okf:=⟨okL,[]⟩) ag_ (args:=[.c (.v (.string z0))]) (H:=[]) (.s .z (.s (.r ⟨(some []),false,[],[]⟩) (.s .z (.s (.r ⟨(some []),false,[],[]⟩) (.s .z (.s (.r ⟨(some [7]),false,[],[]⟩) (.s (.s (.r ⟨(some [7]),false,[],[]⟩) .z) (.s (.r ⟨(some [7]),false,[],[]⟩) .z)))))))) Go.Proofs.Tryz.func136 rfl ⟨trivial,trivial⟩ trivial (Fr.init S w) trivial (ae_ (by kernel_rfl) h)
theorem strings_HasPrefix (z0:ByteArray) (z1:ByteArray) (S:SP) (K:KP) (w:World) (h:aa_ PR 168 #[.string z0,.string z1] w λv0 w0=>∃b0,v0=.bool b0∧(b0=true→Fs S w [] w0∧K (.bool true) w0)∧(b0=false→Fs S w [] w0∧K (.bool false) w0)):aa_ PR 135 ⟨[.string z0,.string z1]⟩ w K:=
 ab_ (okf:=⟨okL,[]⟩) ag_ (args:=[.c (.v (.string z0)),.c (.v (.string z1))]) (H:=[]) (.s .z (.s (.r ⟨(some []),false,[],[]⟩) .z)) Go.Proofs.Tryz.func135 rfl ⟨trivial,trivial,trivial⟩ trivial (Fr.init S w) trivial (ae_ (by kernel_rfl) h)
theorem a5_ (z0:ByteArray) (z1:ByteArray) (S:SP) (K:KP) (w:World) (h:(((ByteArray.size z0:Nat):Int)≥((ByteArray.size z1:Nat):Int)→(0:Int)≤((ByteArray.size z1:Nat):Int)∧((ByteArray.size z1:Nat):Int)≤((ByteArray.size z0:Nat):Int)∧((ByteArray.extract z0 0 (Int.toNat ((ByteArray.size z1:Nat):Int)):ByteArray)=z1→K (.bool true) w)∧(¬((ByteArray.extract z0 0 (Int.toNat ((ByteArray.size z1:Nat):Int)):ByteArray)=z1)→K (.bool false) w))∧(¬(((ByteArray.size z0:Nat):Int)≥((ByteArray.size z1:Nat):Int))→K (.bool false) w)):aa_ PR 168 ⟨[.string z0,.string z1]⟩ w K:=
 ab_ (okf:=⟨okL,[]⟩) ag_ (args:=[.c (.v (.string z0)),.c (.v (.string z1))]) (H:=[]) .z Go.Proofs.Tryz.func168 rfl ⟨trivial,trivial,trivial⟩ trivial (Fr.init S w) trivial (ae_ (by kernel_rfl) h)
theorem i1_ (k0:Nat) (z1:ByteArray) (m2:Int) (u3:Value) (S:SP) (K:KP) (w:World) (hF:Fs S w [⟨k0,#[.string z1,.int .i64 m2,u3],304,true⟩] w) (hS:S k0∧True) (h:(u3=.nilIface→(∀w0,Fr S w w [] [⟨k0,#[.string z1,Iv m2,u3],304,true⟩] w0→aa_ PR 122 #[.string z1,Iv m2] w0 λv0 w1=>∃n0 n1 v1,v0=.tuple #[Iv n0,Iv n1,v1]∧Fs S w [⟨k0,#[.string z1,Iv m2,u3],304,true⟩] w1∧(oneC v1:Bool)=true∧∀w2,Fr S w w1 [k0,k0] [⟨k0,#[.string z1,Iv n1,v1],304,true⟩] w2→K (Iv n0) w2)∧∀w3,Fr S w w [] [⟨k0,#[.string z1,Iv m2,u3],304,true⟩] w3→aa_ PR 122 #[.string z1,Iv m2] w3 λv2 w4=>∃n2 n3 v3,v2=.tuple #[Iv n2,Iv n3,v3]∧Fs S w [⟨k0,#[.string z1,Iv m2,u3],304,true⟩] w4∧(oneC v3:Bool)=true∧∀w5,Fr S w w4 [k0,k0] [⟨k0,#[.string z1,Iv n3,v3],304,true⟩] w5→K (Iv n2) w5)∧(∀x0 v4,u3=.iface x0 v4→K (Iv 0) w)∧(u3=.nilIface∨∃l0 v5,u3=.iface l0 v5)):aa_ PR 195 ⟨[.pointer (some ⟨k0,0,none⟩)]⟩ w K:=
 ab_ (okf:=⟨okL,[]⟩) ag_ (args:=[.c (.p 0 k0 true 0)]) (H:=[⟨k0,.l [.v (.string z1),.v (.int .i64 m2),.v u3],304,true⟩]) (.s .z (.s .z (.s .z (.s (.r ⟨(some [0]),false,[0],[(998,[])]⟩) .z)))) Go.Proofs.Tryz.func195 rfl ⟨rfl,trivial⟩ ⟨⟨trivial,⟨trivial,⟨trivial,trivial⟩⟩⟩,trivial⟩ hF hS (ae_ (by kernel_rfl) h)
end Go.Vc
namespace Go.Vc
open Go
theorem cX_ {l r:List UInt8} {at_:Nat} {n:Int} (hl:l.length≤1099511627776) (hn:0≤n∧n≤72057594037927935) (hat:at_≤l.length) (hd:l.drop at_=ac_ n.toNat++r) {w:World} {K:Value→World→Prop}
  (hK:K (.tuple #[.int .i64 n,.int .i64 ((at_+(ac_ n.toNat).length:Nat):Int),.nilIface]) w):aa_ PR F.bi_ ⟨[.string (str l),.int .i64 (at_:Int)]⟩ w K:=by
 refine eB_ (by rw [af_];omega) (λh=>absurd ⟨by omega,by rw [af_];omega⟩ h) λ_=>?_
 rw [be_,Int.toNat_natCast,hd,b7_ (by omega)]
 show K (.tuple #[.int .i64 ((n.toNat:Nat):Int),.int .i64 ((at_:Int)+((ac_ n.toNat).length:Nat)),.nilIface]) w
 rw [show ((n.toNat:Nat):Int)=n by omega,show (at_:Int)+((ac_ n.toNat).length:Nat)=((at_+(ac_ n.toNat).length:Nat):Int) by omega]
 exact hK
theorem nd_ {l t r:List UInt8} {at_:Nat} (hl:l.length≤1099511627776) (hat:at_≤l.length) (hd:l.drop at_=ac_ t.length++(t++r)) {w:World} {K:Value→World→Prop}
  (hK:K (.tuple #[.string (str t),.int .i64 ((at_+(ac_ t.length).length+t.length:Nat):Int),.nilIface]) w):aa_ PR F.cv_ ⟨[.string (str l),.int .i64 (at_:Int),.int .i64 72057594037927935]⟩ w K:=by
 have hlen:l.length - at_=(ac_ t.length).length+(t.length+r.length):=by rw [← List.length_drop,hd,List.length_append,List.length_append]
 refine cv_ (str l) at_ 72057594037927935 S0 K w (cX_ (n:=((t.length:Nat):Int)) hl (by omega) hat hd ⟨_,_,_,rfl,.init _ w,λ_=>⟨λh=>by omega,λ_=>⟨λh=>?_,λ_=>?_⟩⟩,(λt x h=>by cases h),.inl rfl⟩)
 ·rw [af_,Int.toNat_natCast,w64 (by omega) (by omega)] at h;omega
 ·rw [af_,Int.toNat_natCast,w64 (by omega) (by omega)]
  refine ⟨by omega,by omega,by omega,by omega,?_⟩
  have ex:ByteArray.extract (str l) (Int.toNat ((at_+(ac_ t.length).length:Nat):Int)) (Int.toNat (((at_+(ac_ t.length).length:Nat):Int)+((t.length:Nat):Int)))=str t:=by
   rw [a6_,show Int.toNat ((at_+(ac_ t.length).length:Nat):Int)=at_+(ac_ t.length).length by omega,← List.drop_drop,hd,List.drop_left' rfl,List.take_left' (by omega)]
  rw [ex,show ((at_+(ac_ t.length).length:Nat):Int)+((t.length:Nat):Int)=((at_+(ac_ t.length).length+t.length:Nat):Int) by omega]
  exact hK
def posL (nums:List Int) (k:Nat):Nat:=(aM_ (nums.take k)).length
theorem jn_ (nums:List Int) (k:Nat):aM_ nums=aM_ (nums.take k)++aM_ (nums.drop k):=by
 unfold aM_;rw [← List.flatMap_append,List.take_append_drop]
theorem lc_ {nums:List Int} {k:Nat} (hk:k<nums.length) (tail:List UInt8):(aM_ nums++tail).drop (posL nums k)=ac_ nums[k].toNat++(aM_ (nums.drop (k+1))++tail):=by
 have e:aM_ (nums.drop k)=ac_ nums[k].toNat++aM_ (nums.drop (k+1)):=by rw [List.drop_eq_getElem_cons hk];unfold aM_;rw [List.flatMap_cons]
 rw [jn_ nums k,List.append_assoc,posL,List.drop_left' rfl,e,List.append_assoc]
theorem pJ_ {nums:List Int} {k:Nat} (hk:k<nums.length):posL nums (k+1)=posL nums k+(ac_ nums[k].toNat).length:=by
 unfold posL;rw [hG_ hk,List.length_append]
theorem pK_ (nums:List Int) (k:Nat) (tail:List UInt8):posL nums k≤(aM_ nums++tail).length:=by
 rw [jn_ nums k,posL,List.append_assoc,List.length_append];omega
theorem bB_ {nums:List Int} {tail:List UInt8} {k:Nat} (hl:(aM_ nums++tail).length≤1099511627776) (hn:∀n∈nums,0≤n∧n≤72057594037927935) (hk:k<nums.length) {w:World} {b:Nat}
  (hb:w.heap[b]? = some (.cells #[.string (str (aM_ nums++tail)),.int .i64 (posL nums k:Nat),.nilIface] T.bj_ (0,0))) {K:Value→World→Prop}
  (hK:∀w',w'.heap[b]? = some (.cells #[.string (str (aM_ nums++tail)),.int .i64 (posL nums (k+1):Nat),.nilIface] T.bj_ (0,0))→Chg (· = b) w w'→K (.int .i64 nums[k]) w'):aa_ PR F.dz_ ⟨[.pointer (some ⟨b,0,none⟩)]⟩ w K:=by
 have one:∀w0:World,Fr (· = b) w w [] [⟨b,#[.string (str (aM_ nums++tail)),.int .i64 (posL nums k:Nat),.nilIface],T.bj_,true⟩] w0→aa_ PR F.bi_ #[.string (str (aM_ nums++tail)),.int .i64 (posL nums k:Nat)] w0 (λv0 w1=>∃n0:Int,∃n1:Int,∃v1:Value,v0=.tuple #[.int .i64 n0,.int .i64 n1,v1]∧Fs (· = b) w [⟨b,#[.string (str (aM_ nums++tail)),.int .i64 (posL nums k:Nat),.nilIface],T.bj_,true⟩] w1∧(oneC v1:Bool)=true∧∀w2:World,Fr (· = b) w w1 [b,b] [⟨b,#[.string (str (aM_ nums++tail)),.int .i64 n1,v1],T.bj_,true⟩] w2→K (.int .i64 n0) w2):=λw0 hF0=>by
  refine cX_ hl (hn _ (List.getElem_mem hk)) (pK_ _ _ _) (lc_ hk tail) ⟨_,_,_,rfl,hF0.reset,rfl,λw2 hF2=>?_⟩
  rw [← pJ_ hk] at hF2
  exact hK w2 (hF2.blk 0 rfl) hF2.chg
 exact i1_ b _ _ _ (· = b) K w ((Fr.init _ w).entry hb (λx h=>by cases h) λ_=>rfl) ⟨rfl,trivial⟩ ⟨λ_=>⟨one,one⟩,(λt x h=>by cases h),.inl rfl⟩
end Go.Vc
namespace Go.Vc
open Go
section
variable {S:Nat→Prop} {w0 wp w:World} {M:List Nat} {L:List Blk}
theorem Fr.c8_ (h:Fr S w0 wp M L w) (j:Nat) {b:Nat} {cs cs':Array Value} {T:TypeId} (hj:L[j]? = some ⟨b,cs,T,true⟩) (L':List Blk) (hL:L'=L.set j ⟨b,cs',T,true⟩) {w':World} (g:Chg (· = b) w w') (hb:w'.heap[b]? = some (.cells cs' T (0,0))):Fs S w0 L' w':=by
 subst hL
 have hm:=List.mem_of_getElem? hj
 refine ⟨h.chg.trans g λk hk e=>?_,.refl _ _,λy hy=>?_,?_,λy hy hwy=>?_⟩
 ·have e':k=b:=e
  subst e'
  rcases h.new _ hm rfl with h1 | h1
  ·exact h1
  ·simp only [] at h1;omega
 ·rcases hL_ hy with rfl | ⟨i',hi',he⟩
  ·exact hb
  ·refine g.get (h.loc y (List.mem_of_getElem? he)) λe=>?_
   have e':y.b=b:=e
   have h1:(L.map (·.b))[i']? = some y.b:=by simp [he]
   have h2:(L.map (·.b))[j]? = some b:=by simp [hj]
   rw [e'] at h1
   have hl1:i'<(L.map (·.b)).length:=(List.getElem?_eq_some_iff.1 h1).1
   exact hi' ((List.getElem?_inj hl1 h.nodup).1 (h1.trans h2.symm))
 ·have:(L.set j ⟨b,cs',T,true⟩).map (·.b)=L.map (·.b):=by
   rw [List.map_set]
   apply List.ext_getElem?
   intro n
   rw [List.getElem?_set]
   split
   ·rename_i e;subst e
    simp [hj]
    exact (List.getElem?_eq_some_iff.1 hj).1
   ·rfl
  rw [this];exact h.nodup
 ·rcases hL_ hy with rfl | ⟨i',hi',he⟩
  ·have:=h.new _ hm rfl
   exact this
  ·exact h.new y (List.mem_of_getElem? he) hwy
end
theorem kf_:∀(l:List (Int × Int)) (k:Nat) (hk:k<l.length),(eK_ l)[2*k]? = some l[k].1∧(eK_ l)[2*k+1]? = some l[k].2
 | (a,b) :: l,0,_=>⟨rfl,rfl⟩
 | (a,b) :: l,k+1,hk=>by
  have ih:=kf_ l k (by simpa using hk)
  have e:eK_ ((a,b) :: l)=a :: b :: eK_ l:=rfl
  rw [e,show 2*(k+1)=2*k+1+1 by omega,List.getElem?_cons_succ,List.getElem?_cons_succ,List.getElem?_cons_succ,List.getElem?_cons_succ]
  exact ih
theorem rE_ (m:Man):m.nums.length=5+2*m.shards.length:=by
 unfold Man.nums
 simp only [List.length_append,List.length_cons,List.length_nil,b1_];omega
theorem rF_ (m:Man) {k:Nat} (hk:k<m.shards.length) (h:4+2*k<m.nums.length):m.nums[4+2*k]=m.shards[k].1:=by
 have h1:=(kf_ m.shards k hk).1
 have hp:=b1_ m.shards
 have e:m.nums[4+2*k]? = some m.shards[k].1:=by
  unfold Man.nums
  rw [List.append_assoc,List.getElem?_append_right (by simp),List.getElem?_append_left (by simp;omega),← h1]
  congr 1
  simp
 rw [List.getElem?_eq_getElem h] at e
 exact Option.some.inj e
theorem rD_ (m:Man) {k:Nat} (hk:k<m.shards.length) (h:5+2*k<m.nums.length):m.nums[5+2*k]=m.shards[k].2:=by
 have h1:=(kf_ m.shards k hk).2
 have hp:=b1_ m.shards
 have e:m.nums[5+2*k]? = some m.shards[k].2:=by
  unfold Man.nums
  rw [List.append_assoc,List.getElem?_append_right (by simp;omega),List.getElem?_append_left (by simp;omega),← h1]
  congr 1
  simp;omega
 rw [List.getElem?_eq_getElem h] at e
 exact Option.some.inj e
theorem pV_ (m:Man) (h:4+2*m.shards.length<m.nums.length):m.nums[4+2*m.shards.length]=m.blocks:=by
 have hp:=b1_ m.shards
 have e:m.nums[4+2*m.shards.length]? = some m.blocks:=by
  unfold Man.nums
  rw [List.getElem?_append_right (by simp;omega)]
  simp only [List.length_append,List.length_cons,List.length_nil,hp]
  rw [show 4+2*m.shards.length - (0+1+1+1+1+2*m.shards.length)=0 by omega]
  rfl
 rw [List.getElem?_eq_getElem h] at e
 exact Option.some.inj e
theorem tt_ {m:Man} (h:m.ok) {w:World} {K:Value→World→Prop}
  (hK:∀w' q c,Grow w w'→Own T.a4_ 2 w' q c (encE m.shards)→m.shards.length≤c→Off (λj=>j<w.heap.size) q→K (.tuple #[mval m q c,.nilIface]) w'):aa_ PR F.lD_ ⟨[.string (str (aH_ m))]⟩ w K:=by
 have hn:=h.nums
 have hlen:=f__ h
 have hnl:=rE_ m
 have hs:=h.shards.1
 have e:aH_ m=aM_ m.nums++(ac_ m.root.length++m.root):=rfl
 rw [e] at hlen ⊢
 refine kt_ _ S0 K w λl0 hl0 l1 hl1 w0 hF0=>?_
 have hle:(aM_ m.nums++(ac_ m.root.length++m.root)).length≤1099511627776:=by omega
 refine bB_ (k:=0) hle hn (by omega) (hF0.blk 1 rfl) λw1 hb1 g1=>⟨_,rfl,_,_,_,hF0.c8_ 1 rfl _ rfl g1 hb1,?_⟩
 have hF1:=hF0.c8_ 1 rfl _ rfl g1 hb1
 refine bB_ (k:=1) hle hn (by omega) (hF1.blk 1 rfl) λw2 hb2 g2=>⟨_,rfl,_,_,_,hF1.c8_ 1 rfl _ rfl g2 hb2,?_⟩
 have hF2:=hF1.c8_ 1 rfl _ rfl g2 hb2
 refine bB_ (k:=2) hle hn (by omega) (hF2.blk 1 rfl) λw3 hb3 g3=>⟨_,rfl,_,_,_,hF2.c8_ 1 rfl _ rfl g3 hb3,?_⟩
 have hF3:=hF2.c8_ 1 rfl _ rfl g3 hb3
 intro l2 hl2 w4 hF4
 refine bB_ (k:=3) hle hn (by omega) (hF4.blk 1 rfl) λw5 hb5 g5=>⟨_,rfl,_,_,_,hF4.c8_ 1 rfl _ rfl g5 hb5,?_⟩
 have hF5:=hF4.c8_ 1 rfl _ rfl g5 hb5
 have e0:m.nums[0]'(by omega)=m.version:=rfl
 have e1:m.nums[1]'(by omega)=m.nodes:=rfl
 have e2:m.nums[2]'(by omega)=m.edges:=rfl
 have e3:m.nums[3]'(by omega)=((m.shards.length:Nat):Int):=rfl
 rw [e0,e1,e2,e3]
 have b0:l0<w5.heap.size:=hF5.lt _ (List.mem_of_getElem? (i:=0) rfl)
 have b1:l1<w5.heap.size:=hF5.lt _ (List.mem_of_getElem? (i:=1) rfl)
 have b2:l2<w5.heap.size:=hF5.lt _ (List.mem_of_getElem? (i:=2) rfl)
 have hw5:w.heap.size≤w5.heap.size:=hF5.gr.size
 refine ⟨λ_=>⟨λh64=>by omega,λ_=>?_⟩,(λt x h=>by cases h),.inl rfl⟩
 refine ⟨λi s' p er v nn ed q l c bl rt mm w'=>∃k:Nat,i=k∧k≤m.shards.length∧mm=m.shards.length - k∧s'=str (aM_ m.nums++(ac_ m.root.length++m.root))∧p=(posL m.nums (4+2*k):Nat)∧er=.nilIface∧v=m.version∧nn=m.nodes∧ed=m.edges∧
  Own T.a4_ 2 w' q c (encE (m.shards.take k))∧l=k∧l≤c∧Off (λj=>j<w5.heap.size) q∧bl=0∧rt=⟨#[]⟩∧w5.heap.size≤w'.heap.size,⟨_,0,rfl,by omega,rfl,rfl,rfl,rfl,rfl,rfl,rfl,.nil _ _ _,rfl,Nat.le_refl _,.none _,rfl,rfl,Nat.le_refl _⟩,?_⟩
 rintro i s' p er v nn ed q l c bl rt D mm w6 ⟨k,rfl,hk,rfl,rfl,rfl,rfl,rfl,rfl,rfl,ho,rfl,hlc,hof,rfl,rfl,hsz⟩ hF6
 refine ⟨λhlt w7 hF7=>?_,λhge=>?_⟩
 ·have hk':l<m.shards.length:=by omega
  refine ⟨λw'=>w'.cell? ⟨l2,3,none⟩=some (.slice q l c),hF7.ld 2 3 rfl rfl rfl,ad_.2 ⟨_,_,_,λw8 h=>h,?_⟩⟩
  refine bB_ (k:=4+2*l) hle hn (by omega) (hF7.blk 1 rfl) λw8 hb8 g8=>?_
  have hF8:=hF7.c8_ 1 rfl _ rfl g8 hb8
  refine ⟨_,rfl,_,_,_,hF8,hF8.ld 2 3 rfl rfl rfl,?_⟩
  refine bB_ (k:=5+2*l) hle hn (by omega) (by rw [show 5+2*l=4+2*l+1 by omega];exact hF8.blk 1 rfl) λw9 hb9 g9=>?_
  have hF9:=hF8.c8_ 1 rfl _ rfl g9 hb9
  refine ⟨_,rfl,_,_,_,hF9,hF9.ld 2 3 rfl rfl rfl,λl3 hl3 w10 hF10=>⟨hF10.ld 2 3 rfl rfl rfl,?_⟩⟩
  have g17:Chg (· = l1) w7 w9:=g8.trans g9 λ_ _ e=>e
  have ho9:Own T.a4_ 2 w9 q c (encE (m.shards.take l)):=(ho.grow hF7.grow).keep g17 λa ha e=>by have:=hof a ha;have e':a.block=l1:=e;omega
  have g10:Grow w9 w10:=hF10.grow
  have s69:w6.heap.size≤w9.heap.size:=Nat.le_trans hF7.grow.size g17.size
  refine n3_ jZ_ hv_ (ho9.grow g10) (by rw [List.length_take];omega) hlc (ys:=[m.shards[l]]) (by
   have:=hF10.sl 3 rfl
   rw [rF_ m hk',rD_ m hk'] at this
   exact this) rfl (by omega) λq2 c2 w11 ho11 hc11 g11 hq11=>?_
  have hF11:=hF10.app2 g11 w5.heap.size w9.heap.size hof (λa ha=>ho9.lt a ha) (λy hy=>by
   simp only [List.mem_cons,List.not_mem_nil,or_false] at hy
   rcases hy with rfl | rfl | rfl | rfl
   ·exact .inl b0
   ·exact .inl b1
   ·exact .inl b2
   ·exact .inr hl3) hw5
  have hof2:Off (λj=>j<w5.heap.size) q2:=hof.next hq11 (by have:=g10.size;omega)
  refine ⟨_,_,_,rfl,hF11,hF11.ld 2 3 rfl rfl rfl,λw12 hF12=>⟨m.shards.length - (l+1),by omega,l+1,by rw [w64 (by omega) (by omega)];rfl,by omega,rfl,rfl,by rw [show 4+2*(l+1)=5+2*l+1 by omega],rfl,rfl,rfl,rfl,?_,rfl,hc11,hof2,rfl,rfl,?_⟩⟩
  ·rw [aV_ hk']
   exact ho11.keep hF12.stp λa ha e=>by
    have:=hof2 a ha
    have e':a.block=l2:=by simpa using e
    omega
  ·have:=hF12.stp.size;have:=g11.size;have:=g10.size;omega
 ·have hkl:l=m.shards.length:=by omega
  subst hkl
  rw [List.take_length] at ho
  refine bB_ (k:=4+2*m.shards.length) hle hn (by omega) (hF6.blk 1 rfl) λw7 hb7 g7=>?_
  have hF7:=hF6.c8_ 1 rfl _ rfl g7 hb7
  rw [pV_ m]
  have ho7:Own T.a4_ 2 w7 q c (encE m.shards):=ho.keep g7 λa ha e=>by have:=hof a ha;have e':a.block=l1:=e;omega
  refine ⟨_,rfl,_,_,_,hF7,⟨λ_ w8 hF8=>?_,(λt x h=>by cases h),.inl rfl⟩⟩
  have ho8:Own T.a4_ 2 w8 q c (encE m.shards):=ho7.keep hF8.stp λa ha e=>by have:=hof a ha;have e':a.block=l2:=by simpa using e
                                                                            omega
  have hps:posL m.nums (4+2*m.shards.length+1)=(aM_ m.nums).length:=by
   unfold posL;rw [List.take_of_length_le (by omega)]
  have hat:posL m.nums (4+2*m.shards.length+1)≤(aM_ m.nums++(ac_ m.root.length++m.root)).length:=pK_ _ _ _
  refine nd_ (t:=m.root) (r:=[]) hle hat (by rw [hps,List.drop_left' rfl,List.append_nil]) ⟨_,_,_,rfl,hF8.reset,rfl,⟨λ_=>⟨λhlt=>?_,λ_ w9 hF9=>?_⟩,(λt x h=>by cases h),.inl rfl⟩⟩
  ·rw [af_,List.length_append,List.length_append,hps] at hlt;omega
  ·have ho9:Own T.a4_ 2 w9 q c (encE m.shards):=ho8.keep hF9.stp λa ha e=>by
    have:=hof a ha
    have e':a.block=l1∨a.block=l2:=by simpa using e
    omega
   refine mh_ h ho9.sl λw10 g10=>⟨_,rfl,hF9.reset.after g10,⟨λ_ w11 hF11=>?_,(λt x h=>by cases h),.inl rfl⟩⟩
   refine hK w11 q c hF11.gr ((ho9.grow g10).keep hF11.stp λa ha e=>?_) hlc (hof.mono hw5)
   have:=hof a ha
   have e':a.block=l0:=by simpa using e
   omega
end Go.Vc
namespace Go.Vc
open Go
theorem gk_ (z0:ByteArray) (S:SP) (K:KP) (w:World) (h:(((ByteArray.size z0:Nat):Int)=32→K (.bool false) w)∧(¬(((ByteArray.size z0:Nat):Int)=32)→K (.bool true) w)):aa_ PR 83 ⟨[.string z0]⟩ w K:=
 ab_ (okf:=⟨okL,[]⟩) ag_ (args:=[.c (.v (.string z0))]) (H:=[]) .z Go.Proofs.Tryz.func83 rfl ⟨trivial,trivial⟩ trivial (Fr.init S w) trivial (ae_ (by kernel_rfl) h)
theorem dF_ (m0:Int) (m1:Int) (m2:Int) (z3:ByteArray) (y4:Option Addr) (ly4:Nat) (cy4:Nat) (S:SP) (K:KP) (w:World) (h:∀l0,w.heap.size≤l0→(m1=0→(m2=0→(z3=⟨#[]⟩→((ly4:Int)>0→(m0=1→∀w0,Fr S w w [] [] w0→K (.bool false) w0)∧(¬(m0=1)→(m0=3→∀w1,Fr S w w [] [] w1→K (.bool false) w1)∧(¬(m0=3)→(m0=2→∀w2,Fr S w w [] [] w2→K (.bool false) w2)∧(¬(m0=2)→(m0=4→∀w3,Fr S w w [] [] w3→K (.bool false) w3)∧(¬(m0=4)→(m0=10→∀w4,Fr S w w [] [] w4→K (.bool false) w4)∧(¬(m0=10)→(m0=5→∀w5,Fr S w w [] [] w5→K (.bool false) w5)∧(¬(m0=5)→(m0=6→∀w6,Fr S w w [] [] w6→K (.bool false) w6)∧(¬(m0=6)→(m0=7→∀w7,Fr S w w [] [] w7→K (.bool false) w7)∧(¬(m0=7)→(m0=8→∀w8,Fr S w w [] [] w8→K (.bool false) w8)∧(¬(m0=8)→(m0=9→∀w9,Fr S w w [] [] w9→K (.bool false) w9)∧(¬(m0=9)→(m0=11→∀w10,Fr S w w [] [] w10→K (.bool false) w10)∧(¬(m0=11)→∀w11,Fr S w w [] [] w11→K (.bool false) w11))))))))))))∧(¬((ly4:Int)>0)→(m0=1→∀w12,Fr S w w [] [] w12→K (.bool true) w12)∧(¬(m0=1)→(m0=3→∀w13,Fr S w w [] [] w13→K (.bool false) w13)∧(¬(m0=3)→(m0=2→∀w14,Fr S w w [] [] w14→K (.bool false) w14)∧(¬(m0=2)→(m0=4→∀w15,Fr S w w [] [] w15→K (.bool false) w15)∧(¬(m0=4)→(m0=10→∀w16,Fr S w w [] [] w16→K (.bool true) w16)∧(¬(m0=10)→(m0=5→∀w17,Fr S w w [] [] w17→K (.bool false) w17)∧(¬(m0=5)→(m0=6→∀w18,Fr S w w [] [] w18→K (.bool false) w18)∧(¬(m0=6)→(m0=7→∀w19,Fr S w w [] [] w19→K (.bool false) w19)∧(¬(m0=7)→(m0=8→∀w20,Fr S w w [] [] w20→K (.bool false) w20)∧(¬(m0=8)→(m0=9→∀w21,Fr S w w [] [] w21→K (.bool false) w21)∧(¬(m0=9)→(m0=11→∀w22,Fr S w w [] [] w22→K (.bool true) w22)∧(¬(m0=11)→∀w23,Fr S w w [] [] w23→K (.bool false) w23)))))))))))))∧(¬(z3=⟨#[]⟩)→((ly4:Int)>0→(m0=1→∀w24,Fr S w w [] [] w24→K (.bool false) w24)∧(¬(m0=1)→(m0=3→∀w25,Fr S w w [] [] w25→K (.bool false) w25)∧(¬(m0=3)→(m0=2→∀w26,Fr S w w [] [] w26→K (.bool false) w26)∧(¬(m0=2)→(m0=4→∀w27,Fr S w w [] [] w27→K (.bool false) w27)∧(¬(m0=4)→(m0=10→∀w28,Fr S w w [] [] w28→K (.bool false) w28)∧(¬(m0=10)→(m0=5→∀w29,Fr S w w [] [] w29→K (.bool false) w29)∧(¬(m0=5)→(m0=6→∀w30,Fr S w w [] [] w30→K (.bool false) w30)∧(¬(m0=6)→(m0=7→∀w31,Fr S w w [] [] w31→K (.bool false) w31)∧(¬(m0=7)→(m0=8→∀w32,Fr S w w [] [] w32→K (.bool false) w32)∧(¬(m0=8)→(m0=9→∀w33,Fr S w w [] [] w33→K (.bool false) w33)∧(¬(m0=9)→(m0=11→∀w34,Fr S w w [] [] w34→K (.bool false) w34)∧(¬(m0=11)→∀w35,Fr S w w [] [] w35→K (.bool false) w35))))))))))))∧(¬((ly4:Int)>0)→(m0=1→∀w36,Fr S w w [] [] w36→K (.bool true) w36)∧(¬(m0=1)→(m0=3→∀w37,Fr S w w [] [] w37→K (.bool false) w37)∧(¬(m0=3)→(m0=2→∀w38,Fr S w w [] [] w38→K (.bool false) w38)∧(¬(m0=2)→(m0=4→∀w39,Fr S w w [] [] w39→K (.bool false) w39)∧(¬(m0=4)→(m0=10→∀w40,Fr S w w [] [] w40→K (.bool false) w40)∧(¬(m0=10)→(m0=5→∀w41,Fr S w w [] [] w41→K (.bool false) w41)∧(¬(m0=5)→(m0=6→∀w42,Fr S w w [] [] w42→K (.bool false) w42)∧(¬(m0=6)→(m0=7→∀w43,Fr S w w [] [] w43→K (.bool false) w43)∧(¬(m0=7)→(m0=8→∀w44,Fr S w w [] [] w44→K (.bool false) w44)∧(¬(m0=8)→(m0=9→∀w45,Fr S w w [] [] w45→K (.bool false) w45)∧(¬(m0=9)→(m0=11→∀w46,Fr S w w [] [] w46→K (.bool false) w46)∧(¬(m0=11)→∀w47,Fr S w w [] [] w47→K (.bool false) w47))))))))))))))∧(¬(m2=0)→(z3=⟨#[]⟩→((ly4:Int)>0→(m0=1→∀w48,Fr S w w [] [] w48→K (.bool false) w48)∧(¬(m0=1)→(m0=3→∀w49,Fr S w w [] [] w49→K (.bool false) w49)∧(¬(m0=3)→(m0=2→∀w50,Fr S w w [] [] w50→K (.bool false) w50)∧(¬(m0=2)→(m0=4→∀w51,Fr S w w [] [] w51→K (.bool false) w51)∧(¬(m0=4)→(m0=10→∀w52,Fr S w w [] [] w52→K (.bool false) w52)∧(¬(m0=10)→(m0=5→∀w53,Fr S w w [] [] w53→K (.bool false) w53)∧(¬(m0=5)→(m0=6→∀w54,Fr S w w [] [] w54→K (.bool false) w54)∧(¬(m0=6)→(m0=7→∀w55,Fr S w w [] [] w55→K (.bool false) w55)∧(¬(m0=7)→(m0=8→∀w56,Fr S w w [] [] w56→K (.bool false) w56)∧(¬(m0=8)→(m0=9→∀w57,Fr S w w [] [] w57→K (.bool false) w57)∧(¬(m0=9)→(m0=11→∀w58,Fr S w w [] [] w58→K (.bool false) w58)∧(¬(m0=11)→∀w59,Fr S w w [] [] w59→K (.bool false) w59))))))))))))∧(¬((ly4:Int)>0)→(m0=1→∀w60,Fr S w w [] [] w60→K (.bool false) w60)∧(¬(m0=1)→(m0=3→∀w61,Fr S w w [] [] w61→K (.bool false) w61)∧(¬(m0=3)→(m0=2→∀w62,Fr S w w [] [] w62→K (.bool false) w62)∧(¬(m0=2)→(m0=4→∀w63,Fr S w w [] [] w63→K (.bool false) w63)∧(¬(m0=4)→(m0=10→∀w64,Fr S w w [] [] w64→K (.bool true) w64)∧(¬(m0=10)→(m0=5→∀w65,Fr S w w [] [] w65→K (.bool false) w65)∧(¬(m0=5)→(m0=6→∀w66,Fr S w w [] [] w66→K (.bool false) w66)∧(¬(m0=6)→(m0=7→∀w67,Fr S w w [] [] w67→K (.bool false) w67)∧(¬(m0=7)→(m0=8→∀w68,Fr S w w [] [] w68→K (.bool false) w68)∧(¬(m0=8)→(m0=9→∀w69,Fr S w w [] [] w69→K (.bool false) w69)∧(¬(m0=9)→(m0=11→∀w70,Fr S w w [] [] w70→K (.bool false) w70)∧(¬(m0=11)→∀w71,Fr S w w [] [] w71→K (.bool false) w71)))))))))))))∧(¬(z3=⟨#[]⟩)→((ly4:Int)>0→(m0=1→∀w72,Fr S w w [] [] w72→K (.bool false) w72)∧(¬(m0=1)→(m0=3→∀w73,Fr S w w [] [] w73→K (.bool false) w73)∧(¬(m0=3)→(m0=2→∀w74,Fr S w w [] [] w74→K (.bool false) w74)∧(¬(m0=2)→(m0=4→∀w75,Fr S w w [] [] w75→K (.bool false) w75)∧(¬(m0=4)→(m0=10→∀w76,Fr S w w [] [] w76→K (.bool false) w76)∧(¬(m0=10)→(m0=5→∀w77,Fr S w w [] [] w77→K (.bool false) w77)∧(¬(m0=5)→(m0=6→∀w78,Fr S w w [] [] w78→K (.bool false) w78)∧(¬(m0=6)→(m0=7→∀w79,Fr S w w [] [] w79→K (.bool false) w79)∧(¬(m0=7)→(m0=8→∀w80,Fr S w w [] [] w80→K (.bool false) w80)∧(¬(m0=8)→(m0=9→∀w81,Fr S w w [] [] w81→K (.bool false) w81)∧(¬(m0=9)→(m0=11→∀w82,Fr S w w [] [] w82→K (.bool false) w82)∧(¬(m0=11)→∀w83,Fr S w w [] [] w83→K (.bool false) w83))))))))))))∧(¬((ly4:Int)>0)→(m0=1→∀w84,Fr S w w [] [] w84→K (.bool false) w84)∧(¬(m0=1)→(m0=3→∀w85,Fr S w w [] [] w85→K (.bool false) w85)∧(¬(m0=3)→(m0=2→∀w86,Fr S w w [] [] w86→K (.bool false) w86)∧(¬(m0=2)→(m0=4→∀w87,Fr S w w [] [] w87→K (.bool false) w87)∧(¬(m0=4)→(m0=10→∀w88,Fr S w w [] [] w88→K (.bool false) w88)∧(¬(m0=10)→(m0=5→∀w89,Fr S w w [] [] w89→K (.bool false) w89)∧(¬(m0=5)→(m0=6→∀w90,Fr S w w [] [] w90→K (.bool false) w90)∧(¬(m0=6)→(m0=7→∀w91,Fr S w w [] [] w91→K (.bool false) w91)∧(¬(m0=7)→(m0=8→∀w92,Fr S w w [] [] w92→K (.bool false) w92)∧(¬(m0=8)→(m0=9→∀w93,Fr S w w [] [] w93→K (.bool false) w93)∧(¬(m0=9)→(m0=11→∀w94,Fr S w w [] [] w94→K (.bool false) w94)∧(¬(m0=11)→∀w95,Fr S w w [] [] w95→K (.bool false) w95)))))))))))))))∧(¬(m1=0)→(m2=0→(z3=⟨#[]⟩→((ly4:Int)>0→(m0=1→∀w96,Fr S w w [] [] w96→K (.bool false) w96)∧(¬(m0=1)→(m0=3→(((ByteArray.size z3:Nat):Int)≤64→∀w97,Fr S w w [] [] w97→K (.bool true) w97)∧(¬(((ByteArray.size z3:Nat):Int)≤64)→∀w98,Fr S w w [] [] w98→K (.bool false) w98))∧(¬(m0=3)→(m0=2→∀w99,Fr S w w [] [] w99→K (.bool false) w99)∧(¬(m0=2)→(m0=4→∀w100,Fr S w w [] [] w100→K (.bool false) w100)∧(¬(m0=4)→(m0=10→∀w101,Fr S w w [] [] w101→K (.bool false) w101)∧(¬(m0=10)→(m0=5→∀w102,Fr S w w [] [] w102→K (.bool false) w102)∧(¬(m0=5)→(m0=6→∀w103,Fr S w w [] [] w103→K (.bool false) w103)∧(¬(m0=6)→(m0=7→∀w104,Fr S w w [] [] w104→K (.bool false) w104)∧(¬(m0=7)→(m0=8→∀w105,Fr S w w [] [] w105→K (.bool false) w105)∧(¬(m0=8)→(m0=9→∀w106,Fr S w w [] [] w106→K (.bool false) w106)∧(¬(m0=9)→(m0=11→∀w107,Fr S w w [] [] w107→K (.bool false) w107)∧(¬(m0=11)→∀w108,Fr S w w [] [] w108→K (.bool false) w108))))))))))))∧(¬((ly4:Int)>0)→(m0=1→∀w109,Fr S w w [] [] w109→K (.bool false) w109)∧(¬(m0=1)→(m0=3→(((ByteArray.size z3:Nat):Int)≤64→∀w110,Fr S w w [] [] w110→K (.bool true) w110)∧(¬(((ByteArray.size z3:Nat):Int)≤64)→∀w111,Fr S w w [] [] w111→K (.bool false) w111))∧(¬(m0=3)→(m0=2→∀w112,Fr S w w [] [] w112→K (.bool true) w112)∧(¬(m0=2)→(m0=4→∀w113,Fr S w w [] [] w113→K (.bool true) w113)∧(¬(m0=4)→(m0=10→∀w114,Fr S w w [] [] w114→K (.bool true) w114)∧(¬(m0=10)→(m0=5→∀w115,Fr S w w [] [] w115→K (.bool true) w115)∧(¬(m0=5)→(m0=6→∀w116,Fr S w w [] [] w116→K (.bool true) w116)∧(¬(m0=6)→(m0=7→∀w117,Fr S w w [] [] w117→K (.bool true) w117)∧(¬(m0=7)→(m0=8→∀w118,Fr S w w [] [] w118→K (.bool true) w118)∧(¬(m0=8)→(m0=9→∀w119,Fr S w w [] [] w119→K (.bool true) w119)∧(¬(m0=9)→(m0=11→∀w120,Fr S w w [] [] w120→K (.bool true) w120)∧(¬(m0=11)→∀w121,Fr S w w [] [] w121→K (.bool false) w121)))))))))))))∧(¬(z3=⟨#[]⟩)→((ly4:Int)>0→(m0=1→∀w122,Fr S w w [] [] w122→K (.bool false) w122)∧(¬(m0=1)→(m0=3→(((ByteArray.size z3:Nat):Int)≤64→∀w123,Fr S w w [] [] w123→K (.bool true) w123)∧(¬(((ByteArray.size z3:Nat):Int)≤64)→∀w124,Fr S w w [] [] w124→K (.bool false) w124))∧(¬(m0=3)→(m0=2→∀w125,Fr S w w [] [] w125→K (.bool false) w125)∧(¬(m0=2)→(m0=4→∀w126,Fr S w w [] [] w126→K (.bool false) w126)∧(¬(m0=4)→(m0=10→∀w127,Fr S w w [] [] w127→K (.bool false) w127)∧(¬(m0=10)→(m0=5→∀w128,Fr S w w [] [] w128→K (.bool false) w128)∧(¬(m0=5)→(m0=6→∀w129,Fr S w w [] [] w129→K (.bool false) w129)∧(¬(m0=6)→(m0=7→∀w130,Fr S w w [] [] w130→K (.bool false) w130)∧(¬(m0=7)→(m0=8→∀w131,Fr S w w [] [] w131→K (.bool false) w131)∧(¬(m0=8)→(m0=9→∀w132,Fr S w w [] [] w132→K (.bool false) w132)∧(¬(m0=9)→(m0=11→∀w133,Fr S w w [] [] w133→K (.bool false) w133)∧(¬(m0=11)→∀w134,Fr S w w [] [] w134→K (.bool false) w134))))))))))))∧(¬((ly4:Int)>0)→(m0=1→∀w135,Fr S w w [] [] w135→K (.bool false) w135)∧(¬(m0=1)→(m0=3→(((ByteArray.size z3:Nat):Int)≤64→∀w136,Fr S w w [] [] w136→K (.bool true) w136)∧(¬(((ByteArray.size z3:Nat):Int)≤64)→∀w137,Fr S w w [] [] w137→K (.bool false) w137))∧(¬(m0=3)→(m0=2→∀w138,Fr S w w [] [] w138→K (.bool false) w138)∧(¬(m0=2)→(m0=4→∀w139,Fr S w w [] [] w139→K (.bool false) w139)∧(¬(m0=4)→(m0=10→∀w140,Fr S w w [] [] w140→K (.bool false) w140)∧(¬(m0=10)→(m0=5→∀w141,Fr S w w [] [] w141→K (.bool false) w141)∧(¬(m0=5)→(m0=6→∀w142,Fr S w w [] [] w142→K (.bool false) w142)∧(¬(m0=6)→(m0=7→∀w143,Fr S w w [] [] w143→K (.bool false) w143)∧(¬(m0=7)→(m0=8→∀w144,Fr S w w [] [] w144→K (.bool false) w144)∧(¬(m0=8)→(m0=9→∀w145,Fr S w w [] [] w145→K (.bool false) w145)∧(¬(m0=9)→(m0=11→∀w146,Fr S w w [] [] w146→K (.bool false) w146)∧(¬(m0=11)→∀w147,Fr S w w [] [] w147→K (.bool false) w147))))))))))))))∧(¬(m2=0)→(z3=⟨#[]⟩→((ly4:Int)>0→(m0=1→∀w148,Fr S w w [] [] w148→K (.bool false) w148)∧(¬(m0=1)→(m0=3→(((ByteArray.size z3:Nat):Int)≤64→∀w149,Fr S w w [] [] w149→K (.bool true) w149)∧(¬(((ByteArray.size z3:Nat):Int)≤64)→∀w150,Fr S w w [] [] w150→K (.bool false) w150))∧(¬(m0=3)→(m0=2→∀w151,Fr S w w [] [] w151→K (.bool false) w151)∧(¬(m0=2)→(m0=4→∀w152,Fr S w w [] [] w152→K (.bool false) w152)∧(¬(m0=4)→(m0=10→∀w153,Fr S w w [] [] w153→K (.bool false) w153)∧(¬(m0=10)→(m0=5→∀w154,Fr S w w [] [] w154→K (.bool false) w154)∧(¬(m0=5)→(m0=6→∀w155,Fr S w w [] [] w155→K (.bool false) w155)∧(¬(m0=6)→(m0=7→∀w156,Fr S w w [] [] w156→K (.bool false) w156)∧(¬(m0=7)→(m0=8→∀w157,Fr S w w [] [] w157→K (.bool false) w157)∧(¬(m0=8)→(m0=9→∀w158,Fr S w w [] [] w158→K (.bool false) w158)∧(¬(m0=9)→(m0=11→∀w159,Fr S w w [] [] w159→K (.bool false) w159)∧(¬(m0=11)→∀w160,Fr S w w [] [] w160→K (.bool false) w160))))))))))))∧(¬((ly4:Int)>0)→(m0=1→∀w161,Fr S w w [] [] w161→K (.bool false) w161)∧(¬(m0=1)→(m0=3→(((ByteArray.size z3:Nat):Int)≤64→∀w162,Fr S w w [] [] w162→K (.bool true) w162)∧(¬(((ByteArray.size z3:Nat):Int)≤64)→∀w163,Fr S w w [] [] w163→K (.bool false) w163))∧(¬(m0=3)→(m0=2→∀w164,Fr S w w [] [] w164→K (.bool true) w164)∧(¬(m0=2)→(m0=4→∀w165,Fr S w w [] [] w165→K (.bool true) w165)∧(¬(m0=4)→(m0=10→∀w166,Fr S w w [] [] w166→K (.bool true) w166)∧(¬(m0=10)→(m0=5→∀w167,Fr S w w [] [] w167→K (.bool false) w167)∧(¬(m0=5)→(m0=6→∀w168,Fr S w w [] [] w168→K (.bool false) w168)∧(¬(m0=6)→(m0=7→∀w169,Fr S w w [] [] w169→K (.bool false) w169)∧(¬(m0=7)→(m0=8→∀w170,Fr S w w [] [] w170→K (.bool false) w170)∧(¬(m0=8)→(m0=9→∀w171,Fr S w w [] [] w171→K (.bool false) w171)∧(¬(m0=9)→(m0=11→∀w172,Fr S w w [] [] w172→K (.bool false) w172)∧(¬(m0=11)→∀w173,Fr S w w [] [] w173→K (.bool false) w173)))))))))))))∧(¬(z3=⟨#[]⟩)→((ly4:Int)>0→(m0=1→∀w174,Fr S w w [] [] w174→K (.bool false) w174)∧(¬(m0=1)→(m0=3→(((ByteArray.size z3:Nat):Int)≤64→∀w175,Fr S w w [] [] w175→K (.bool true) w175)∧(¬(((ByteArray.size z3:Nat):Int)≤64)→∀w176,Fr S w w [] [] w176→K (.bool false) w176))∧(¬(m0=3)→(m0=2→∀w177,Fr S w w [] [] w177→K (.bool false) w177)∧(¬(m0=2)→(m0=4→∀w178,Fr S w w [] [] w178→K (.bool false) w178)∧(¬(m0=4)→(m0=10→∀w179,Fr S w w [] [] w179→K (.bool false) w179)∧(¬(m0=10)→(m0=5→∀w180,Fr S w w [] [] w180→K (.bool false) w180)∧(¬(m0=5)→(m0=6→∀w181,Fr S w w [] [] w181→K (.bool false) w181)∧(¬(m0=6)→(m0=7→∀w182,Fr S w w [] [] w182→K (.bool false) w182)∧(¬(m0=7)→(m0=8→∀w183,Fr S w w [] [] w183→K (.bool false) w183)∧(¬(m0=8)→(m0=9→∀w184,Fr S w w [] [] w184→K (.bool false) w184)∧(¬(m0=9)→(m0=11→∀w185,Fr S w w [] [] w185→K (.bool false) w185)∧(¬(m0=11)→∀w186,Fr S w w [] [] w186→K (.bool false) w186))))))))))))∧(¬((ly4:Int)>0)→(m0=1→∀w187,Fr S w w [] [] w187→K (.bool false) w187)∧(¬(m0=1)→(m0=3→(((ByteArray.size z3:Nat):Int)≤64→∀w188,Fr S w w [] [] w188→K (.bool true) w188)∧(¬(((ByteArray.size z3:Nat):Int)≤64)→∀w189,Fr S w w [] [] w189→K (.bool false) w189))∧(¬(m0=3)→(m0=2→∀w190,Fr S w w [] [] w190→K (.bool false) w190)∧(¬(m0=2)→(m0=4→∀w191,Fr S w w [] [] w191→K (.bool false) w191)∧(¬(m0=4)→(m0=10→∀w192,Fr S w w [] [] w192→K (.bool false) w192)∧(¬(m0=10)→(m0=5→∀w193,Fr S w w [] [] w193→K (.bool false) w193)∧(¬(m0=5)→(m0=6→∀w194,Fr S w w [] [] w194→K (.bool false) w194)∧(¬(m0=6)→(m0=7→∀w195,Fr S w w [] [] w195→K (.bool false) w195)∧(¬(m0=7)→(m0=8→∀w196,Fr S w w [] [] w196→K (.bool false) w196)∧(¬(m0=8)→(m0=9→∀w197,Fr S w w [] [] w197→K (.bool false) w197)∧(¬(m0=9)→(m0=11→∀w198,Fr S w w [] [] w198→K (.bool false) w198)∧(¬(m0=11)→∀w199,Fr S w w [] [] w199→K (.bool false) w199)))))))))))))))):aa_ PR 84 ⟨[.agg #[.int .i64 m0,.int .i64 m1,.int .i64 m2,.string z3,.slice y4 ly4 cy4]]⟩ w K:=
 ab_ (okf:=⟨okL,[]⟩) ag_ (args:=[.a [.v (.int .i64 m0),.v (.int .i64 m1),.v (.int .i64 m2),.v (.string z3),.v (.slice y4 ly4 cy4)]]) (H:=[]) (.s (.r ⟨(some []),false,[],[]⟩) (.s (.r ⟨(some [1]),false,[],[]⟩) .z)) Go.Proofs.Tryz.func84 rfl ⟨⟨trivial,trivial,trivial,trivial,trivial,trivial⟩,trivial⟩ trivial (Fr.init S w) trivial (ae_ (by kernel_rfl) h)
theorem lH_ (y0:Option Addr) (ly0:Nat) (cy0:Nat) (S:SP) (K:KP) (w:World) (h:∃I0:Int→Nat→World→Prop,(∃l0,I0 0 l0 w)∧∀n0,∀D0:Nat→Value,∀l1 w0,I0 n0 l1 w0→Fs S w [] w0→(n0<(ly0:Int)→Dr y0 λa0=>(0:Int)≤n0∧n0<(ly0:Int)∧Dr (some (Addr.add a0 (Int.toNat n0*1))) λa1=>∃s0,World.cell? w0 a1=some (.string s0)∧aa_ PR 83 #[.string s0] w0 λv0 w1=>∃b0,v0=.bool b0∧(b0=true→Fs S w [] w1∧K (Iv n0) w1)∧(b0=false→Fs S w [] w1∧∃l2,l2<l1∧I0 (IntKind.wrap .i64 (n0+1)) l2 w1))∧(¬(n0<(ly0:Int))→K (Iv (-1)) w0)):aa_ PR 125 ⟨[.slice y0 ly0 cy0,.func (.func 83) #[] #[]]⟩ w K:=
 ab_ (okf:=⟨okL,[]⟩) ag_ (args:=[.c (.v (.slice y0 ly0 cy0)),.c (.v (.func (.func 83) #[] #[]))]) (H:=[]) (.s .z (.s (.s .z (.b (.l (some []) (some []) [(8,.c (.int .i64))] [] (.s .z (.s .z (.s (.b (.s .z (.s (.r ⟨(some []),false,[],[]⟩) .z))) .z)))))) .z)) Go.Proofs.Tryz.func125 rfl ⟨trivial,trivial,trivial⟩ trivial (Fr.init S w) trivial (ae_ (by kernel_rfl) h)
theorem ix_ (y0:Option Addr) (ly0:Nat) (cy0:Nat) (S:SP) (K:KP) (w:World) (h:aa_ PR 125 #[.slice y0 ly0 cy0,.func (.func 83) #[] #[]] w λv0 w0=>∃n0,v0=Iv n0∧Fs S w [] w0∧(n0≥0→K (.bool true) w0)∧(¬(n0≥0)→K (.bool false) w0)):aa_ PR 82 ⟨[.slice y0 ly0 cy0,.func (.func 83) #[] #[]]⟩ w K:=
 ab_ (okf:=⟨okL,[]⟩) ag_ (args:=[.c (.v (.slice y0 ly0 cy0)),.c (.v (.func (.func 83) #[] #[]))]) (H:=[]) (.s .z (.s (.r ⟨(some []),false,[],[]⟩) .z)) Go.Proofs.Tryz.func82 rfl ⟨trivial,trivial,trivial⟩ trivial (Fr.init S w) trivial (ae_ (by kernel_rfl) h)
theorem fL_ (m0:Int) (m1:Int) (m2:Int) (z3:ByteArray) (y4:Option Addr) (ly4:Nat) (cy4:Nat) (S:SP) (K:KP) (w:World) (h:∀l0,w.heap.size≤l0→(((if m2<m1 then m2 else m1):Int)<0→∀w0,Fr S w w [] [] w0→K (.iface 80 (Iv 4)) w0)∧(¬(((if m2<m1 then m2 else m1):Int)<0)→(((if m2>m1 then m2 else m1):Int)>1099511627776→∀w1,Fr S w w [] [] w1→K (.iface 80 (Iv 4)) w1)∧(¬(((if m2>m1 then m2 else m1):Int)>1099511627776)→(((ByteArray.size z3:Nat):Int)>5000→∀w2,Fr S w w [] [] w2→K (.iface 80 (Iv 4)) w2)∧(¬(((ByteArray.size z3:Nat):Int)>5000)→((ly4:Int)>20→∀w3,Fr S w w [] [] w3→K (.iface 80 (Iv 4)) w3)∧(¬((ly4:Int)>20)→∀w4,Fr S w w [] [⟨l0,#[Iv m0,Iv m1,Iv m2,.string z3,.slice y4 ly4 cy4],26,true⟩] w4→let B0:Blk:=⟨l0,#[Iv m0,Iv m1,Iv m2,.string z3,.slice y4 ly4 cy4],26,true⟩;aa_ PR 82 #[.slice y4 ly4 cy4,.func (.func 83) #[] #[]] w4 λv0 w5=>∃b0,v0=.bool b0∧(b0=true→Fs S w [B0] w5∧K (.iface 80 (Iv 4)) w5)∧(b0=false→Fs S w [B0] w5∧aa_ PR 84 #[.agg #[Iv m0,Iv m1,Iv m2,.string z3,.slice y4 ly4 cy4]] w5 λv1 w6=>∃b1,v1=.bool b1∧(b1=true→Fs S w [B0] w6∧K .nilIface w6)∧(b1=false→Fs S w [B0] w6∧K (.iface 80 (Iv 4)) w6))))))):aa_ PR 44 ⟨[.agg #[.int .i64 m0,.int .i64 m1,.int .i64 m2,.string z3,.slice y4 ly4 cy4]]⟩ w K:=
 ab_ (okf:=⟨okL,[]⟩) ag_ (args:=[.a [.v (.int .i64 m0),.v (.int .i64 m1),.v (.int .i64 m2),.v (.string z3),.v (.slice y4 ly4 cy4)]]) (H:=[]) (.s (.r ⟨(some []),false,[],[]⟩) (.s (.s (.r ⟨(some [1]),false,[],[]⟩) .z) .z)) Go.Proofs.Tryz.func44 rfl ⟨⟨trivial,trivial,trivial,trivial,trivial,trivial⟩,trivial⟩ trivial (Fr.init S w) trivial (ae_ (by kernel_rfl) h)
theorem ko_ (m0:Int) (m1:Int) (m2:Int) (z3:ByteArray) (y4:Option Addr) (ly4:Nat) (cy4:Nat) (S:SP) (K:KP) (w:World) (h:∀l0,w.heap.size≤l0→∀w0,Fr S w w [] [⟨l0,#[Iv m0,Iv m1,Iv m2,.string z3,.slice y4 ly4 cy4],26,true⟩] w0→let B0:Blk:=⟨l0,#[Iv m0,Iv m1,Iv m2,.string z3,.slice y4 ly4 cy4],26,true⟩;aa_ PR 44 #[.agg #[Iv m0,Iv m1,Iv m2,.string z3,.slice y4 ly4 cy4]] w0 λv0 w1=>∃v1,v0=v1∧Fs S w [B0] w1∧(v1=.nilIface→aa_ PR 45 #[Iv m1] w1 λv2 w2=>∃s0 v3,v2=.tuple #[.string s0,v3]∧Fs S w [B0] w2∧aa_ PR 45 #[Iv m2] w2 λv4 w3=>∃s1 v5,v4=.tuple #[.string s1,v5]∧Fs S w [B0] w3∧aa_ PR 45 #[Iv (ly4:Int)] w3 λv6 w4=>∃s2 v7,v6=.tuple #[.string s2,v7]∧Fs S w [B0] w4∧(∀l1,w4.heap.size≤l1→(∀w5,Fr S w w4 [] [B0,⟨l1,#[.int .u8 (IntKind.wrap .u8 m0)],5,true⟩] w5→let B1:Blk:=⟨l1,#[.int .u8 (IntKind.wrap .u8 m0)],5,true⟩;rn PR (convert 100 9 (.slice (some (⟨l1,0,none⟩)) 1 1)) (λv8 w6=>∃s3,v8=.string s3∧Fs S w [B0,B1] w6∧((ByteArray.size s3+(ByteArray.size s0)):Nat)≤9223372036854775807∧((ByteArray.size (s3++s0)+(ByteArray.size s1)):Nat)≤9223372036854775807∧∀l2,w6.heap.size≤l2→∀w7,Fr S w w6 [] [B0,B1,⟨l2,#[.string z3],9,true⟩] w7→aa_ PR 47 #[.slice (some (⟨l2,0,none⟩)) 1 1] w7 λv9 w8=>∃s4,v9=.string s4∧Fs S w [B0,B1,⟨l2,#[.string z3],9,true⟩] w8∧((ByteArray.size (((s3++s0):ByteArray)++s1)+(ByteArray.size s4)):Nat)≤9223372036854775807∧((ByteArray.size (((((s3++s0):ByteArray)++s1):ByteArray)++s4)+(ByteArray.size s2)):Nat)≤9223372036854775807∧aa_ PR 47 #[.slice y4 ly4 cy4] w8 λv10 w9=>∃s5,v10=.string s5∧Fs S w [B0,B1,⟨l2,#[.string z3],9,true⟩] w9∧((ByteArray.size (((((((s3++s0):ByteArray)++s1):ByteArray)++s4):ByteArray)++s2)+(ByteArray.size s5)):Nat)≤9223372036854775807∧aa_ PR 46 #[.string (((((((((s3++s0):ByteArray)++s1):ByteArray)++s4):ByteArray)++s2):ByteArray)++s5)] w9 λv11 w10=>∃s6 v12,v11=.tuple #[.string s6,v12]∧Fs S w [B0,B1,⟨l2,#[.string z3],9,true⟩] w10∧K (.tuple #[.string s6,v12]) w10) w5)∧∀l3,w4.heap.size≤l3→(∀w11,Fr S w w4 [] [B0,⟨l1,#[.int .u8 (IntKind.wrap .u8 m0)],5,true⟩,⟨l3,#[.string z3],9,true⟩] w11→let B3:Blk:=⟨l3,#[.string z3],9,true⟩;let B2:Blk:=⟨l1,#[.int .u8 (IntKind.wrap .u8 m0)],5,true⟩;rn PR (convert 100 9 (.slice (some (⟨l1,0,none⟩)) 1 1)) (λv13 w12=>∃s7,v13=.string s7∧Fs S w [B0,B2,B3] w12∧((ByteArray.size s7+(ByteArray.size s0)):Nat)≤9223372036854775807∧((ByteArray.size (s7++s0)+(ByteArray.size s1)):Nat)≤9223372036854775807∧aa_ PR 47 #[.slice (some (⟨l3,0,none⟩)) 1 1] w12 λv14 w13=>∃s8,v14=.string s8∧Fs S w [B0,B2,B3] w13∧((ByteArray.size (((s7++s0):ByteArray)++s1)+(ByteArray.size s8)):Nat)≤9223372036854775807∧((ByteArray.size (((((s7++s0):ByteArray)++s1):ByteArray)++s8)+(ByteArray.size s2)):Nat)≤9223372036854775807∧aa_ PR 47 #[.slice y4 ly4 cy4] w13 λv15 w14=>∃s9,v15=.string s9∧Fs S w [B0,B2,B3] w14∧((ByteArray.size (((((((s7++s0):ByteArray)++s1):ByteArray)++s8):ByteArray)++s2)+(ByteArray.size s9)):Nat)≤9223372036854775807∧aa_ PR 46 #[.string (((((((((s7++s0):ByteArray)++s1):ByteArray)++s8):ByteArray)++s2):ByteArray)++s9)] w14 λv16 w15=>∃s10 v17,v16=.tuple #[.string s10,v17]∧Fs S w [B0,B2,B3] w15∧K (.tuple #[.string s10,v17]) w15) w11)∧∀w16,Fr S w w4 [] [B0,⟨l1,#[.int .u8 (IntKind.wrap .u8 m0)],5,true⟩,⟨l3,#[.string z3],9,true⟩] w16→let B5:Blk:=⟨l3,#[.string z3],9,true⟩;let B4:Blk:=⟨l1,#[.int .u8 (IntKind.wrap .u8 m0)],5,true⟩;aa_ PR 47 #[.slice (some (⟨l3,0,none⟩)) 1 1] w16 λv18 w17=>∃s11,v18=.string s11∧Fs S w [B0,B4,B5] w17∧rn PR (convert 100 9 (.slice (some (⟨l1,0,none⟩)) 1 1)) (λv19 w18=>∃s12,v19=.string s12∧Fs S w [B0,B4,B5] w18∧((ByteArray.size s12+(ByteArray.size s0)):Nat)≤9223372036854775807∧((ByteArray.size (s12++s0)+(ByteArray.size s1)):Nat)≤9223372036854775807∧((ByteArray.size (((s12++s0):ByteArray)++s1)+(ByteArray.size s11)):Nat)≤9223372036854775807∧((ByteArray.size (((((s12++s0):ByteArray)++s1):ByteArray)++s11)+(ByteArray.size s2)):Nat)≤9223372036854775807∧aa_ PR 47 #[.slice y4 ly4 cy4] w18 λv20 w19=>∃s13,v20=.string s13∧Fs S w [B0,B4,B5] w19∧((ByteArray.size (((((((s12++s0):ByteArray)++s1):ByteArray)++s11):ByteArray)++s2)+(ByteArray.size s13)):Nat)≤9223372036854775807∧aa_ PR 46 #[.string (((((((((s12++s0):ByteArray)++s1):ByteArray)++s11):ByteArray)++s2):ByteArray)++s13)] w19 λv21 w20=>∃s14 v22,v21=.tuple #[.string s14,v22]∧Fs S w [B0,B4,B5] w20∧K (.tuple #[.string s14,v22]) w20) w17∧aa_ PR 47 #[.slice y4 ly4 cy4] w17 λv23 w21=>∃s15,v23=.string s15∧Fs S w [B0,B4,B5] w21∧rn PR (convert 100 9 (.slice (some (⟨l1,0,none⟩)) 1 1)) (λv24 w22=>∃s16,v24=.string s16∧Fs S w [B0,B4,B5] w22∧((ByteArray.size s16+(ByteArray.size s0)):Nat)≤9223372036854775807∧((ByteArray.size (s16++s0)+(ByteArray.size s1)):Nat)≤9223372036854775807∧((ByteArray.size (((s16++s0):ByteArray)++s1)+(ByteArray.size s11)):Nat)≤9223372036854775807∧((ByteArray.size (((((s16++s0):ByteArray)++s1):ByteArray)++s11)+(ByteArray.size s2)):Nat)≤9223372036854775807∧((ByteArray.size (((((((s16++s0):ByteArray)++s1):ByteArray)++s11):ByteArray)++s2)+(ByteArray.size s15)):Nat)≤9223372036854775807∧aa_ PR 46 #[.string (((((((((s16++s0):ByteArray)++s1):ByteArray)++s11):ByteArray)++s2):ByteArray)++s15)] w22 λv25 w23=>∃s17 v26,v25=.tuple #[.string s17,v26]∧Fs S w [B0,B4,B5] w23∧K (.tuple #[.string s17,v26]) w23) w21)∧∀l4,w4.heap.size≤l4→(∀l5,w4.heap.size≤l5→(∀w24,Fr S w w4 [] [B0,⟨l4,#[.string z3],9,true⟩,⟨l5,#[.int .u8 (IntKind.wrap .u8 m0)],5,true⟩] w24→let B7:Blk:=⟨l5,#[.int .u8 (IntKind.wrap .u8 m0)],5,true⟩;let B6:Blk:=⟨l4,#[.string z3],9,true⟩;rn PR (convert 100 9 (.slice (some (⟨l5,0,none⟩)) 1 1)) (λv27 w25=>∃s18,v27=.string s18∧Fs S w [B0,B6,B7] w25∧((ByteArray.size s18+(ByteArray.size s0)):Nat)≤9223372036854775807∧((ByteArray.size (s18++s0)+(ByteArray.size s1)):Nat)≤9223372036854775807∧aa_ PR 47 #[.slice (some (⟨l4,0,none⟩)) 1 1] w25 λv28 w26=>∃s19,v28=.string s19∧Fs S w [B0,B6,B7] w26∧((ByteArray.size (((s18++s0):ByteArray)++s1)+(ByteArray.size s19)):Nat)≤9223372036854775807∧((ByteArray.size (((((s18++s0):ByteArray)++s1):ByteArray)++s19)+(ByteArray.size s2)):Nat)≤9223372036854775807∧aa_ PR 47 #[.slice y4 ly4 cy4] w26 λv29 w27=>∃s20,v29=.string s20∧Fs S w [B0,B6,B7] w27∧((ByteArray.size (((((((s18++s0):ByteArray)++s1):ByteArray)++s19):ByteArray)++s2)+(ByteArray.size s20)):Nat)≤9223372036854775807∧aa_ PR 46 #[.string (((((((((s18++s0):ByteArray)++s1):ByteArray)++s19):ByteArray)++s2):ByteArray)++s20)] w27 λv30 w28=>∃s21 v31,v30=.tuple #[.string s21,v31]∧Fs S w [B0,B6,B7] w28∧K (.tuple #[.string s21,v31]) w28) w24)∧∀w29,Fr S w w4 [] [B0,⟨l4,#[.string z3],9,true⟩,⟨l5,#[.int .u8 (IntKind.wrap .u8 m0)],5,true⟩] w29→let B9:Blk:=⟨l5,#[.int .u8 (IntKind.wrap .u8 m0)],5,true⟩;let B8:Blk:=⟨l4,#[.string z3],9,true⟩;aa_ PR 47 #[.slice (some (⟨l4,0,none⟩)) 1 1] w29 λv32 w30=>∃s22,v32=.string s22∧Fs S w [B0,B8,B9] w30∧rn PR (convert 100 9 (.slice (some (⟨l5,0,none⟩)) 1 1)) (λv33 w31=>∃s23,v33=.string s23∧Fs S w [B0,B8,B9] w31∧((ByteArray.size s23+(ByteArray.size s0)):Nat)≤9223372036854775807∧((ByteArray.size (s23++s0)+(ByteArray.size s1)):Nat)≤9223372036854775807∧((ByteArray.size (((s23++s0):ByteArray)++s1)+(ByteArray.size s22)):Nat)≤9223372036854775807∧((ByteArray.size (((((s23++s0):ByteArray)++s1):ByteArray)++s22)+(ByteArray.size s2)):Nat)≤9223372036854775807∧aa_ PR 47 #[.slice y4 ly4 cy4] w31 λv34 w32=>∃s24,v34=.string s24∧Fs S w [B0,B8,B9] w32∧((ByteArray.size (((((((s23++s0):ByteArray)++s1):ByteArray)++s22):ByteArray)++s2)+(ByteArray.size s24)):Nat)≤9223372036854775807∧aa_ PR 46 #[.string (((((((((s23++s0):ByteArray)++s1):ByteArray)++s22):ByteArray)++s2):ByteArray)++s24)] w32 λv35 w33=>∃s25 v36,v35=.tuple #[.string s25,v36]∧Fs S w [B0,B8,B9] w33∧K (.tuple #[.string s25,v36]) w33) w30∧aa_ PR 47 #[.slice y4 ly4 cy4] w30 λv37 w34=>∃s26,v37=.string s26∧Fs S w [B0,B8,B9] w34∧rn PR (convert 100 9 (.slice (some (⟨l5,0,none⟩)) 1 1)) (λv38 w35=>∃s27,v38=.string s27∧Fs S w [B0,B8,B9] w35∧((ByteArray.size s27+(ByteArray.size s0)):Nat)≤9223372036854775807∧((ByteArray.size (s27++s0)+(ByteArray.size s1)):Nat)≤9223372036854775807∧((ByteArray.size (((s27++s0):ByteArray)++s1)+(ByteArray.size s22)):Nat)≤9223372036854775807∧((ByteArray.size (((((s27++s0):ByteArray)++s1):ByteArray)++s22)+(ByteArray.size s2)):Nat)≤9223372036854775807∧((ByteArray.size (((((((s27++s0):ByteArray)++s1):ByteArray)++s22):ByteArray)++s2)+(ByteArray.size s26)):Nat)≤9223372036854775807∧aa_ PR 46 #[.string (((((((((s27++s0):ByteArray)++s1):ByteArray)++s22):ByteArray)++s2):ByteArray)++s26)] w35 λv39 w36=>∃s28 v40,v39=.tuple #[.string s28,v40]∧Fs S w [B0,B8,B9] w36∧K (.tuple #[.string s28,v40]) w36) w34)∧∀w37,Fr S w w4 [] [B0,⟨l4,#[.string z3],9,true⟩] w37→let B10:Blk:=⟨l4,#[.string z3],9,true⟩;aa_ PR 47 #[.slice (some (⟨l4,0,none⟩)) 1 1] w37 λv41 w38=>∃s29,v41=.string s29∧Fs S w [B0,B10] w38∧(∀l6,w38.heap.size≤l6→(∀w39,Fr S w w38 [] [B0,B10,⟨l6,#[.int .u8 (IntKind.wrap .u8 m0)],5,true⟩] w39→let B11:Blk:=⟨l6,#[.int .u8 (IntKind.wrap .u8 m0)],5,true⟩;rn PR (convert 100 9 (.slice (some (⟨l6,0,none⟩)) 1 1)) (λv42 w40=>∃s30,v42=.string s30∧Fs S w [B0,B10,B11] w40∧((ByteArray.size s30+(ByteArray.size s0)):Nat)≤9223372036854775807∧((ByteArray.size (s30++s0)+(ByteArray.size s1)):Nat)≤9223372036854775807∧((ByteArray.size (((s30++s0):ByteArray)++s1)+(ByteArray.size s29)):Nat)≤9223372036854775807∧((ByteArray.size (((((s30++s0):ByteArray)++s1):ByteArray)++s29)+(ByteArray.size s2)):Nat)≤9223372036854775807∧aa_ PR 47 #[.slice y4 ly4 cy4] w40 λv43 w41=>∃s31,v43=.string s31∧Fs S w [B0,B10,B11] w41∧((ByteArray.size (((((((s30++s0):ByteArray)++s1):ByteArray)++s29):ByteArray)++s2)+(ByteArray.size s31)):Nat)≤9223372036854775807∧aa_ PR 46 #[.string (((((((((s30++s0):ByteArray)++s1):ByteArray)++s29):ByteArray)++s2):ByteArray)++s31)] w41 λv44 w42=>∃s32 v45,v44=.tuple #[.string s32,v45]∧Fs S w [B0,B10,B11] w42∧K (.tuple #[.string s32,v45]) w42) w39)∧∀w43,Fr S w w38 [] [B0,B10,⟨l6,#[.int .u8 (IntKind.wrap .u8 m0)],5,true⟩] w43→let B12:Blk:=⟨l6,#[.int .u8 (IntKind.wrap .u8 m0)],5,true⟩;aa_ PR 47 #[.slice y4 ly4 cy4] w43 λv46 w44=>∃s33,v46=.string s33∧Fs S w [B0,B10,B12] w44∧rn PR (convert 100 9 (.slice (some (⟨l6,0,none⟩)) 1 1)) (λv47 w45=>∃s34,v47=.string s34∧Fs S w [B0,B10,B12] w45∧((ByteArray.size s34+(ByteArray.size s0)):Nat)≤9223372036854775807∧((ByteArray.size (s34++s0)+(ByteArray.size s1)):Nat)≤9223372036854775807∧((ByteArray.size (((s34++s0):ByteArray)++s1)+(ByteArray.size s29)):Nat)≤9223372036854775807∧((ByteArray.size (((((s34++s0):ByteArray)++s1):ByteArray)++s29)+(ByteArray.size s2)):Nat)≤9223372036854775807∧((ByteArray.size (((((((s34++s0):ByteArray)++s1):ByteArray)++s29):ByteArray)++s2)+(ByteArray.size s33)):Nat)≤9223372036854775807∧aa_ PR 46 #[.string (((((((((s34++s0):ByteArray)++s1):ByteArray)++s29):ByteArray)++s2):ByteArray)++s33)] w45 λv48 w46=>∃s35 v49,v48=.tuple #[.string s35,v49]∧Fs S w [B0,B10,B12] w46∧K (.tuple #[.string s35,v49]) w46) w44)∧aa_ PR 47 #[.slice y4 ly4 cy4] w38 λv50 w47=>∃s36,v50=.string s36∧Fs S w [B0,B10] w47∧∀l7,w47.heap.size≤l7→∀w48,Fr S w w47 [] [B0,B10,⟨l7,#[.int .u8 (IntKind.wrap .u8 m0)],5,true⟩] w48→rn PR (convert 100 9 (.slice (some (⟨l7,0,none⟩)) 1 1)) (λv51 w49=>∃s37,v51=.string s37∧Fs S w [B0,B10,⟨l7,#[.int .u8 (IntKind.wrap .u8 m0)],5,true⟩] w49∧((ByteArray.size s37+(ByteArray.size s0)):Nat)≤9223372036854775807∧((ByteArray.size (s37++s0)+(ByteArray.size s1)):Nat)≤9223372036854775807∧((ByteArray.size (((s37++s0):ByteArray)++s1)+(ByteArray.size s29)):Nat)≤9223372036854775807∧((ByteArray.size (((((s37++s0):ByteArray)++s1):ByteArray)++s29)+(ByteArray.size s2)):Nat)≤9223372036854775807∧((ByteArray.size (((((((s37++s0):ByteArray)++s1):ByteArray)++s29):ByteArray)++s2)+(ByteArray.size s36)):Nat)≤9223372036854775807∧aa_ PR 46 #[.string (((((((((s37++s0):ByteArray)++s1):ByteArray)++s29):ByteArray)++s2):ByteArray)++s36)] w49 λv52 w50=>∃s38 v53,v52=.tuple #[.string s38,v53]∧Fs S w [B0,B10,⟨l7,#[.int .u8 (IntKind.wrap .u8 m0)],5,true⟩] w50∧K (.tuple #[.string s38,v53]) w50) w48)∧(∀x0 v54,v1=.iface x0 v54→K (.tuple #[.string ⟨#[]⟩,v1]) w1)∧(v1=.nilIface∨∃l8 v55,v1=.iface l8 v55)):aa_ PR 20 ⟨[.agg #[.int .i64 m0,.int .i64 m1,.int .i64 m2,.string z3,.slice y4 ly4 cy4]]⟩ w K:=
 ab_ (okf:=⟨okL,[]⟩) ag_ (args:=[.a [.v (.int .i64 m0),.v (.int .i64 m1),.v (.int .i64 m2),.v (.string z3),.v (.slice y4 ly4 cy4)]]) (H:=[]) (.s (.r ⟨(some []),false,[],[]⟩) (.s (.s (.r ⟨(some [1]),false,[],[]⟩) .z) (.s (.r ⟨(some [1]),false,[],[]⟩) (.s (.r ⟨(some [1]),false,[],[]⟩) (.s (.r ⟨(some [1]),false,[],[]⟩) (.s (.r ⟨(some [1]),false,[],[]⟩) .z)))))) Go.Proofs.Tryz.func20 rfl ⟨⟨trivial,trivial,trivial,trivial,trivial,trivial⟩,trivial⟩ trivial (Fr.init S w) trivial (ae_ (by kernel_rfl) h)
theorem gv_ (z0:ByteArray) (S:SP) (K:KP) (w:World) (h:aa_ PR 119 #[.string z0,Iv 0] w λv0 w0=>∃s0 n0 v1,v0=.tuple #[.string s0,Iv n0,v1]∧Fs S w [] w0∧(v1=.nilIface→(n0<((ByteArray.size z0:Nat):Int)→(true:Bool)=true∧K (.tuple #[.string ⟨#[]⟩,.iface 224 (.agg #[Iv n0,.iface 80 (Iv 4)])]) w0)∧(¬(n0<((ByteArray.size z0:Nat):Int))→K (.tuple #[.string s0,.nilIface]) w0))∧(∀x0 v2,v1=.iface x0 v2→K (.tuple #[.string ⟨#[]⟩,v1]) w0)∧(v1=.nilIface∨∃l0 v3,v1=.iface l0 v3)):aa_ PR 72 ⟨[.string z0]⟩ w K:=
 ab_ (okf:=⟨okL,[]⟩) ag_ (args:=[.c (.v (.string z0))]) (H:=[]) (.s .z (.s (.r ⟨(some []),false,[],[]⟩) .z)) Go.Proofs.Tryz.func72 rfl ⟨trivial,trivial⟩ trivial (Fr.init S w) trivial (ae_ (by kernel_rfl) h)
theorem fK_ (m0:Int) (S:SP) (K:KP) (w:World) (h:(true:Bool)=true∧K (.iface 224 (.agg #[Iv m0,.iface 80 (Iv 4)])) w):aa_ PR 76 ⟨[.int .i64 m0]⟩ w K:=
 ab_ (okf:=⟨okL,[]⟩) ag_ (args:=[.c (.v (.int .i64 m0))]) (H:=[]) .z Go.Proofs.Tryz.func76 rfl ⟨trivial,trivial⟩ trivial (Fr.init S w) trivial (ae_ (by kernel_rfl) h)
theorem p1_ (k0:Nat) (z1:ByteArray) (m2:Int) (u3:Value) (S:SP) (K:KP) (w:World) (hF:Fs S w [⟨k0,#[.string z1,.int .i64 m2,u3],158,true⟩] w) (hS:S k0∧True) (h:(u3=.nilIface→(∀w0,Fr S w w [] [⟨k0,#[.string z1,Iv m2,u3],158,true⟩] w0→aa_ PR 122 #[.string z1,Iv m2] w0 λv0 w1=>∃n0 n1 v1,v0=.tuple #[Iv n0,Iv n1,v1]∧Fs S w [⟨k0,#[.string z1,Iv m2,u3],158,true⟩] w1∧(oneC v1:Bool)=true∧∀w2,Fr S w w1 [k0,k0] [⟨k0,#[.string z1,Iv n1,v1],158,true⟩] w2→K (Iv n0) w2)∧∀w3,Fr S w w [] [⟨k0,#[.string z1,Iv m2,u3],158,true⟩] w3→aa_ PR 122 #[.string z1,Iv m2] w3 λv2 w4=>∃n2 n3 v3,v2=.tuple #[Iv n2,Iv n3,v3]∧Fs S w [⟨k0,#[.string z1,Iv m2,u3],158,true⟩] w4∧(oneC v3:Bool)=true∧∀w5,Fr S w w4 [k0,k0] [⟨k0,#[.string z1,Iv n3,v3],158,true⟩] w5→K (Iv n2) w5)∧(∀x0 v4,u3=.iface x0 v4→K (Iv 0) w)∧(u3=.nilIface∨∃l0 v5,u3=.iface l0 v5)):aa_ PR 74 ⟨[.pointer (some ⟨k0,0,none⟩)]⟩ w K:=
 ab_ (okf:=⟨okL,[]⟩) ag_ (args:=[.c (.p 0 k0 true 0)]) (H:=[⟨k0,.l [.v (.string z1),.v (.int .i64 m2),.v u3],158,true⟩]) (.s .z (.s .z (.s (.s .z (.c (.r ⟨(some [0]),false,[0],[(998,[])]⟩) .z)) .z))) Go.Proofs.Tryz.func74 rfl ⟨rfl,trivial⟩ ⟨⟨trivial,⟨trivial,⟨trivial,trivial⟩⟩⟩,trivial⟩ hF hS (ae_ (by kernel_rfl) h)
theorem rL_ (k0:Nat) (z1:ByteArray) (m2:Int) (u3:Value) (S:SP) (K:KP) (w:World) (hF:Fs S w [⟨k0,#[.string z1,.int .i64 m2,u3],158,true⟩] w) (hS:S k0∧True) (h:(u3=.nilIface→(∀w0,Fr S w w [] [⟨k0,#[.string z1,Iv m2,u3],158,true⟩] w0→aa_ PR 123 #[.string z1,Iv m2,Iv 72057594037927935] w0 λv0 w1=>∃s0 n0 v1,v0=.tuple #[.string s0,Iv n0,v1]∧Fs S w [⟨k0,#[.string z1,Iv m2,u3],158,true⟩] w1∧(oneC v1:Bool)=true∧∀w2,Fr S w w1 [k0,k0] [⟨k0,#[.string z1,Iv n0,v1],158,true⟩] w2→K (.string s0) w2)∧∀w3,Fr S w w [] [⟨k0,#[.string z1,Iv m2,u3],158,true⟩] w3→aa_ PR 123 #[.string z1,Iv m2,Iv 72057594037927935] w3 λv2 w4=>∃s1 n1 v3,v2=.tuple #[.string s1,Iv n1,v3]∧Fs S w [⟨k0,#[.string z1,Iv m2,u3],158,true⟩] w4∧(oneC v3:Bool)=true∧∀w5,Fr S w w4 [k0,k0] [⟨k0,#[.string z1,Iv n1,v3],158,true⟩] w5→K (.string s1) w5)∧(∀x0 v4,u3=.iface x0 v4→K (.string ⟨#[]⟩) w)∧(u3=.nilIface∨∃l0 v5,u3=.iface l0 v5)):aa_ PR 75 ⟨[.pointer (some ⟨k0,0,none⟩)]⟩ w K:=
 ab_ (okf:=⟨okL,[]⟩) ag_ (args:=[.c (.p 0 k0 true 0)]) (H:=[⟨k0,.l [.v (.string z1),.v (.int .i64 m2),.v u3],158,true⟩]) (.s .z (.s .z (.s (.s .z (.c (.r ⟨(some [0]),false,[0],[(998,[])]⟩) .z)) .z))) Go.Proofs.Tryz.func75 rfl ⟨rfl,trivial⟩ ⟨⟨trivial,⟨trivial,⟨trivial,trivial⟩⟩⟩,trivial⟩ hF hS (ae_ (by kernel_rfl) h)
theorem mQ_ (z0:ByteArray) (S:SP) (K:KP) (w:World) (h:∀l0,w.heap.size≤l0→∀w0,Fr S w w [] [⟨l0,#[Iv 0,Iv 0,Iv 0,.string ⟨#[]⟩,.slice none 0 0],26,true⟩] w0→let B0:Blk:=⟨l0,#[Iv 0,Iv 0,Iv 0,.string ⟨#[]⟩,.slice none 0 0],26,true⟩;aa_ PR 72 #[.string z0] w0 λv0 w1=>∃s0 v1,v0=.tuple #[.string s0,v1]∧Fs S w [B0] w1∧(v1=.nilIface→aa_ PR 73 #[.string s0,Iv 0,Iv 1] w1 λv2 w2=>∃n0 n1 v3,v2=.tuple #[Iv n0,Iv n1,v3]∧Fs S w [B0] w2∧(oneC v3:Bool)=true∧∀l1,w2.heap.size≤l1→∀w3,Fr S w w2 [] [B0,⟨l1,#[.string s0,Iv n1,v3],158,true⟩] w3→aa_ PR 74 #[.pointer (some (⟨l1,0,none⟩))] w3 λv4 w4=>∃n2,v4=Iv n2∧∃s1 n3 v5,Fs S w [B0,⟨l1,#[.string s1,Iv n3,v5],158,true⟩] w4∧aa_ PR 74 #[.pointer (some (⟨l1,0,none⟩))] w4 λv6 w5=>∃n4,v6=Iv n4∧∃s2 n5 v7,Fs S w [B0,⟨l1,#[.string s2,Iv n5,v7],158,true⟩] w5∧aa_ PR 75 #[.pointer (some (⟨l1,0,none⟩))] w5 λv8 w6=>∃s3,v8=.string s3∧∃s4 n6 v9,Fs S w [B0,⟨l1,#[.string s4,Iv n6,v9],158,true⟩] w6∧∀l2,w6.heap.size≤l2→∀w7,Fr S w w6 [l2] [B0,⟨l1,#[.string s4,Iv n6,v9],158,true⟩,⟨l2,#[Iv n0,Iv n2,Iv n4,.string s3,.slice none 0 0],26,true⟩] w7→aa_ PR 74 #[.pointer (some (⟨l1,0,none⟩))] w7 λv10 w8=>∃n7,v10=Iv n7∧∃s5 n8 v11,Fs S w [B0,⟨l1,#[.string s5,Iv n8,v11],158,true⟩,⟨l2,#[Iv n0,Iv n2,Iv n4,.string s3,.slice none 0 0],26,true⟩] w8∧(n7>20→aa_ PR 76 #[Iv 0] w8 λv12 w9=>∃v13,v12=v13∧Fs S w [B0] w9∧∀w10,Fr S w w9 [l0] [] w10→K (.tuple #[.agg #[Iv 0,Iv 0,Iv 0,.string ⟨#[]⟩,.slice none 0 0],v13]) w10)∧(¬(n7>20)→∃I0:Int→ByteArray→Int→Value→Int→Int→Int→ByteArray→(Option Addr)→Nat→Nat→Nat→World→Prop,(∃l3,I0 0 s5 n8 v11 n0 n2 n4 s3 none 0 0 l3 w8)∧∀n9 s6 n10 v14 n11 n12 n13 s7 q0 l4 l5,∀D0:Nat→Value,∀l6 w11,I0 n9 s6 n10 v14 n11 n12 n13 s7 q0 l4 l5 l6 w11→Fs S w [B0,⟨l1,#[.string s6,Iv n10,v14],158,true⟩,⟨l2,#[Iv n11,Iv n12,Iv n13,.string s7,.slice q0 l4 l5],26,true⟩] w11→let B2:Blk:=⟨l2,#[Iv n11,Iv n12,Iv n13,.string s7,.slice q0 l4 l5],26,true⟩;let B1:Blk:=⟨l1,#[.string s6,Iv n10,v14],158,true⟩;(n9<n7→∀w12,Fr S w w11 [] [B0,B1,B2] w12→∃I1:World→Prop,I1 w12∧Dr (some (⟨l2,4,none⟩)) λa0=>∃q1 l7 l8,(∀w13,I1 w13→World.cell? w13 a0=some (.slice q1 l7 l8))∧aa_ PR 75 #[.pointer (some (⟨l1,0,none⟩))] w12 λv15 w14=>∃s8,v15=.string s8∧∃s9 n14 v16,Fs S w [B0,⟨l1,#[.string s9,Iv n14,v16],158,true⟩,B2] w14∧let B3:Blk:=⟨l1,#[.string s9,Iv n14,v16],158,true⟩;I1 w14∧∀l9,w14.heap.size≤l9→∀w15,Fr S w w14 [] [B0,B3,B2,⟨l9,#[.string s8],9,true⟩] w15→I1 w15∧rn PR (Builtin.append_ #[24,24] 24 #[.slice q1 l7 l8,.slice (some (⟨l9,0,none⟩)) 1 1]) (λv17 w16=>∃q2 l10 l11,v17=.slice q2 l10 l11∧Fs S w [B0,B3,B2,⟨l9,#[.string s8],9,true⟩] w16∧I1 w16∧∀w17,Fr S w w16 [l2] [B0,B3,⟨l2,#[Iv n11,Iv n12,Iv n13,.string s7,.slice q2 l10 l11],26,true⟩,⟨l9,#[.string s8],9,true⟩] w17→∃l12,l12<l6∧I0 (IntKind.wrap .i64 (n9+1)) s9 n14 v16 n11 n12 n13 s7 q2 l10 l11 l12 w17) w15)∧(¬(n9<n7)→(v14=.nilIface→(n10<((ByteArray.size s0:Nat):Int)→aa_ PR 76 #[Iv n10] w11 λv18 w18=>∃v19,v18=v19∧Fs S w [B0,B1] w18∧∀w19,Fr S w w18 [l0] [] w19→K (.tuple #[.agg #[Iv 0,Iv 0,Iv 0,.string ⟨#[]⟩,.slice none 0 0],v19]) w19)∧(¬(n10<((ByteArray.size s0:Nat):Int))→aa_ PR 44 #[.agg #[Iv n11,Iv n12,Iv n13,.string s7,.slice q0 l4 l5]] w11 λv20 w20=>∃v21,v20=v21∧Fs S w [B0,B2] w20∧(v21=.nilIface→∀w21,Fr S w w20 [l0] [] w21→K (.tuple #[.agg #[Iv n11,Iv n12,Iv n13,.string s7,.slice q0 l4 l5],.nilIface]) w21)∧(∀x0 v22,v21=.iface x0 v22→aa_ PR 76 #[Iv 0] w20 λv23 w22=>∃v24,v23=v24∧Fs S w [B0] w22∧∀w23,Fr S w w22 [l0] [] w23→K (.tuple #[.agg #[Iv 0,Iv 0,Iv 0,.string ⟨#[]⟩,.slice none 0 0],v24]) w23)∧(v21=.nilIface∨∃l13 v25,v21=.iface l13 v25)))∧(∀x1 v26,v14=.iface x1 v26→∀w24,Fr S w w11 [] [B0,B1] w24→∃I2:World→Prop,I2 w24∧∀w25,Fr S w w24 [l0] [B0,B1] w25→I2 w25∧K (.tuple #[.agg #[Iv 0,Iv 0,Iv 0,.string ⟨#[]⟩,.slice none 0 0],v14]) w25)∧(v14=.nilIface∨∃l14 v27,v14=.iface l14 v27))))∧(∀x2 v28,v1=.iface x2 v28→∀w26,Fr S w w1 [l0] [] w26→K (.tuple #[.agg #[Iv 0,Iv 0,Iv 0,.string ⟨#[]⟩,.slice none 0 0],v1]) w26)∧(v1=.nilIface∨∃l15 v29,v1=.iface l15 v29)):aa_ PR 41 ⟨[.string z0]⟩ w K:=
 ab_ (okf:=⟨okL,[]⟩) ag_ (args:=[.c (.v (.string z0))]) (H:=[]) (.s (.r ⟨(some []),true,[],[]⟩) (.s (.r ⟨(some [2]),true,[],[]⟩) (.s (.s .z (.c (.s (.r ⟨(some [2]),true,[],[]⟩) .z) .z)) (.s (.r ⟨(some [2]),true,[],[]⟩) (.s (.r ⟨(some [2]),true,[],[]⟩) (.s (.r ⟨(some [2,8]),true,[],[(2,[999]),(4,[999]),(6,[999])]⟩) (.s (.r ⟨(some [2,8,9]),true,[],[(1,[999])]⟩) (.s (.s .z (.c (.s (.r ⟨(some [2]),true,[],[]⟩) .z) .z)) (.s (.s .z (.b (.l (some [2,8,9]) (some [2,8,9]) [(46,.c (.int .i64))] [8,9] (.s .z (.s .z (.s (.b (.r ⟨(some [2,8,9]),true,[8,9],[(3,[999])]⟩)) .z)))))) (.s (.b (.s .z (.c (.s (.r ⟨(some [2,8]),true,[2],[]⟩) .z) (.s .z (.c (.s (.r ⟨(some [2,8]),true,[],[]⟩) .z) (.s (.r ⟨(some [2,9]),true,[],[]⟩) (.c (.s (.r ⟨(some [2]),true,[],[]⟩) .z) .z))))))) (.s (.r ⟨(some [2,9]),true,[],[]⟩) .z))))))))))) Go.Proofs.Tryz.func41 rfl ⟨trivial,trivial⟩ trivial (Fr.init S w) trivial (ae_ (by kernel_rfl) h)
theorem p2_ (m0:Int) (m1:Int) (m2:Int) (z3:ByteArray) (y4:Option Addr) (ly4:Nat) (cy4:Nat) (m5:Int) (m6:Int) (m7:Int) (z8:ByteArray) (y9:Option Addr) (ly9:Nat) (cy9:Nat) (S:SP) (K:KP) (w:World) (h:∀l0,w.heap.size≤l0→∀l1,w.heap.size≤l1→(m0=m5→(m1=m6→(m2=m7→(z3=z8→∀w0,Fr S w w [] [⟨l0,#[Iv m0,Iv m1,Iv m2,.string z3,.slice y4 ly4 cy4],26,true⟩,⟨l1,#[Iv m5,Iv m6,Iv m7,.string z8,.slice y9 ly9 cy9],26,true⟩] w0→aa_ PR 48 #[.slice y4 ly4 cy4,.slice y9 ly9 cy9] w0 λv0 w1=>∃b0,v0=.bool b0∧(b0=true→Fs S w [⟨l0,#[Iv m0,Iv m1,Iv m2,.string z3,.slice y4 ly4 cy4],26,true⟩,⟨l1,#[Iv m5,Iv m6,Iv m7,.string z8,.slice y9 ly9 cy9],26,true⟩] w1∧K (.bool true) w1)∧(b0=false→Fs S w [⟨l0,#[Iv m0,Iv m1,Iv m2,.string z3,.slice y4 ly4 cy4],26,true⟩,⟨l1,#[Iv m5,Iv m6,Iv m7,.string z8,.slice y9 ly9 cy9],26,true⟩] w1∧K (.bool false) w1))∧(¬(z3=z8)→∀w2,Fr S w w [] [] w2→K (.bool false) w2))∧(¬(m2=m7)→∀w3,Fr S w w [] [] w3→K (.bool false) w3))∧(¬(m1=m6)→∀w4,Fr S w w [] [] w4→K (.bool false) w4))∧(¬(m0=m5)→∀w5,Fr S w w [] [] w5→K (.bool false) w5)):aa_ PR 28 ⟨[.agg #[.int .i64 m0,.int .i64 m1,.int .i64 m2,.string z3,.slice y4 ly4 cy4],.agg #[.int .i64 m5,.int .i64 m6,.int .i64 m7,.string z8,.slice y9 ly9 cy9]]⟩ w K:=
 ab_ (okf:=⟨okL,[]⟩) ag_ (args:=[.a [.v (.int .i64 m0),.v (.int .i64 m1),.v (.int .i64 m2),.v (.string z3),.v (.slice y4 ly4 cy4)],.a [.v (.int .i64 m5),.v (.int .i64 m6),.v (.int .i64 m7),.v (.string z8),.v (.slice y9 ly9 cy9)]]) (H:=[]) (.s (.r ⟨(some []),false,[],[]⟩) (.s (.r ⟨(some [2,3]),false,[],[]⟩) .z)) Go.Proofs.Tryz.func28 rfl ⟨⟨trivial,trivial,trivial,trivial,trivial,trivial⟩,⟨trivial,trivial,trivial,trivial,trivial,trivial⟩,trivial⟩ trivial (Fr.init S w) trivial (ae_ (by kernel_rfl) h)
end Go.Vc
namespace Go.Vc
open Go
theorem on_ {k v i:Int} {z:ByteArray} {y:Option Addr} {l c:Nat} {w:World} {K:Value→World→Prop} (hK:∀w',Grow w w'→K (.bool (jr_ k v i z.size l)) w'):aa_ PR F.dF_ ⟨[.agg #[.int .i64 k,.int .i64 v,.int .i64 i,.string z,.slice y l c]]⟩ w K:=by
 have hz:z=⟨#[]⟩↔z.size=0:=⟨λh=>by rw [h];rfl,λh=>by
  apply ByteArray.ext
  exact Array.eq_empty_of_size_eq_zero h⟩
 have leaf:∀ {w0:World} {b:Bool},Fr S0 w w [] [] w0→jr_ k v i z.size l=b→K (.bool b) w0:=λhF e=>e ▸ hK _ hF.gr
 refine dF_ k v i z y l c S0 K w λl0 hl0=>?_
 simp only [hz]
 repeat' (first | (refine ⟨λh=>?_,λh=>?_⟩) | (intro w0 hF0;refine leaf hF0 ?_))
 all_goals (unfold jr_;simp_all <;> omega)
theorem lS_ {ps:List (List UInt8)} {q:Option Addr} {c:Nat} {w:World} (hs:Sl w q (ps.map sv8')) (hn:ps.length≤100000) {K:Value→World→Prop} (h1:(∀p∈ps,p.length=32)→∀w',Grow w w'→K (.bool false) w') (h2:¬(∀p∈ps,p.length=32)→∀w',Grow w w'→K (.bool true) w') :
  aa_ PR F.br_ ⟨[.slice q ps.length c,.func (.func F.gk_) #[] #[]]⟩ w K:=by
 have h0:Fs S0 w [] w:=Fr.init _ w
 refine ix_ q ps.length c S0 K w ?_
 refine lH_ q ps.length c S0 _ w ⟨λi m w'=>∃k:Nat,i=k∧k≤ps.length∧m=ps.length - k∧∀j,(hj:j<ps.length)→j<k→ps[j].length=32,⟨_,0,rfl,by omega,rfl,λj hj h=>by omega⟩,?_⟩
 rintro i D m w1 ⟨k,rfl,hk,rfl,hd⟩ hF1
 refine ⟨λhlt=>?_,λhge=>⟨_,rfl,hF1,λh=>by omega,λ_=>h1 (λp hp=>?_) w1 hF1.gr⟩⟩
 ·have hk':k<ps.length:=by omega
  refine (hs.grow hF1.gr).rd (v:=sv8' ps[k]) (by simp) (by omega) (by simp [hk']) λa ha=>⟨_,ha,?_⟩
  refine gk_ (str ps[k]) S0 _ w1 ⟨λh=>⟨false,rfl,(λh=>by cases h),λ_=>⟨hF1,ps.length - (k+1),by omega,k+1,by rw [w64 (by omega) (by omega)];rfl,by omega,rfl,λj hj hjk=>?_⟩⟩,λh=>⟨true,rfl,(λ_=>⟨hF1,_,rfl,hF1,λ_=>h2 (λhall=>h ?_) w1 hF1.gr,λhh=>by omega⟩),λh=>by cases h⟩⟩
  ·by_cases e:j=k
   ·subst e;rw [af_] at h;omega
   ·exact hd j hj (by omega)
  ·rw [af_,hall _ (List.getElem_mem hk')];rfl
 ·obtain ⟨j,hj,rfl⟩:=List.getElem_of_mem hp
  exact hd j hj (by omega)
def fM_ (m:MsgL) (q:Option Addr) (c:Nat):Value:=.agg #[.int .i64 m.kind,.int .i64 m.ver,.int .i64 m.i,.string (str m.text),.slice q m.proof.length c]
theorem fY_ {m:MsgL} {q:Option Addr} {c:Nat} {w:World} (hs:Sl w q (m.proof.map sv8')) {K:Value→World→Prop} (h1:e6_ m→∀w',Grow w w'→K .nilIface w') (h2:¬e6_ m→∀w',Grow w w'→K (.iface T.am_ (.int .i64 4)) w') :
  aa_ PR F.fL_ ⟨[fM_ m q c]⟩ w K:=by
 refine fL_ m.kind m.ver m.i (str m.text) q m.proof.length c S0 K w λl0 hl0=>⟨λh w0 hF=>h2 (λok=>?_) w0 hF.gr,λha=>⟨λh w0 hF=>h2 (λok=>?_) w0 hF.gr,λhb=>⟨λh w0 hF=>h2 (λok=>?_) w0 hF.gr,λhc=>⟨λh w0 hF=>h2 (λok=>?_) w0 hF.gr,λhd w4 hF4=>?_⟩⟩⟩⟩
 ·have:=ok.1;have:=ok.2.1;split at h <;> omega
 ·have:=ok.1;have:=ok.2.1;split at h <;> omega
 ·have:=ok.2.2.1;rw [af_] at h;omega
 ·have:=ok.2.2.2.1;omega
 have hF4':=hF4.reset
 refine lS_ (hs.grow hF4.gr) (by omega) (λhall w5 g5=>⟨false,rfl,(λh=>by cases h),λ_=>⟨hF4'.after g5,?_⟩⟩) λhno w5 g5=>⟨true,rfl,(λ_=>⟨hF4'.after g5,h2 (λok=>hno ok.2.2.2.2.1) w5 (hF4'.after g5).gr⟩),λh=>by cases h⟩
 have hF5:=hF4'.after g5
 refine on_ λw6 g6=>⟨_,rfl,λht=>⟨hF5.after g6,h1 ?_ w6 (hF5.after g6).gr⟩,λhf=>⟨hF5.after g6,h2 (λok=>?_) w6 (hF5.after g6).gr⟩⟩
 ·rw [af_] at hc ht
  have e1:0≤m.ver∧0≤m.i:=by split at ha <;> omega
  have e2:m.ver≤1099511627776∧m.i≤1099511627776:=by split at hb <;> omega
  exact ⟨⟨e1.1,e2.1⟩,⟨e1.2,e2.2⟩,by omega,by omega,hall,ht⟩
 ·rw [af_] at hf
  have:=ok.2.2.2.2.2
  rw [hf] at this
  cases this
end Go.Vc
namespace Go.Vc
open Go
theorem F_ec (a:Int) (c:Nat):isEC c (F a (E c)):=.inr ⟨a,rfl⟩
theorem iJ_ {l:List UInt8} {a:Nat} (hl:l.length≤1099511627776) (ha:a≤l.length) {w:World} {K:Value→World→Prop}
  (h1:∀x b,shL l a=.inl (x,b)→K (.tuple #[.int .i64 (x:Int),.int .i64 (b:Int),.nilIface]) w)
  (h2:∀c v,shL l a=.inr c→isEC c v→K (.tuple #[.int .i64 0,.int .i64 (a:Int),v]) w):aa_ PR F.bi_ ⟨[.string (str l),.int .i64 (a:Int)]⟩ w K:=by
 refine eB_ (by rw [af_];omega) (λh=>absurd ⟨by omega,by rw [af_];omega⟩ h) λ_=>?_
 rw [be_,Int.toNat_natCast]
 cases hg:aF_ 0 0 (l.drop a) with
 | inl p=>
  obtain ⟨x,k⟩:=p
  have:=h1 x (a+k) (by unfold shL;rw [hg])
  show K (.tuple #[.int .i64 (x:Int),.int .i64 ((a:Int)+(k:Nat)),.nilIface]) w
  rw [show (a:Int)+(k:Nat)=((a+k:Nat):Int) by omega]
  exact this
 | inr c=>
  have hs:shL l a=.inr c:=by unfold shL;rw [hg]
  rcases if_ _ _ _ _ hg with rfl | rfl
  ·exact h2 3 _ hs (F_ec _ 3)
  ·exact h2 4 _ hs (F_ec _ 4)
theorem oI_ {l:List UInt8} {a:Nat} (hl:l.length≤1099511627776) (ha:a≤l.length) {w:World} {K:Value→World→Prop}
  (h1:∀t b,txL l a=.inl (t,b)→K (.tuple #[.string (str t),.int .i64 (b:Int),.nilIface]) w)
  (h2:∀c v,txL l a=.inr c→isEC c v→K (.tuple #[.string ⟨#[]⟩,.int .i64 (a:Int),v]) w):aa_ PR F.cv_ ⟨[.string (str l),.int .i64 (a:Int),.int .i64 72057594037927935]⟩ w K:=by
 have h0:Fs S0 w [] w:=Fr.init _ w
 refine cv_ (str l) a 72057594037927935 S0 K w (iJ_ hl ha (λx b hx=>?_) λc v hc hv=>?_)
 ·have hle:=pt_ ha hx
  refine ⟨_,_,_,rfl,h0,λ_=>⟨λh=>by omega,λ_=>⟨λh=>?_,λh=>?_⟩⟩,(λt x h=>by cases h),.inl rfl⟩
  ·rw [af_,w64 (by omega) (by omega)] at h
   refine cx_ (n:=((ByteArray.size (str l):Nat):Int)) (v:=E 3) rfl ⟨_,rfl,h0,h2 3 _ ?_ (F_ec _ 3)⟩
   unfold txL;rw [hx];simp only [];rw [if_pos (by omega)]
  ·rw [af_,w64 (by omega) (by omega)] at h
   rw [af_,w64 (by omega) (by omega)]
   refine ⟨by omega,by omega,by omega,by omega,?_⟩
   have:=h1 ((l.drop b).take x) (b+x) (by unfold txL;rw [hx];simp only [];rw [if_neg (by omega)])
   have ex:ByteArray.extract (str l) (Int.toNat (b:Int)) (Int.toNat ((b:Int)+(x:Int)))=str ((l.drop b).take x):=by
    rw [a6_,Int.toNat_natCast,show Int.toNat ((b:Int)+(x:Int)) - b=x by omega]
   rw [ex,show (b:Int)+(x:Int)=((b+x:Nat):Int) by omega]
   exact this
 ·obtain ⟨t,x,rfl⟩:=hv.err
  refine ⟨_,_,_,rfl,h0,(λh=>by cases h),λt' x' h=>?_,.inr ⟨_,_,rfl⟩⟩
  exact h2 c _ (by unfold txL;rw [hc]) hv
def errV (e:Option Nat) (v:Value):Prop:=match e with
 | none=>v=.nilIface
 | some c=>isEC c v
theorem errV.cases {e:Option Nat} {v:Value} (h:errV e v):v=.nilIface∨∃t x,v=.iface t x:=by
 cases e with
 | none=>exact .inl h
 | some c=>exact .inr (isEC.err h)
theorem isEC.one {c:Int} {v:Value} (h:isEC c v):oneC v=true:=by
 rcases h with rfl | ⟨a,rfl⟩ <;> rfl
theorem fa_ {l:List UInt8} {s:RS} {v:Value} (hl:l.length≤1099511627776) (hs:s.1≤l.length) (hv:errV s.2 v) {w:World} {b:Nat} (hb:w.heap[b]? = some (.cells #[.string (str l),.int .i64 (s.1:Int),v] T.aY_ (0,0))) {K:Value→World→Prop}
  (hK:∀w' v',errV (rsS l s).2.2 v'→w'.heap[b]? = some (.cells #[.string (str l),.int .i64 ((rsS l s).2.1:Int),v'] T.aY_ (0,0))→Chg (· = b) w w'→K (.int .i64 ((rsS l s).1:Int)) w'):aa_ PR F.fA_ ⟨[.pointer (some ⟨b,0,none⟩)]⟩ w K:=by
 have hF:Fs (· = b) w [⟨b,#[.string (str l),.int .i64 (s.1:Int),v],T.aY_,true⟩] w:=(Fr.init _ w).entry hb (λx h=>by cases h) λ_=>rfl
 refine p1_ b (str l) s.1 v (· = b) K w hF ⟨rfl,trivial⟩ ⟨λhn=>?_,λt x he=>?_,hv.cases⟩
 ·have e2:s.2=none:=by
   cases h:s.2 with
   | none=>rfl
   | some c=>
    rw [h] at hv
    obtain ⟨t,x,e⟩:=isEC.err hv
    rw [hn] at e;cases e
  have one:∀w0:World,Fr (· = b) w w [] [⟨b,#[.string (str l),.int .i64 (s.1:Int),v],T.aY_,true⟩] w0→aa_ PR F.bi_ #[.string (str l),.int .i64 (s.1:Int)] w0 (λv0 w1=>∃n0:Int,∃n1:Int,∃v1:Value,v0=.tuple #[.int .i64 n0,.int .i64 n1,v1]∧Fs (· = b) w [⟨b,#[.string (str l),.int .i64 (s.1:Int),v],T.aY_,true⟩] w1∧(oneC v1:Bool)=true∧∀w2:World,Fr (· = b) w w1 [b,b] [⟨b,#[.string (str l),.int .i64 n1,v1],T.aY_,true⟩] w2→K (.int .i64 n0) w2):=λw0 hF0=>by
   refine iJ_ hl hs (λx a hx=>⟨_,_,_,rfl,hF0.reset,rfl,λw2 hF2=>?_⟩) λc v' hc hv'=>⟨_,_,_,rfl,hF0.reset,hv'.one,λw2 hF2=>?_⟩
   ·have er:rsS l s=(x,(a,none)):=by unfold rsS;rw [e2];simp only [];rw [hx]
    have:=hK w2 .nilIface (by rw [er];rfl) (by rw [er];exact hF2.blk 0 rfl) hF2.chg
    rw [er] at this
    exact this
   ·have er:rsS l s=(0,(s.1,some c)):=by unfold rsS;rw [e2];simp only [];rw [hc]
    have:=hK w2 v' (by rw [er];exact hv') (by rw [er];exact hF2.blk 0 rfl) hF2.chg
    rw [er] at this
    exact this
  exact ⟨one,one⟩
 ·have e2:∃c,s.2=some c:=by
   cases h:s.2 with
   | none=>rw [h] at hv;have e:v=.nilIface:=hv;rw [e] at he;cases he
   | some c=>exact ⟨c,rfl⟩
  obtain ⟨c,e2⟩:=e2
  have er:rsS l s=(0,s):=by unfold rsS;rw [e2]
  have:=hK w v (by rw [er];exact hv) (by rw [er];exact hb) (.refl _ _)
  rw [er] at this
  exact this
theorem jv_ {l:List UInt8} {s:RS} {v:Value} (hl:l.length≤1099511627776) (hs:s.1≤l.length) (hv:errV s.2 v) {w:World} {b:Nat} (hb:w.heap[b]? = some (.cells #[.string (str l),.int .i64 (s.1:Int),v] T.aY_ (0,0))) {K:Value→World→Prop}
  (hK:∀w' v',errV (rsT l s).2.2 v'→w'.heap[b]? = some (.cells #[.string (str l),.int .i64 ((rsT l s).2.1:Int),v'] T.aY_ (0,0))→Chg (· = b) w w'→K (.string (str (rsT l s).1)) w'):aa_ PR F.gd_ ⟨[.pointer (some ⟨b,0,none⟩)]⟩ w K:=by
 have hF:Fs (· = b) w [⟨b,#[.string (str l),.int .i64 (s.1:Int),v],T.aY_,true⟩] w:=(Fr.init _ w).entry hb (λx h=>by cases h) λ_=>rfl
 refine rL_ b (str l) s.1 v (· = b) K w hF ⟨rfl,trivial⟩ ⟨λhn=>?_,λt x he=>?_,hv.cases⟩
 ·have e2:s.2=none:=by
   cases h:s.2 with
   | none=>rfl
   | some c=>
    rw [h] at hv
    obtain ⟨t,x,e⟩:=isEC.err hv
    rw [hn] at e;cases e
  have one:∀w0:World,Fr (· = b) w w [] [⟨b,#[.string (str l),.int .i64 (s.1:Int),v],T.aY_,true⟩] w0→aa_ PR F.cv_ #[.string (str l),.int .i64 (s.1:Int),.int .i64 72057594037927935] w0 (λv0 w1=>∃n0:ByteArray,∃n1:Int,∃v1:Value,v0=.tuple #[.string n0,.int .i64 n1,v1]∧Fs (· = b) w [⟨b,#[.string (str l),.int .i64 (s.1:Int),v],T.aY_,true⟩] w1∧(oneC v1:Bool)=true∧∀w2:World,Fr (· = b) w w1 [b,b] [⟨b,#[.string (str l),.int .i64 n1,v1],T.aY_,true⟩] w2→K (.string n0) w2):=λw0 hF0=>by
   refine oI_ hl hs (λx a hx=>⟨_,_,_,rfl,hF0.reset,rfl,λw2 hF2=>?_⟩) λc v' hc hv'=>⟨_,_,_,rfl,hF0.reset,hv'.one,λw2 hF2=>?_⟩
   ·have er:rsT l s=(x,(a,none)):=by unfold rsT;rw [e2];simp only [];rw [hx]
    have:=hK w2 .nilIface (by rw [er];rfl) (by rw [er];exact hF2.blk 0 rfl) hF2.chg
    rw [er] at this
    exact this
   ·have er:rsT l s=([],(s.1,some c)):=by unfold rsT;rw [e2];simp only [];rw [hc]
    have:=hK w2 v' (by rw [er];exact hv') (by rw [er];exact hF2.blk 0 rfl) hF2.chg
    rw [er] at this
    exact this
  exact ⟨one,one⟩
 ·have e2:∃c,s.2=some c:=by
   cases h:s.2 with
   | none=>rw [h] at hv;have e:v=.nilIface:=hv;rw [e] at he;cases he
   | some c=>exact ⟨c,rfl⟩
  obtain ⟨c,e2⟩:=e2
  have er:rsT l s=([],s):=by unfold rsT;rw [e2]
  have:=hK w v (by rw [er];exact hv) (by rw [er];exact hb) (.refl _ _)
  rw [er] at this
  exact this
end Go.Vc
