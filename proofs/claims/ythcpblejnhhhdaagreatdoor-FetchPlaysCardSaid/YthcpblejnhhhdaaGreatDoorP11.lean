/-
  A part of the proof of the statement FetchPlaysCardSaid, in Lean: Khh, MirD4, Hs4, Ac1, Ac2, Ac5, Pr6, Gr1, Cn, Ce, Pt0, Hs5, Khw, MirF5, Wa1, Wa2, Is2. By an AI agent.
-/
import Derived.Test.YthcpblejnhhhdaaGreatDoorP10
import Derived.Test.YthcpblejnhhhdaaGreatDoorP09
import Derived.Test.YthcpblejnhhhdaaGreatDoorP02
import Derived.Test.YthcpblejnhhhdaaGreatDoorP06
import Derived.Test.YthcpblejnhhhdaaGreatDoorP07
import Derived.Test.YthcpblejnhhhdaaGreatDoorP05
import Derived.Test.YthcpblejnhhhdaaGreatDoorP08
set_option linter.unusedSimpArgs false
set_option linter.unusedVariables false
set_option maxRecDepth 100000
namespace Go.Vc
open Go Go.RowKit Go.Maps Go.Sort Go.Shelf Go.Proofs Go.MapKept
open Go.WideElems (Fit rd rg rd_mk)
theorem lt_ {H:Type} {a:Lit × DataW H} : ∀l:List (Lit × DataW H),(DataW.insert a l).Perm (a :: l)
 | []=>by simp [DataW.insert]
 | y :: r=>by
  unfold DataW.insert
  split
  ·exact .refl _
  ·exact ((lt_ r).cons y).trans (.swap _ _ _)
theorem dN_ {H:Type} : ∀l:List (Lit × DataW H),(l.foldr DataW.insert []).Perm l
 | []=>.refl _
 | a :: l=>(lt_ _).trans ((dN_ l).cons a)
theorem f__ {ss:List Int} (hn:ss.Nodup):(ss.mergeSort λx y=>decide (x≤y)).Pairwise (· < ·):=by
 have tr:∀a b c:Int,decide (a≤b)=true→decide (b≤c)=true→decide (a≤c)=true:=λa b c h1 h2=>by simp only [decide_eq_true_eq] at *;exact Int.le_trans h1 h2
 have to:∀a b:Int,(decide (a≤b) || decide (b≤a))=true:=λa b=>by simp only [Bool.or_eq_true,decide_eq_true_eq];exact Int.le_total a b
 have h1:=List.pairwise_mergeSort (le:=λx y=>decide (x≤y)) tr to ss
 have h2:(ss.mergeSort λx y=>decide (x≤y)).Nodup:=(List.mergeSort_perm ss _).nodup_iff.2 hn
 rw [List.nodup_iff_pairwise_ne] at h2
 refine (h1.and h2).imp λ⟨h,hne⟩=>?_
 simp only [decide_eq_true_eq] at h
 exact Int.lt_iff_le_and_ne.2 ⟨h,hne⟩
theorem of_ {w:World} {mb:Option Nat} {K:Value→World→Prop} (hK:∀w' b,Grow w w'→b<w'.heap.size→w'.cell? ⟨b,0,none⟩=some (.map mb)→K (.func (.func 110) #[] #[.pointer (some ⟨b,0,none⟩)]) w'):aa_ PR 53 #[.map mb] w K:=by
 have cK:CallsIn Fence.wide 5 Tryz.prog 53 #[.map mb] w λe w'=>e=.returned (.func (.func 110) #[] #[.pointer (some ⟨w.heap.size,0,none⟩)])∧w'=w.alloc (.cells #[.map mb] 93):=AnyZI.keys_in Tryz.keysH Fence.wide 5 trivial rfl mb w
 refine bj_ ((callsIn_wide (n:=5)).1 cK) λe w' ⟨he,hw⟩=>⟨_,he,?_⟩
 subst hw
 exact hK _ _ (Chg.alloc w _) (by simp) (by simp)
theorem lK_ {w:World} {b m:Nat} {l:List (Int × Value)} (hB:w.cell? ⟨b,0,none⟩=some (.map (some m))) (hbl:b<w.heap.size) (hM:MapI w m l) (hsz:l.length≤1000000) {K:Value→World→Prop}
  (hK:∀w' q c (L:List Int),Grow w w'→L.length=l.length→Sl w' q (L.map Iv)→(∀i,i∈L↔i∈l.map (·.1))→L.Pairwise (· < ·)→K (.slice q l.length c) w'):aa_ PR 41 #[.func (.func 110) #[] #[.pointer (some ⟨b,0,none⟩)]] w K:=by
 obtain ⟨es,clock,hm,hst,hes,hl1,hin⟩:=hM.ex
 have hk:∀x∈es.toList,∃l,keyOf PR T.int x.key=some l:=λx hx=>by
  obtain ⟨p,hp,e,_⟩:=hl1 x hx
  exact ⟨_,by rw [e];exact b0_ (hM.fit p hp).1 (hM.fit p hp).2⟩
 have hsz':es.size≤1000000:=by omega
 let R0:Value→Option (DataW Unit × List MemPlace):=λ_=>some (.nil,[])
 have F0:Fit PR T.int R0 es clock:=⟨Nat.le_trans hsz' (by decide),hst,λx hx=>by
  obtain ⟨l,hl⟩:=hk x hx
  exact ⟨_,rd_mk (born:=x.born) hl rfl⟩⟩
 have hown:w.ownsMap PR T.int R0 m es.size _:=World.ownsMap_of_fit hm F0 (λ_ _ _ h=>h)
 have hlen:=length_read (P:=PR) (k:=T.int) (R0:=R0) es
 have hsize:Maps.size (.map ((es.toList.map (rg PR T.int R0)).foldr DataW.insert []))=es.size:=hlen
 have hseq:SeqGives Fence.wide 2 Tryz.prog 110 #[.pointer (some ⟨b,0,none⟩)] encZ (λss=>ss.Perm (intKeys (.map ((es.toList.map (rg PR T.int R0)).foldr DataW.insert [])))) (Maps.size (.map ((es.toList.map (rg PR T.int R0)).foldr DataW.insert []))) w:=
  AnyZI.keys_gives (ρ:=Tryz.keysH_ren) { Tryz.keysH with } Fence.wide _ trivial rfl (by omega) b m es.size _ w hbl hB hown
 have cS:=AnyZI.sorted_in Tryz.sortedA Fence.wide 5 trivial trivial trivial trivial rfl (by omega) (o3_ _) (enters_of Tryz.func91 (by kernel_rfl) rfl) 110 #[.pointer (some ⟨b,0,none⟩)] trivial (enters_of Tryz.func110 (by kernel_rfl) rfl) _ _ (by rw [hsize];exact Nat.le_trans hsz' (by decide)) (by rw [hsize];omega) _ hseq
 change CallsIn _ _ Tryz.prog 41 _ _ _ at cS
 refine bj_ ((callsIn_wide (n:=5)).1 cS) λe w' ⟨v,ss,he,hS,hrow,hnil,hb⟩=>⟨v,he,?_⟩
 have hkey:∀y∈es.toList,∃p∈l,y.key=.int .i64 p.1∧intOf (rg PR T.int R0 y).1=p.1:=λy hy=>by
  obtain ⟨p,hp,e,_⟩:=hl1 y hy
  refine ⟨p,hp,e,?_⟩
  have hkl:keyOf PR T.int y.key=some (.int .i64 p.1):=by rw [e];exact b0_ (hM.fit p hp).1 (hM.fit p hp).2
  have e3:rg PR T.int R0 y=(.int .i64 p.1,.nil):=by
   unfold WideElems.rg WideElems.rd
   rw [hkl];rfl
  rw [e3];rfl
 have hperm:ss.Perm (es.toList.map λy=>intOf (rg PR T.int R0 y).1):=by
  refine hS.trans ?_
  show (List.map (λp:Lit × DataW Unit=>intOf p.1) _).Perm _
  refine ((dN_ _).map _).trans ?_
  rw [List.map_map]
  exact .refl _
 have hnd:ss.Nodup:=by
  refine hperm.nodup_iff.2 ?_
  have:=hst.2.2
  rw [List.nodup_iff_pairwise_ne,List.pairwise_map] at *
  refine this.imp_of_mem λ{y z} hy hz hne e=>hne ?_
  obtain ⟨p,_,e1,e2⟩:=hkey y hy
  obtain ⟨p',_,e3,e4⟩:=hkey z hz
  rw [e1,e3,← e2,← e4,e]
 have hl:ss.length=es.size:=by
  rw [hperm.length_eq,List.length_map,Array.length_toList]
 have hl2:(ss.mergeSort λx y=>decide (x≤y)).length=l.length:=by rw [List.length_mergeSort,hl,hes]
 have hmem:∀i,i∈(ss.mergeSort λx y=>decide (x≤y))↔i∈l.map (·.1):=λi=>by
  rw [(List.mergeSort_perm ss _).mem_iff,hperm.mem_iff,List.mem_map,List.mem_map]
  constructor
  ·rintro ⟨y,hy,rfl⟩
   obtain ⟨p,hp,_,e⟩:=hkey y hy
   exact ⟨p,hp,e.symm⟩
  ·rintro ⟨p,hp,rfl⟩
   obtain ⟨y,hy,e,_⟩:=hin p hp
   obtain ⟨p',_,e1,e2⟩:=hkey y hy
   exact ⟨y,hy,by rw [e2,← int_inj (e1.symm.trans e)]⟩
 obtain ⟨hrl,hrow⟩:=hrow
 rcases hrow with ⟨rfl,hz⟩ | ⟨gb,cap,cur,rfl,_,hheap,_,_,_,htake⟩
 ·have:=hK w' none 0 _ (cv_ hb) hl2 (.inl (by
   have:ss=[]:=List.eq_nil_of_length_eq_zero hz
   subst this;simp)) hmem (f__ hnd)
  have hl0:l.length=0:=by omega
  rw [hl0] at this
  exact this
 ·rw [hl,hes]
  refine hK w' _ _ _ (cv_ hb) hl2 (.inr ⟨gb,0,rfl,cur,_,_,hheap,λi hi=>?_⟩) hmem (f__ hnd)
  have e:((ss.mergeSort λx y=>decide (x≤y)).map Iv)=cur.toList.take (ss.length*1):=htake.symm
  rw [e] at hi ⊢
  rw [List.length_take] at hi
  rw [Nat.zero_add,List.getElem?_take_of_lt (by omega),Array.getElem?_toList]
end Go.Vc
namespace Go.Vc
open Go
theorem dK_ (m0:Int) (m1:Int) (m2:Int) (y3:Option Addr) (ly3:Nat) (cy3:Nat) (m4:Int) (z5:ByteArray) (S:SP) (K:KP) (w:World) (h:∀l0,w.heap.size≤l0→∀l1,w.heap.size≤l1→∀w0,Fr S w w [] [⟨l0,#[Iv m0,Iv m1,Iv m2,.slice y3 ly3 cy3,Iv m4,.string z5],44,true⟩,⟨l1,#[Iv 0,Iv 0,Iv 0,.slice none 0 0,Iv 0,.string ⟨#[]⟩],44,true⟩] w0→aa_ PR 152 #[.slice y3 ly3 cy3] w0 λv0 w1=>∃q0 l2 l3,v0=.slice q0 l2 l3∧Fs S w [⟨l0,#[Iv m0,Iv m1,Iv m2,.slice y3 ly3 cy3,Iv m4,.string z5],44,true⟩,⟨l1,#[Iv 0,Iv 0,Iv 0,.slice none 0 0,Iv 0,.string ⟨#[]⟩],44,true⟩] w1∧∀w2,Fr S w w1 [l1,l0] [] w2→K (.agg #[Iv m0,Iv m1,Iv m2,.slice q0 l2 l3,Iv m4,.string z5]) w2):aa_ PR 106 ⟨[.agg #[.int .i64 m0,.int .i64 m1,.int .i64 m2,.slice y3 ly3 cy3,.int .i64 m4,.string z5]]⟩ w K:=
 ab_ (okf:=⟨okL,[]⟩) ag_ (args:=[.a [.v (.int .i64 m0),.v (.int .i64 m1),.v (.int .i64 m2),.v (.slice y3 ly3 cy3),.v (.int .i64 m4),.v (.string z5)]]) (H:=[]) (.s (.r ⟨(some []),false,[],[]⟩) (.s (.r ⟨(some [1,2]),false,[],[]⟩) (.s (.r ⟨(some [1,2]),false,[],[]⟩) .z))) Go.Proofs.Tryz.func106 rfl ⟨⟨trivial,trivial,trivial,trivial,trivial,trivial,trivial⟩,trivial⟩ trivial (Fr.init S w) trivial (ad_ (by kernel_rfl) h)
theorem mD_ (y0:Option Addr) (ly0:Nat) (cy0:Nat) (S:SP) (K:KP) (w:World) (h:(y0=none→K (.slice none 0 0) w)∧∀a0:Addr,y0=some a0→∀l0,w.heap.size≤l0→∀w0,Fr S w w [] [⟨l0,#[],197,true⟩] w0→rn PR (Builtin.append_ #[42,42] 42 #[.slice (some (⟨l0,0,none⟩)) 0 0,.slice y0 ly0 cy0]) (λv0 w1=>∃q0 l1 l2,v0=.slice q0 l1 l2∧Fs S w [⟨l0,#[],197,true⟩] w1∧K (.slice q0 l1 l2) w1) w0):aa_ PR 152 ⟨[.slice y0 ly0 cy0]⟩ w K:=
 ab_ (okf:=⟨okL,[]⟩) ag_ (args:=[.c (.v (.slice y0 ly0 cy0))]) (H:=[]) (.s .z (.s .z (.s (.r ⟨(some []),false,[],[]⟩) .z))) Go.Proofs.Tryz.func152 rfl ⟨trivial,trivial⟩ trivial (Fr.init S w) trivial (ad_ (by kernel_rfl) h)
end Go.Vc
namespace Go.Vc
open Go Go.MapKept
theorem rz_ {q:Option Addr} {c:Nat} {l:List (Int × Int)} {w:World} (hs:Sl w q (encE l)) (hn:l.length≤1000000) {K:Value→World→Prop}
  (hK:∀w' q' c',Grow w w'→Own T.aS_ 2 w' q' c' (encE l)→(∀a,q'=some a→w.heap.size≤a.block)→K (.slice q' l.length c') w'):aa_ PR F.bx_ ⟨[.slice q l.length c]⟩ w K:=by
 refine mD_ q l.length c S0 K w ⟨λh=>?_,λa ha b hb w0 h0=>?_⟩
 ·have:l=[]:=by
   rcases hs with hs | ⟨b,o,h',_⟩
   ·cases l with
    | nil=>rfl
    | cons e l=>cases hs
   ·rw [h] at h';cases h'
  subst this
  exact hK w none 0 (.refl _ _) (.nil _ _ _) λa ha=>by cases ha
 ·have hb0:=h0.blk 0 rfl
  have ho:Own T.aS_ 2 w0 (some ⟨b,0,none⟩) 0 []:=.inr ⟨b,0,#[],rfl,hb0,rfl,by decide,by simp,λi hi=>by simp at hi⟩
  refine app0 (k:=2) mY_ kY_ rfl (by decide) (by decide) ho (hs.grow h0.grow) (by rw [aI_]) (λy hy=>?_) (by omega) λq' c' w' ho hc g hq=>⟨_,_,_,rfl,h0.after g,hK w' q' c' (h0.grow.trans g) ho λa ha=>?_⟩
  ·obtain ⟨e,_,he⟩:=List.mem_flatMap.1 hy
   simp only [List.mem_cons,List.not_mem_nil,or_false] at he
   rcases he with rfl | rfl <;> rfl
  ·rcases hq a ha with e | e
   ·cases e;exact hb
   ·have:=h0.grow.size;omega
theorem dD_ {m:Man} (hm:m.shards.length≤64) {q:Option Addr} {c:Nat} {w:World} (hs:Sl w q (encE m.shards)) {K:Value→World→Prop}
  (hK:∀w' q' c',Grow w w'→Own T.aS_ 2 w' q' c' (encE m.shards)→(∀a,q'=some a→w.heap.size≤a.block)→K (mval m q' c') w'):aa_ PR F.dK_ ⟨[mval m q c]⟩ w K:=by
 refine dK_ m.version m.nodes m.edges q m.shards.length c m.blocks (str m.root) S0 K w λa1 ha1 a2 ha2 w3 hF3=>?_
 have g3:Grow w w3:=hF3.grow
 have hl1:=hF3.lt
 refine rz_ (hs.grow g3) (by omega) λw4 q' c' g4 ho hq=>⟨_,_,_,rfl,hF3.after g4,λw5 hF5=>?_⟩
 have g5:Grow w w5:=hF5.gr
 have sz3:=g3.size
 refine hK w5 q' c' g5 (ho.keep hF5.stp λa ha e=>?_) λa ha=>Nat.le_trans sz3 (hq a ha)
 have h2:=hq a ha
 simp only [List.mem_cons,List.not_mem_nil,or_false] at e
 have h3:a1<w3.heap.size∧a2<w3.heap.size:=⟨by have:=hl1 _ (by first | exact List.mem_cons_self | exact List.mem_cons_of_mem _ List.mem_cons_self);simp only [] at this;exact this,by have:=hl1 _ (List.mem_cons_of_mem _ List.mem_cons_self);simp only [] at this;exact this⟩
 omega
def HS.addV (s:HS) (v:HV):HS:={ s with vs:=s.vs++[v] }
theorem az_.addV {w w':World} {s:HS} (h:az_ w s) (g:Chg (· = s.m) w w') {v:HV} (hv:HVAt w' v) (hno:∀x∈s.vs,x.man.version≠v.man.version) (hm:MapI w' s.m (putI (s.vs.map ptV) v.man.version (.pointer (some ⟨v.b,0,none⟩)))) (hf:∀k,vS v k→w.heap.size≤k) (hbo:v.bm≠v.om) (hb:v.bl=[]) (ho:v.ol=[]) (few:s.vs.length<3):az_ w' (s.addV v):=by
 have off:∀ {k:Nat} {cs:Array Value} {t:TypeId} {f:Nat × Nat},w.heap[k]? = some (.cells cs t f)→¬k=s.m:=λhb e=>h.mp.ne hb e
 have hb0:=hf v.bm (.inr (.inl rfl))
 have ho0:=hf v.om (.inr (.inr (.inl rfl)))
 have hml:=h.mp.lt
 refine ⟨g.get h.blk (off h.blk),h.jr.keep g λk hk e=>?_,?_,λx hx=>?_,?_,λx hx p hp=>?_,by simp [HS.addV];omega,h.dl⟩
 ·have e':k=s.m:=e
  subst e';exact h.mj hk
 ·show MapI w' s.m ((s.vs++[v]).map ptV)
  rw [List.map_append]
  rw [fH_ λp hp=>by obtain ⟨x,hx,rfl⟩:=List.mem_map.1 hp;exact hno x hx] at hm
  exact hm
 ·rcases List.mem_append.1 hx with hx | hx
  ·have ap:=ke_ h.nd hx
   refine (h.vs x hx).keep g λk hk e=>?_
   have e':k=s.m:=e
   rcases hk with rfl | rfl | rfl | ⟨a,ha,rfl⟩
   ·exact off (h.vs x hx).blk e'
   ·exact ap.1 e'.symm
   ·exact ap.2.1 e'.symm
   ·obtain ⟨cs,hh⟩:=(h.vs x hx).own.ty ha
    exact off hh e'
  ·simp at hx;subst hx;exact hv
 ·show (s.m :: (s.vs++[v]).flatMap λv=>[v.bm,v.om]).Nodup
  rw [List.flatMap_append]
  show (([s.m]++s.vs.flatMap λv=>[v.bm,v.om])++[v].flatMap λv=>[v.bm,v.om]).Nodup
  rw [List.nodup_append]
  refine ⟨h.nd,by simp [hbo],λa ha b hb e=>?_⟩
  have hal:a<w.heap.size:=by
   rcases List.mem_append.1 ha with ha | ha
   ·simp at ha;omega
   ·obtain ⟨x,hx,hx2⟩:=List.mem_flatMap.1 ha
    simp at hx2
    rcases hx2 with rfl | rfl
    ·exact (h.vs x hx).bm.lt
    ·exact (h.vs x hx).om.lt
  simp at hb
  rcases hb with rfl | rfl <;> omega
 ·rcases List.mem_append.1 hx with hx | hx
  ·exact h.sl x hx p hp
  ·simp at hx;subst hx
   rw [hb,ho] at hp;cases hp
theorem rD_ {w:World} {s:HS} (h:az_ w s) {m:Man} (hm:m.ok) {q:Option Addr} {c:Nat} (hs:Sl w q (encE m.shards)) (hno:∀x∈s.vs,x.man.version≠m.version) (few:s.vs.length<3) {K:Value→World→Prop}
  (hK:∀w' v,az_ w' (s.addV v)→v.man=m→v.bl=[]→v.ol=[]→Chg (· = s.m) w w'→(∀k,vS v k→w.heap.size≤k)→K (.tuple #[]) w'):aa_ PR F.h3_ ⟨[.pointer (some ⟨s.bh,0,none⟩),mval m q c]⟩ w K:=by
 have h0:=h.fs
 have hver:=hm.version
 have hsl:=hm.shards.1
 have hfit:aM_ m.version:=⟨by omega,by omega⟩
 refine rj_ s.bh (some ⟨s.bj,0,none⟩) (some s.m) s.act s.prep s.lv s.li m.version m.nodes m.edges q m.shards.length c m.blocks (str m.root) (hS s) K w h0 ⟨.inl rfl,trivial⟩ λl0 hl0=>?_
 have fin:∀ {w4 w3:World} {l3 bm om:Nat} {q':Option Addr} {c':Nat},Grow w w3→MapI w3 bm []→MapI w3 om []→bm≠om→w.heap.size≤bm→w.heap.size≤om→Own T.aS_ 2 w3 q' c' (encE m.shards)→(∀a,q'=some a→w.heap.size≤a.block)→w3.heap.size≤l3→
   Fr (hS s) w w3 [] [⟨s.bh,hsC s,T.as_,true⟩,⟨l0,#[.int .i64 m.version,.int .i64 m.nodes,.int .i64 m.edges,.slice q m.shards.length c,.int .i64 m.blocks,.string (str m.root)],T.ev_,true⟩,⟨l3,hvC ⟨m,q',c',l3,bm,om,[],[]⟩,T.aL_,true⟩] w4→
   rn PR (Instr.mapUpdate T.cJ_ (.map (some s.m)) (.int .i64 m.version) (.pointer (some ⟨l3,0,none⟩))) (λx0 w5=>Fs (hS s) w [⟨s.bh,hsC s,T.as_,true⟩,⟨l0,#[.int .i64 m.version,.int .i64 m.nodes,.int .i64 m.edges,.slice q m.shards.length c,.int .i64 m.blocks,.string (str m.root)],T.ev_,true⟩,⟨l3,hvC ⟨m,q',c',l3,bm,om,[],[]⟩,T.aL_,true⟩] w5∧K (.tuple #[]) w5) w4:=by
  intro w4 w3 l3 bm om q' c' g3 hb3 ho3 hbo hbf hof hown hqf hl3 hF4
  have g34:Grow w3 w4:=hF4.grow
  have g4:Grow w w4:=g3.trans g34
  have sz3:=g3.size
  have hbl:=hb3.lt
  have hol:=ho3.lt
  have hml:=h.mp.lt
  refine bR_ eE_ (h.mp.grow g4) hfit λw5 hm5 c5 s5=>?_
  have hlb:∀ {b:Nat} {cs:Array Value} {t:TypeId} {f:Nat × Nat},w4.heap[b]? = some (.cells cs t f)→¬b=s.m:=λhb e=>(h.mp.grow g4).ne hb e
  have hF5:=hF4.step c5 (λx hx=>hlb (hF4.loc x hx)) (λk hk e=>.inr (.inr (.inl e)))
  have c05:Chg (· = s.m) w w5:=g4.chg.trans c5 λ_ _ e=>e
  have hf:∀k,vS ⟨m,q',c',l3,bm,om,[],[]⟩ k→w.heap.size≤k:=by
   rintro k (rfl | rfl | rfl | ⟨a,ha,rfl⟩)
   ·omega
   ·exact hbf
   ·exact hof
   ·exact hqf a ha
  refine ⟨hF5,hK w5 ⟨m,q',c',l3,bm,om,[],[]⟩ (h.addV c05 ⟨hF5.blk 2 rfl,?_,?_,?_,hm,λp hp=>by cases hp⟩ hno hm5 hf hbo rfl rfl few) rfl rfl rfl c05 hf⟩
  ·refine (hown.grow g34).keep c5 λa ha e=>?_
   have e':a.block=s.m:=e
   have:=hqf a ha;omega
  ·exact (hb3.grow g34).keep c5 (λe=>by have e':bm=s.m:=e;omega)
  ·exact (ho3.grow g34).keep c5 (λe=>by have e':om=s.m:=e;omega)
 refine ⟨λw0 hF0=>?_,λw0 hF0=>?_,λw0 hF0=>?_⟩
 ·have g0:Grow w w0:=hF0.grow
  have s0:=g0.size
  refine dD_ hsl (hs.grow g0) λw1 q' c' g1 ho hq=>⟨_,_,_,_,_,_,_,_,rfl,hF0.after g1,?_,?_⟩
  ·have hF1:=hF0.after g1
   have s1:=g1.size
   refine aQ_ λw2 r1 hr1 hm1 g2=>⟨_,rfl,hF1.after g2,aQ_ λw3 r2 hr2 hm2 g3=>⟨_,rfl,(hF1.after g2).after g3,λl3 hl3 w4 hF4=>?_⟩⟩
   have s2:=g2.size
   have:=hm1.lt
   exact fin (((g0.trans g1).trans g2).trans g3) (hm1.grow g3) hm2 (by omega) (by omega) (by omega) ((ho.grow g2).grow g3) (λa ha=>Nat.le_trans s0 (hq a ha)) hl3 hF4
  ·have hF1:=hF0.after g1
   have s1:=g1.size
   refine aQ_ λw2 r1 hr1 hm1 g2=>⟨_,rfl,hF1.after g2,aQ_ λw3 r2 hr2 hm2 g3=>⟨_,rfl,(hF1.after g2).after g3,λl3 hl3 w4 hF4=>?_⟩⟩
   have s2:=g2.size
   have:=hm1.lt
   exact fin (((g0.trans g1).trans g2).trans g3) hm2 (hm1.grow g3) (by omega) (by omega) (by omega) ((ho.grow g2).grow g3) (λa ha=>Nat.le_trans s0 (hq a ha)) hl3 hF4
 ·have g0:Grow w w0:=hF0.grow
  have s0:=g0.size
  refine aQ_ λw1 r1 hr1 hm1 g1=>⟨_,rfl,hF0.after g1,?_,?_⟩
  ·have hF1:=hF0.after g1
   have s1:=g1.size
   have:=hm1.lt
   refine dD_ hsl (hs.grow (g0.trans g1)) λw2 q' c' g2 ho hq=>⟨_,_,_,_,_,_,_,_,rfl,hF1.after g2,aQ_ λw3 r2 hr2 hm2 g3=>⟨_,rfl,(hF1.after g2).after g3,λl3 hl3 w4 hF4=>?_⟩⟩
   have s2:=g2.size
   exact fin (((g0.trans g1).trans g2).trans g3) ((hm1.grow g2).grow g3) hm2 (by omega) (by omega) (by omega) (ho.grow g3) (λa ha=>by have:=hq a ha;omega) hl3 hF4
  ·have hF1:=hF0.after g1
   have s1:=g1.size
   have:=hm1.lt
   refine aQ_ λw2 r2 hr2 hm2 g2=>⟨_,rfl,hF1.after g2,?_⟩
   have s2:=g2.size
   refine dD_ hsl (hs.grow ((g0.trans g1).trans g2)) λw3 q' c' g3 ho hq=>⟨_,_,_,_,_,_,_,_,rfl,(hF1.after g2).after g3,λl3 hl3 w4 hF4=>?_⟩
   exact fin (((g0.trans g1).trans g2).trans g3) ((hm1.grow g2).grow g3) (hm2.grow g3) (by omega) (by omega) (by omega) ho (λa ha=>by have:=hq a ha;omega) hl3 hF4
 ·have g0:Grow w w0:=hF0.grow
  have s0:=g0.size
  refine aQ_ λw1 r1 hr1 hm1 g1=>⟨_,rfl,hF0.after g1,?_,?_⟩
  ·have hF1:=hF0.after g1
   have s1:=g1.size
   have:=hm1.lt
   refine dD_ hsl (hs.grow (g0.trans g1)) λw2 q' c' g2 ho hq=>⟨_,_,_,_,_,_,_,_,rfl,hF1.after g2,aQ_ λw3 r2 hr2 hm2 g3=>⟨_,rfl,(hF1.after g2).after g3,λl3 hl3 w4 hF4=>?_⟩⟩
   have s2:=g2.size
   exact fin (((g0.trans g1).trans g2).trans g3) hm2 ((hm1.grow g2).grow g3) (by omega) (by omega) (by omega) (ho.grow g3) (λa ha=>by have:=hq a ha;omega) hl3 hF4
  ·have hF1:=hF0.after g1
   have s1:=g1.size
   have:=hm1.lt
   refine aQ_ λw2 r2 hr2 hm2 g2=>⟨_,rfl,hF1.after g2,?_⟩
   have s2:=g2.size
   refine dD_ hsl (hs.grow ((g0.trans g1).trans g2)) λw3 q' c' g3 ho hq=>⟨_,_,_,_,_,_,_,_,rfl,(hF1.after g2).after g3,λl3 hl3 w4 hF4=>?_⟩
   exact fin (((g0.trans g1).trans g2).trans g3) (hm2.grow g3) ((hm1.grow g2).grow g3) (by omega) (by omega) (by omega) ho (λa ha=>by have:=hq a ha;omega) hl3 hF4
def HS.addM (s:HS) (j:JP) (v:HV):HS:={ s with j:=j,recs:=s.recs++[recM v.man],d:=s.d.put (-1) (ge_ crcN (recM v.man)),vs:=s.vs++[v] }
theorem az_.jrn {w w':World} {s:HS} (h:az_ w s) (g:Chg (jfS s.bj s.j) w w') {j:JP} {recs:List (List UInt8)} {d:DM} (jr:JrnF w' s.bj j recs d) (hd:d.sl.length=s.d.sl.length):az_ w' { s with j:=j,recs:=recs,d:=d }:=
 ⟨g.get h.blk h.bhj,jr,h.mp.keep g h.mj,λv hv=>(h.vs v hv).keep g λk hk e=>by
  rcases hk with rfl | rfl | rfl | ⟨a,ha,rfl⟩
  ·exact h.jr.other (h.vs v hv).blk (.inr (.inl rfl)) e
  ·exact h.jr.map (h.vs v hv).bm e
  ·exact h.jr.map (h.vs v hv).om e
  ·obtain ⟨cs,hh⟩:=(h.vs v hv).own.ty ha
   exact h.jr.other hh (.inr (.inr rfl)) e,h.nd,λv hv p hp=>by show 0≤p.2.1∧p.2.1<d.sl.length;rw [hd];exact h.sl v hv p hp,h.few,by show d.sl.length≤4096;rw [hd];exact h.dl⟩
theorem m7_ {m:Man} (h:m.ok):(recM m).length≤1+8*133+40:=by
 have h1:=cu_ h.nums
 have h2:m.nums.length=5+2*m.shards.length:=by simp [Man.nums,gj_];omega
 have h3:=h.shards.1
 have h4:=h.root
 have h5:=an_ (n:=m.root.length) (by omega)
 simp only [recM,jh_,List.length_append,List.length_cons,List.length_nil]
 omega
theorem rI_ {w:World} {s:HS} (h:az_ w s) (hr:rH_ s) {m:Man} (hm:m.ok) {q:Option Addr} {c:Nat} (hs:Sl w q (encE m.shards)) (hqj:∀a,q=some a→¬jfS s.bj s.j a.block) (hno:∀x∈s.vs,x.man.version≠m.version) (hact:s.act<m.version) (few:s.vs.length<3) {K:Value→World→Prop}
  (hK:∀w' j v,az_ w' (s.addM j v)→v.man=m→v.bl=[]→v.ol=[]→Chg (hS s) w w'→(∀k,vS v k→w.heap.size≤k)→(∀k,hS (s.addM j v) k→hS s k∨w.heap.size≤k)→K .nilIface w'):aa_ PR F.h5_ ⟨[.pointer (some ⟨s.bh,0,none⟩),mval m q c]⟩ w K:=by
 have h0:=h.fs
 have hver:=hm.version
 have hsl:=hm.shards.1
 have hfit:aM_ m.version:=⟨by omega,by omega⟩
 obtain ⟨hr1,hr2,hr3⟩:=hr
 have hrl:=m7_ hm
 have hbl:=aj_ h.blk
 refine kq_ s.bh (some ⟨s.bj,0,none⟩) (some s.m) s.act s.prep s.lv s.li m.version m.nodes m.edges q m.shards.length c m.blocks (str m.root) (hS s) K w h0 ⟨.inl rfl,trivial⟩ λl0 hl0 w0 hF0=>?_
 have g0:Grow w w0:=hF0.grow
 refine sO_ hm (hs.grow g0) λw1 g1=>⟨_,_,rfl,hF0.after g1,λ_ w2 hF2=>⟨λ_=>True,trivial,?_⟩,(λt x h=>by cases h),.inl rfl⟩
 have g2:Grow w w2:=(g0.trans g1).trans hF2.grow
 refine aJ_ eE_ (h.mp.grow g2) hfit false ht_ (λx hx=>?_) λ_=>⟨none,rfl,hF2.reset,trivial,λw4 hF4=>⟨λ_=>True,trivial,λ_ w5 hF5=>⟨λ_=>True,trivial,λ_=>⟨λhle=>absurd hact (by omega),λ_=>?_⟩,λa ha=>by cases ha⟩,λa ha=>by cases ha⟩⟩
 ·obtain ⟨v,hv,e⟩:=List.mem_map.1 hx
  exact absurd (congrArg Prod.fst e) (hno v hv)
 have g5:Grow w w5:=(g2.trans hF4.grow).trans hF5.grow
 refine fi_ eE_ (h.mp.grow g5) ⟨_,rfl,hF5.reset,λh3=>absurd h3 (by rw [List.length_map];omega),λ_=>⟨by rw [ai_];simp only [recM,List.length_append,List.length_cons,List.length_nil] at hrl;omega,λl1 hl1 w7 hF7=>?_⟩⟩
 have g7:Grow w w7:=g5.trans hF7.grow
 have e77:(⟨#[77]⟩:ByteArray)++str (jh_ m)=str (recM m):=by rw [recM,← aD_];rfl
 rw [e77] at hF7
 have s5:=g5.size
 have hl0n:¬jfS s.bj s.j l0:=λe=>by have:=h.jr.lt l0 e;omega
 have hl1n:¬jfS s.bj s.j l1:=λe=>by have:=h.jr.lt l1 e;omega
 refine jK_ (s:=recM m) ((h.grow g7).jr) (hF7.sl 2 rfl) (λa ha=>by cases ha;exact hl1n) (by omega) (by omega) (by omega) (by omega) λw8 j hj c8 hbd hst=>?_
 have hF8:=hF7.step c8 (λx hx=>by
  simp only [List.mem_cons,List.not_mem_nil,or_false] at hx
  rcases hx with rfl | rfl | rfl
  ·exact h.bhj
  ·exact hl0n
  ·exact hl1n) λk _ e=>.inr (.inl e)
 have c08:Chg (jfS s.bj s.j) w w8:=g7.chg.trans c8 λ_ _ e=>e
 have hlen:(s.d.put (-1) (ge_ crcN (recM m))).sl.length=s.d.sl.length:=by
  unfold DM.put DM.now;rw [if_pos rfl]
 have h8:=h.jrn c08 hj hlen
 have s7:=g7.size
 refine ⟨_,rfl,_,hF8,λ_=>?_,(λt x h=>by cases h),.inl rfl⟩
 refine rD_ h8 hm (hs.keep c08 hqj) hno few λw9 v h9 hvm hvb hvo c9 hf9=>⟨rfl,_,_,_,_,_,_,(hF8.sub (L':=[⟨s.bh,hsC s,T.as_,true⟩,⟨l0,#[.int .i64 m.version,.int .i64 m.nodes,.int .i64 m.edges,.slice q m.shards.length c,.int .i64 m.blocks,.string (str m.root)],T.ev_,true⟩]) (((List.nil_sublist _).cons_cons _).cons_cons _)).step c9 (λx hx e=>?_) (λk _ e=>.inr (.inr (.inl e))),?_⟩
 ·have e':x.b=s.m:=e
  simp only [List.mem_cons,List.not_mem_nil,or_false] at hx
  rcases hx with rfl | rfl
  ·exact h.mp.ne h.blk e'
  ·have:=h.mp.lt
   simp only [] at e';omega
 ·have s8:=c08.size
  subst hvm
  refine hK w9 j v h9 rfl hvb hvo ((c08.mono λk _ e=>.inr (.inl e)).trans c9 λk _ e=>.inr (.inr (.inl e))) (λk hk=>Nat.le_trans s8 (hf9 k hk)) λk hk=>?_
  rcases hk with hk | hk | hk | ⟨x,hx,hk⟩
  ·exact .inl (.inl hk)
  ·rcases hst k hk with e | e
   ·exact .inl (.inr (.inl e))
   ·exact .inr (Nat.le_trans s7 e)
  ·exact .inl (.inr (.inr (.inl hk)))
  ·rcases List.mem_append.1 hx with hx | hx
   ·exact .inl (.inr (.inr (.inr ⟨x,hx,hk⟩)))
   ·simp at hx;subst hx
    refine .inr (Nat.le_trans s8 (hf9 k ?_))
    rcases hk with e | e
    ·exact .inr (.inl e)
    ·exact .inr (.inr (.inl e))
theorem lN_ {w:World} {bd:Nat} {p:DP} {d:DM} (h:DskF w bd p d) (hl:d.log=[]) (hw:d.ws=[]) {K:Value→World→Prop} (hK:∀w' bj,Grow w w'→w.heap.size≤bj→JrnF w' bj ⟨bd,p,none,0⟩ [] d→K (.tuple #[.pointer (some ⟨bj,0,none⟩),.nilIface]) w'):aa_ PR F.ls_ ⟨[.pointer (some ⟨bd,0,none⟩)]⟩ w K:=by
 have hfr:∀ {w':World},Grow w w'→Fs S0 w [] w':=λg=>(Fr.init _ w).after g
 refine ko_ (some ⟨bd,0,none⟩) S0 K w ?_
 refine qs_ h ⟨_,_,rfl,.init _ w,λ_=>?_,(λt x h=>by cases h),.inl rfl⟩
 rw [hl]
 refine kT_ λw1 g1=>⟨_,_,_,_,rfl,hfr g1,λh=>absurd h (by decide),λ_=>⟨λ_=>?_,(λt x h=>by cases h),.inl rfl⟩⟩
 refine mI_ (h.grow g1) ⟨_,rfl,hfr g1,λhc=>by rw [hw] at hc;simp at hc,λ_=>⟨λ_ b hb w2 hF2=>?_,(λt x h=>by cases h),.inl rfl⟩⟩
 have s1:=g1.size
 have h2:=h.grow hF2.chg
 refine hK w2 b hF2.chg (by omega) ⟨hF2.blk 0 rfl,.nil _ _ _,Nat.le_refl _,h2,by rw [hl];rfl,λe=>?_,(λ⟨a,ha,_⟩=>by cases ha),λk ⟨a,ha,_⟩=>by cases ha⟩
 have:=h.lt b e;omega
theorem oj_ {w:World} {bj:Nat} {j:JP} {recs:List (List UInt8)} {d:DM} (h:JrnF w bj j recs d) (hn:recs.length≤1000000) {K:Value→World→Prop}
  (hK:∀w' q' c',Grow w w'→Own T.string 1 w' q' c' (recs.map sv8')→K (.slice q' recs.length c') w'):aa_ PR F.eb_ ⟨[.pointer (some ⟨bj,0,none⟩)]⟩ w K:=by
 have h0:Fs (· = bj) w [⟨bj,#[.pointer (some ⟨j.bd,0,none⟩),.slice j.q recs.length j.c,.int .i64 (logL recs).length],T.bL_,true⟩] w:=(Fr.init _ w).entry h.blk (λx h=>by cases h) λ_=>rfl
 refine fl_ bj (some ⟨j.bd,0,none⟩) j.q recs.length j.c (logL recs).length (· = bj) K w h0 ⟨rfl,trivial⟩ ?_
 have e:recs.map sv8'=(recs.map str).map sv1:=by rw [List.map_map];rfl
 have hs:=h.own.sl
 rw [e] at hs
 refine kI_ hs (by simp) hn λw1 q' c' g1 ho hc hof=>⟨_,_,_,rfl,h0.after g1,hK w1 q' c' g1 (by rw [e];exact ho)⟩
theorem kP_ {w:World} {s:HS} (h:az_ w s) {K:Value→World→Prop} (hK:∀w' q c (L:List Int),Grow w w'→L.length=s.vs.length→Sl w' q (L.map Iv)→(∀i,i∈L↔∃v∈s.vs,v.man.version=i)→L.Pairwise (· < ·)→K (.slice q s.vs.length c) w'):aa_ PR F.eO_ ⟨[.pointer (some ⟨s.bh,0,none⟩)]⟩ w K:=by
 have h0:=h.fs
 have few:=h.few
 refine fV_ s.bh (some ⟨s.bj,0,none⟩) (some s.m) s.act s.prep s.lv s.li (hS s) K w h0 ⟨.inl rfl,trivial⟩ ?_
 refine of_ λw1 b g1 hb hc=>⟨_,rfl,h0.after g1,?_⟩
 refine lK_ hc hb (h.mp.grow g1) (by rw [List.length_map];omega) λw2 q c L g2 hl hs hm hp=>?_
 rw [List.length_map] at hl ⊢
 refine ⟨_,_,_,rfl,(h0.after g1).after g2,hK w2 q c L (g1.trans g2) hl hs (λi=>?_) hp⟩
 rw [hm i,List.map_map,List.mem_map]
 exact Iff.rfl
def HS.zero (bh bj m:Nat) (j:JP) (d:DM):HS:=⟨bh,bj,m,j,[],d,[],0,0,0,0⟩
theorem mO_ {w:World} {bd:Nat} {p:DP} {d:DM} (h:DskF w bd p d) (hl:d.log=[]) (hw:d.ws=[]) (hd:d.sl.length≤4096) {K:Value→World→Prop}
  (hK:∀w' bh bj m j,Grow w w'→az_ w' (HS.zero bh bj m j d)→(∀k,hA (HS.zero bh bj m j d) k→dfS bd p k∨w.heap.size≤k)→K (.tuple #[.pointer (some ⟨bh,0,none⟩),.nilIface]) w'):aa_ PR F.ih_ ⟨[.pointer (some ⟨bd,0,none⟩)]⟩ w K:=by
 refine ih_ (some ⟨bd,0,none⟩) S0 K w ?_
 refine lN_ h hl hw λw0 bj g0 hbj hj=>⟨_,_,rfl,(Fr.init _ w).after g0,λ_=>?_,(λt x h=>by cases h),.inl rfl⟩
 have hF0:Fs S0 w [] w0:=(Fr.init _ w).after g0
 refine aQ_ λw1 m hm0 hm g1=>⟨_,rfl,hF0.after g1,λbh hbh w2 hF2=>?_⟩
 have s0:=g0.size
 have s1:=g1.size
 have hml:=hm.lt
 have g2:Grow w1 w2:=hF2.grow
 have hj2:=hj.grow (g1.trans g2)
 have H2:az_ w2 (HS.zero bh bj m ⟨bd,p,none,0⟩ d):=⟨hF2.blk 0 rfl,hj2,hm.grow g2,(λv hv=>by cases hv),by simp [HS.zero],(λv hv=>by cases hv),Nat.zero_le _,hd⟩
 refine oj_ hj2 (by simp) λw3 q c g3 ho=>⟨_,_,_,rfl,hF2.after g3,?_⟩
 have hF3:=hF2.after g3
 refine ⟨λn q3 q4 n1 n2 n3 n4 lv w'=>n=0∧q3=some ⟨bj,0,none⟩∧q4=some m∧n1=0∧n2=0∧n3=0∧n4=0∧Grow w2 w',⟨0,rfl,rfl,rfl,rfl,rfl,rfl,rfl,g3⟩,?_⟩
 rintro n q3 q4 n1 n2 n3 n4 D lv w4 ⟨rfl,rfl,rfl,rfl,rfl,rfl,rfl,g4⟩ hF4
 refine ⟨λhlt=>absurd hlt (by simp),λ_=>?_⟩
 refine kP_ (H2.grow g4) λw6 q6 c6 L g6 hL _ _ _=>⟨_,_,_,rfl,hF4.after g6,?_⟩
 refine ⟨λn q3 q4 n1 n2 n3 n4 lv w'=>n=0∧q3=some ⟨bj,0,none⟩∧q4=some m∧n1=0∧n2=0∧n3=0∧n4=0∧Grow w2 w',⟨0,rfl,rfl,rfl,rfl,rfl,rfl,rfl,g4.trans g6⟩,?_⟩
 rintro n q8 q9 n1 n2 n3 n4 D lv w7 ⟨rfl,rfl,rfl,rfl,rfl,rfl,rfl,g7⟩ hF7
 refine ⟨λhlt=>absurd hlt (by simp [HS.zero]),λ_=>?_⟩
 refine hK w7 bh bj m ⟨bd,p,none,0⟩ hF7.gr (H2.grow g7) λk hk=>?_
 rcases hk with (rfl | hk | rfl | ⟨v,hv,_⟩) | ⟨v,hv,_⟩
 ·exact .inr (by simp only [HS.zero] at *;omega)
 ·rcases hk with rfl | hk | ⟨a,ha,_⟩
  ·exact .inr hbj
  ·exact .inl hk
  ·cases ha
 ·exact .inr (by simp only [HS.zero] at *;omega)
 ·cases hv
 ·cases hv
end Go.Vc
namespace Go.Vc
open Go Go.MapKept
structure Rp where
 ready:Int
 prepared:Int
 done:Int
 heard:Bool
 at_:Int
structure ActS where
 x:PubS
 a:Nat
 bn:Nat
 reps:List Rp
def ActS.tgt (s:ActS):Nat:=if s.x.last≤s.x.com then 0 else s.x.last
end Go.Vc
namespace Go.Vc
open Go Go.MapKept
def agrees (s:ActS) (now:Int):Prop:=0<s.tgt∧(∃r∈s.reps,r.heard=true∧r.at_≥now - 12)∧∀r∈s.reps,r.heard=true→r.at_≥now - 12→(s.tgt:Int)≤r.prepared
end Go.Vc
namespace Go.Vc
open Go Go.MapKept
end Go.Vc
namespace Go.Vc
open Go Go.MapKept
theorem add_add (a:Addr) (i j:Nat):(a.add i).add j=a.add (i+j):=by
 obtain ⟨b,o,r⟩:=a
 simp only [Addr.add]
 by_cases hi:i=0
 ·subst hi;simp
 ·by_cases hj:j=0
  ·subst hj;simp [hi]
  ·simp [hi,hj,Nat.add_assoc]
theorem Grow.cell {w w':World} (g:Grow w w') {a:Addr} {v:Value} (h:w.cell? a=some v):w'.cell? a=some v:=by
 unfold World.cell? at h ⊢
 cases hb:w.heap[a.block]? with
 | none=>simp [hb] at h
 | some o=>rw [g.get hb];rw [hb] at h;exact h
end Go.Vc
namespace Go.Vc
open Go
def s2_ (m:MsgL):Prop:=m.text.length≤6000∧m.proof.length≤30∧∀p∈m.proof,p.length≤100
theorem lO_ {m:MsgL} {q:Option Addr} {c:Nat} {w:World} (hs:Sl w q (m.proof.map sv8')) {K:Value→World→Prop} (hK:∀w' t,Grow w w'→(t=false→s2_ m)→K (.bool t) w') :
  aa_ PR F.bZ_ ⟨[pr_ m q c]⟩ w K:=by
 refine bZ_ m.kind m.ver m.i (str m.text) q m.proof.length c S0 K w λl0 hl0=>⟨λh w0 hF=>hK w0 true hF.gr (λh=>by cases h),λht=>⟨λh w1 hF=>hK w1 true hF.gr (λh=>by cases h),λhp w2 hF2=>?_⟩⟩
 rw [ai_] at ht
 refine ⟨λi mm w'=>∃k:Nat,i=k∧k≤m.proof.length∧mm=m.proof.length - k∧∀j,(hj:j<m.proof.length)→j<k→m.proof[j].length≤100,⟨_,0,rfl,by omega,rfl,λj hj h=>by omega⟩,?_⟩
 rintro i D mm w3 ⟨k,rfl,hk,rfl,hall⟩ hF3
 refine ⟨λhlt=>?_,λhge=>hK w3 false hF3.gr λ_=>⟨by omega,by omega,λp hp=>?_⟩⟩
 ·have hk':k<m.proof.length:=by omega
  refine (hs.grow hF3.gr).rd (v:=sv8' m.proof[k]) (by simp) (by omega) (by simp [hk']) λa ha=>⟨_,ha,λh=>hK w3 true hF3.gr (λh=>by cases h),λh=>⟨m.proof.length - (k+1),by omega,k+1,by rw [w64 (by omega) (by omega)];rfl,by omega,rfl,λj hj hjk=>?_⟩⟩
  by_cases e:j=k
  ·subst e;rw [ai_] at h;omega
  ·exact hall j hj (by omega)
 ·obtain ⟨j,hj,rfl⟩:=List.getElem_of_mem hp
  exact hall j hj (by omega)
end Go.Vc
namespace Go.Vc
open Go Go.RowKit Go.Extern.Stop Go.Stop Go.Extern Go.Proofs
end Go.Vc
namespace Go.Vc
open Go Go.MapKept
theorem ErrT.grow {w w':World} (h:ErrT w) (g:Grow w w'):ErrT w':=by
 unfold ErrT at h ⊢
 unfold World.cell? at h ⊢
 cases hb:w.heap[0]? with
 | none=>simp [hb] at h
 | some o=>
  have:=Grow.get g hb
  simp only [this]
  simp only [hb] at h
  exact h
end Go.Vc
namespace Go.Vc
open Go Go.MapKept
theorem i__.flat {version nodes:Int} {each:Nat} {l:List (Int × Int)} {m:Man} {list:List (List UInt8)} (he:1≤each) (hg:fm_ nodes l) (h64:nodes≤64*(each:Int)) (h:i__ version nodes each l m list):(list.flatten.length:Int)≤1472+9*nodes+8*l.length∧list.length=a4_ list.flatten.length:=by
 obtain ⟨nn,N,k,rfl,hN,hk1,hk2,e⟩:=h
 have e2:list=cutL (bi_ (begL nn N) (N.map (·.2)) each nn k).flatten:=congrArg Prod.snd e
 have hNl:=hN.len
 have hll:=hg.2.2.1
 have hnn:=hg.2.1
 have hL:=r0_ hN (by omega)
 have htot:=hZ_ (k:=k) hL (by omega) he hk2
 have hTl:(N.map (·.2)).length=N.length:=List.length_map _
 have hk:k≤64:=by
  rcases Nat.lt_or_ge 64 k with h | h
  ·have:=hk2 64 h;omega
  ·exact h
 rw [e2,kE_,iF_]
 rw [hTl] at htot
 exact ⟨by omega,rfl⟩
theorem p4_ {n m:Nat} (h:n≤64*m):a4_ n≤m:=by unfold a4_;omega
end Go.Vc
namespace Go.Vc
open Go Go.MapKept
theorem ja_ {w:World} {s:HS} (h:az_ w s) {n:Int} (hn:aM_ n) {K:Value→World→Prop} (h1:∀w' v q c,v∈s.vs→v.man.version=n→Grow w w'→Own T.aS_ 2 w' q c (encE v.man.shards)→K (.tuple #[mval v.man q c,.nilIface]) w') (h2:∀w',Grow w w'→(∀v∈s.vs,v.man.version≠n)→K (.tuple #[.agg #[.int .i64 0,.int .i64 0,.int .i64 0,.slice none 0 0,.int .i64 0,.string ⟨#[]⟩],.iface T.ak_ (.int .i64 13)]) w') :
  aa_ PR F.eP_ ⟨[.pointer (some ⟨s.bh,0,none⟩),.int .i64 n]⟩ w K:=by
 have h0:Fs (· = s.bh) w [⟨s.bh,hsC s,T.as_,true⟩] w:=(Fr.init _ w).entry h.blk (λx h=>by cases h) λ_=>rfl
 have gr:∀ {w':World} {L:List Blk} {M:List Nat} {wp:World},Fr (· = s.bh) w wp M (⟨s.bh,hsC s,T.as_,true⟩ :: L) w'→Grow w w':=λhF=>hF.chg.same h.blk (hF.blk 0 rfl)
 refine fW_ s.bh (some ⟨s.bj,0,none⟩) (some s.m) s.act s.prep s.lv s.li n (· = s.bh) K w h0 ⟨rfl,trivial⟩ λl0 hl0 w0 hF0=>?_
 have g0:Grow w w0:=hF0.grow
 have hl0w:l0<w0.heap.size:=aj_ (hF0.blk 1 rfl)
 refine eF_ (h.grow g0) hn (λv hv e=>⟨_,_,rfl,hF0.reset,λ_=>?_,(λt x h=>by cases h),.inl rfl⟩) λhno=>⟨_,_,rfl,hF0.reset,(λh=>by cases h),(λt x _ w4 hF4=>h2 w4 (gr hF4) hno),.inr ⟨_,_,rfl⟩⟩
 have hv0:=(h.grow g0).vs v hv
 have cell:∀ {k:Nat} {x:Value},(hvC v)[k]? = some x→w0.cell? (Addr.add (Addr.add ⟨v.b,0,none⟩ 0) k)=some x:=λhk=>dy_ hv0.blk hk
 refine ac_.2 (ac_.2 (ac_.2 ⟨_,cell (k:=0) rfl,_,cell (k:=1) rfl,_,cell (k:=2) rfl,_,_,_,cell (k:=3) rfl,_,cell (k:=4) rfl,_,cell (k:=5) rfl,?_⟩))
 refine dD_ (m:=v.man) hv0.ok.shards.1 hv0.own.sl λw2 q c g2 ho hq=>⟨_,_,_,_,_,_,_,_,rfl,hF0.reset.after g2,λw3 hF3=>?_⟩
 refine h1 w3 v q c hv e (gr hF3) (ho.keep hF3.stp λa ha e=>?_)
 have:=hq a ha
 have e':a.block=l0:=by simpa using e
 omega
def fR_ (v:HV) (k:Nat):List Int:=((List.range k).map λn:Nat=>(n:Int)).filter λi=>decide (∀p∈v.bl,p.1≠i)
theorem gu_ (v:HV) (k:Nat):fR_ v (k+1)=fR_ v k++(if ∀p∈v.bl,p.1≠(k:Int) then [(k:Int)] else []):=by
 unfold fR_
 rw [List.range_succ,List.map_append,List.filter_append]
 congr 1
 by_cases h:∀p∈v.bl,p.1≠(k:Int)
 ·rw [if_pos h]
  show List.filter _ [(k:Int)]=_
  rw [List.filter_cons,if_pos (decide_eq_true h)];rfl
 ·rw [if_neg h]
  show List.filter _ [(k:Int)]=_
  rw [List.filter_cons,if_neg (by rw [decide_eq_true_iff];exact h)];rfl
def av_ (v:HV):List Int:=fR_ v v.man.blocks.toNat
theorem bt_ {v:HV} {i:Int} : i∈av_ v↔(0≤i∧i<v.man.blocks)∧∀p∈v.bl,p.1≠i:=by
 unfold av_ fR_
 rw [List.mem_filter,decide_eq_true_iff,List.mem_map]
 refine and_congr_left λ_=>⟨λ⟨n,hn,e⟩=>?_,λh=>⟨i.toNat,List.mem_range.2 (by omega),by omega⟩⟩
 have:=List.mem_range.1 hn;omega
theorem eD_ (v:HV) (k:Nat):(fR_ v k).length≤k:=by
 unfold fR_
 have:=List.length_filter_le (λi=>decide (∀p∈v.bl,p.1≠i)) ((List.range k).map λn:Nat=>(n:Int))
 rw [List.length_map,List.length_range] at this
 exact this
theorem cr_ {w:World} {s:HS} (h:az_ w s) {n:Int} (hn:aM_ n) {K:Value→World→Prop} (h1:∀w' v q c,v∈s.vs→v.man.version=n→Grow w w'→Own T.int 1 w' q c ((av_ v).map iv)→Off (λk=>k<w.heap.size) q→K (.slice q (av_ v).length c) w') (h2:∀w',Grow w w'→(∀v∈s.vs,v.man.version≠n)→K (.slice none 0 0) w') :
  aa_ PR F.cE_ ⟨[.pointer (some ⟨s.bh,0,none⟩),.int .i64 n]⟩ w K:=by
 have h0:Fs (· = s.bh) w [⟨s.bh,hsC s,T.as_,true⟩] w:=(Fr.init _ w).entry h.blk (λx h=>by cases h) λ_=>rfl
 have gr:∀ {w':World} {L:List Blk} {M:List Nat} {wp:World},Fr (· = s.bh) w wp M (⟨s.bh,hsC s,T.as_,true⟩ :: L) w'→Grow w w':=λhF=>hF.chg.same h.blk (hF.blk 0 rfl)
 have hbl:=aj_ h.blk
 refine gz_ s.bh (some ⟨s.bj,0,none⟩) (some s.m) s.act s.prep s.lv s.li n (· = s.bh) K w h0 ⟨rfl,trivial⟩ ?_
 refine eF_ h hn (λv hv e=>⟨_,_,rfl,h0,λ_=>?_,(λt x h=>by cases h),.inl rfl⟩) λhno=>⟨_,_,rfl,h0,(λh=>by cases h),(λt x _=>h2 w (.refl _ _) hno),.inr ⟨_,_,rfl⟩⟩
 have hv0:=h.vs v hv
 have hbb:=hv0.ok.blocks
 have hb0:0≤v.man.blocks:=by
  rw [hbb.1];unfold gV_;split <;> omega
 obtain ⟨B,hB⟩:=Int.eq_ofNat_of_zero_le hb0
 refine ac_.2 (ac_.2 (ac_.2 (ac_.2 ⟨_,dy_ hv0.blk (k:=4) rfl,?_⟩)))
 refine ⟨λq l c i lv w'=>∃k:Nat,i=k∧k≤B∧lv=B - k∧l=(fR_ v k).length∧Own T.int 1 w' q c ((fR_ v k).map iv)∧l≤c∧Off (λx=>x<w.heap.size) q,⟨_,0,rfl,by omega,rfl,rfl,.nil _ _ _,Nat.le_refl _,.none _⟩,?_⟩
 rintro q l c i D lv w1 ⟨k,rfl,hk,rfl,rfl,ho,hlc,hof⟩ hF1
 have g1:=gr hF1
 have hv1:=hv0.grow g1
 refine ⟨λhlt=>?_,λhge=>?_⟩
 ·have hk':k<B:=by omega
  refine ac_.2 (ac_.2 (ac_.2 ⟨_,cM_ hv1.blk (k:=6) rfl,?_⟩))
  refine aJ_ bV_ hv1.bm ⟨by omega,by omega⟩ true eT_ (λx hx=>?_) λhno=>⟨_,_,false,rfl,(λh=>by cases h),λ_=>⟨hF1,λl6 hl6 l7 hl7 w4 hF4=>?_⟩⟩
  ·obtain ⟨p,hp,e⟩:=List.mem_map.1 hx
   have e2:x=plV p.2:=(congrArg Prod.snd e).symm
   subst e2
   refine ⟨_,_,true,rfl,(λ_=>⟨hF1,λl4 hl4 w3 hF3=>?_⟩),λh=>by cases h⟩
   have hF3':=hF3.unM hl4
   have g3:Grow w1 w3:=hF3'.grow
   have e3:fR_ v (k+1)=fR_ v k:=by
    rw [gu_,if_neg (λhall=>hall p hp (congrArg Prod.fst e))];simp
   exact ⟨B - (k+1),by omega,k+1,wr1 (by omega),by omega,rfl,by rw [e3],by rw [e3];exact ho.grow g3,by rw [← e3] at hlc ⊢;exact hlc,hof⟩
  ·have hF4':=hF4.unM hl6
   have g4:Grow w1 w4:=hF4'.grow
   have hno':∀p∈v.bl,p.1≠(k:Int):=λp hp e=>hno (p.1,plV p.2) (List.mem_map.2 ⟨p,hp,rfl⟩) e
   have hml:=eD_ v k
   refine f2_ (ho.grow g4) rfl hlc (ys:=[(k:Int)]) (hF4'.sl 1 rfl) rfl (by omega) λq5 c5 w5 ho5 hc5 g5 hq5=>?_
   have sw1:=g1.size
   have hF5:=hF4'.app2 g5 w.heap.size w1.heap.size hof (λa ha=>ho.lt a ha) (λz hz=>by
    simp only [List.mem_cons,List.not_mem_nil,or_false] at hz
    rcases hz with rfl | rfl
    ·exact .inl hbl
    ·exact .inr hl7) (Nat.le_refl _)
   refine ⟨_,_,_,rfl,hF5,B - (k+1),by omega,k+1,wr1 (by omega),by omega,rfl,?_,?_,?_,hof.next hq5 (by have:=g4.size;omega)⟩
   ·rw [gu_,if_pos hno'];simp
   ·rw [gu_,if_pos hno'];exact ho5
   ·exact hc5
 ·have e2:k=B:=by omega
  subst e2
  have e3:fR_ v k=av_ v:=by unfold av_;rw [hB];rfl
  rw [e3] at ho ⊢
  exact h1 w1 v q c hv e g1 ho hof
end Go.Vc
namespace Go.Vc
open Go Go.RowKit Go.Maps Go.Sort Go.Shelf Go.Proofs Go.MapKept
open Go.WideElems (Fit rd rg rd_mk)
theorem og_ {w:World} {mb:Option Nat} {K:Value→World→Prop} (hK:∀w' b,Grow w w'→b<w'.heap.size→w'.cell? ⟨b,0,none⟩=some (.map mb)→K (.func (.func 155) #[] #[.pointer (some ⟨b,0,none⟩)]) w'):aa_ PR 114 #[.map mb] w K:=by
 have cK:CallsIn Fence.wide 5 Tryz.prog 114 #[.map mb] w λe w'=>e=.returned (.func (.func 155) #[] #[.pointer (some ⟨w.heap.size,0,none⟩)])∧w'=w.alloc (.cells #[.map mb] 37):=AnyZI.keys_in Tryz.keysB Fence.wide 5 trivial rfl mb w
 refine bj_ ((callsIn_wide (n:=5)).1 cK) λe w' ⟨he,hw⟩=>⟨_,he,?_⟩
 subst hw
 exact hK _ _ (Chg.alloc w _) (by simp) (by simp)
theorem lL_ {w:World} {b m:Nat} {l:List (Int × Value)} (hB:w.cell? ⟨b,0,none⟩=some (.map (some m))) (hbl:b<w.heap.size) (hM:MapI w m l) (hsz:l.length≤1000000) {K:Value→World→Prop}
  (hK:∀w' q c (L:List Int),Grow w w'→L.length=l.length→Sl w' q (L.map Iv)→(∀i,i∈L↔i∈l.map (·.1))→L.Pairwise (· < ·)→K (.slice q l.length c) w'):aa_ PR 41 #[.func (.func 155) #[] #[.pointer (some ⟨b,0,none⟩)]] w K:=by
 obtain ⟨es,clock,hm,hst,hes,hl1,hin⟩:=hM.ex
 have hk:∀x∈es.toList,∃l,keyOf PR T.int x.key=some l:=λx hx=>by
  obtain ⟨p,hp,e,_⟩:=hl1 x hx
  exact ⟨_,by rw [e];exact b0_ (hM.fit p hp).1 (hM.fit p hp).2⟩
 have hsz':es.size≤1000000:=by omega
 let R0:Value→Option (DataW Unit × List MemPlace):=λ_=>some (.nil,[])
 have F0:Fit PR T.int R0 es clock:=⟨Nat.le_trans hsz' (by decide),hst,λx hx=>by
  obtain ⟨l,hl⟩:=hk x hx
  exact ⟨_,rd_mk (born:=x.born) hl rfl⟩⟩
 have hown:w.ownsMap PR T.int R0 m es.size _:=World.ownsMap_of_fit hm F0 (λ_ _ _ h=>h)
 have hlen:=length_read (P:=PR) (k:=T.int) (R0:=R0) es
 have hsize:Maps.size (.map ((es.toList.map (rg PR T.int R0)).foldr DataW.insert []))=es.size:=hlen
 have hseq:SeqGives Fence.wide 2 Tryz.prog 155 #[.pointer (some ⟨b,0,none⟩)] encZ (λss=>ss.Perm (intKeys (.map ((es.toList.map (rg PR T.int R0)).foldr DataW.insert [])))) (Maps.size (.map ((es.toList.map (rg PR T.int R0)).foldr DataW.insert []))) w:=
  AnyZI.keys_gives (ρ:=Tryz.keysB_ren) { Tryz.keysB with } Fence.wide _ trivial rfl (by omega) b m es.size _ w hbl hB hown
 have cS:=AnyZI.sorted_in Tryz.sortedA Fence.wide 5 trivial trivial trivial trivial rfl (by omega) (o3_ _) (enters_of Tryz.func91 (by kernel_rfl) rfl) 155 #[.pointer (some ⟨b,0,none⟩)] trivial (enters_of Tryz.func155 (by kernel_rfl) rfl) _ _ (by rw [hsize];exact Nat.le_trans hsz' (by decide)) (by rw [hsize];omega) _ hseq
 change CallsIn _ _ Tryz.prog 41 _ _ _ at cS
 refine bj_ ((callsIn_wide (n:=5)).1 cS) λe w' ⟨v,ss,he,hS,hrow,hnil,hb⟩=>⟨v,he,?_⟩
 have hkey:∀y∈es.toList,∃p∈l,y.key=.int .i64 p.1∧intOf (rg PR T.int R0 y).1=p.1:=λy hy=>by
  obtain ⟨p,hp,e,_⟩:=hl1 y hy
  refine ⟨p,hp,e,?_⟩
  have hkl:keyOf PR T.int y.key=some (.int .i64 p.1):=by rw [e];exact b0_ (hM.fit p hp).1 (hM.fit p hp).2
  have e3:rg PR T.int R0 y=(.int .i64 p.1,.nil):=by
   unfold WideElems.rg WideElems.rd
   rw [hkl];rfl
  rw [e3];rfl
 have hperm:ss.Perm (es.toList.map λy=>intOf (rg PR T.int R0 y).1):=by
  refine hS.trans ?_
  show (List.map (λp:Lit × DataW Unit=>intOf p.1) _).Perm _
  refine ((dN_ _).map _).trans ?_
  rw [List.map_map]
  exact .refl _
 have hnd:ss.Nodup:=by
  refine hperm.nodup_iff.2 ?_
  have:=hst.2.2
  rw [List.nodup_iff_pairwise_ne,List.pairwise_map] at *
  refine this.imp_of_mem λ{y z} hy hz hne e=>hne ?_
  obtain ⟨p,_,e1,e2⟩:=hkey y hy
  obtain ⟨p',_,e3,e4⟩:=hkey z hz
  rw [e1,e3,← e2,← e4,e]
 have hl:ss.length=es.size:=by
  rw [hperm.length_eq,List.length_map,Array.length_toList]
 have hl2:(ss.mergeSort λx y=>decide (x≤y)).length=l.length:=by rw [List.length_mergeSort,hl,hes]
 have hmem:∀i,i∈(ss.mergeSort λx y=>decide (x≤y))↔i∈l.map (·.1):=λi=>by
  rw [(List.mergeSort_perm ss _).mem_iff,hperm.mem_iff,List.mem_map,List.mem_map]
  constructor
  ·rintro ⟨y,hy,rfl⟩
   obtain ⟨p,hp,_,e⟩:=hkey y hy
   exact ⟨p,hp,e.symm⟩
  ·rintro ⟨p,hp,rfl⟩
   obtain ⟨y,hy,e,_⟩:=hin p hp
   obtain ⟨p',_,e1,e2⟩:=hkey y hy
   exact ⟨y,hy,by rw [e2,← int_inj (e1.symm.trans e)]⟩
 obtain ⟨hrl,hrow⟩:=hrow
 rcases hrow with ⟨rfl,hz⟩ | ⟨gb,cap,cur,rfl,_,hheap,_,_,_,htake⟩
 ·have:=hK w' none 0 _ (cv_ hb) hl2 (.inl (by
   have:ss=[]:=List.eq_nil_of_length_eq_zero hz
   subst this;simp)) hmem (f__ hnd)
  have hl0:l.length=0:=by omega
  rw [hl0] at this
  exact this
 ·rw [hl,hes]
  refine hK w' _ _ _ (cv_ hb) hl2 (.inr ⟨gb,0,rfl,cur,_,_,hheap,λi hi=>?_⟩) hmem (f__ hnd)
  have e:((ss.mergeSort λx y=>decide (x≤y)).map Iv)=cur.toList.take (ss.length*1):=htake.symm
  rw [e] at hi ⊢
  rw [List.length_take] at hi
  rw [Nat.zero_add,List.getElem?_take_of_lt (by omega),Array.getElem?_toList]
theorem oe_ {w:World} {mb:Option Nat} {K:Value→World→Prop} (hK:∀w' b,Grow w w'→b<w'.heap.size→w'.cell? ⟨b,0,none⟩=some (.map mb)→K (.func (.func 194) #[] #[.pointer (some ⟨b,0,none⟩)]) w'):aa_ PR 154 #[.map mb] w K:=by
 have cK:CallsIn Fence.wide 5 Tryz.prog 154 #[.map mb] w λe w'=>e=.returned (.func (.func 194) #[] #[.pointer (some ⟨w.heap.size,0,none⟩)])∧w'=w.alloc (.cells #[.map mb] 60):=AnyZI.keys_in Tryz.keysN Fence.wide 5 trivial rfl mb w
 refine bj_ ((callsIn_wide (n:=5)).1 cK) λe w' ⟨he,hw⟩=>⟨_,he,?_⟩
 subst hw
 exact hK _ _ (Chg.alloc w _) (by simp) (by simp)
theorem lJ_ {w:World} {b m:Nat} {l:List (Int × Value)} (hB:w.cell? ⟨b,0,none⟩=some (.map (some m))) (hbl:b<w.heap.size) (hM:MapI w m l) (hsz:l.length≤1000000) {K:Value→World→Prop}
  (hK:∀w' q c (L:List Int),Grow w w'→L.length=l.length→Sl w' q (L.map Iv)→(∀i,i∈L↔i∈l.map (·.1))→L.Pairwise (· < ·)→K (.slice q l.length c) w'):aa_ PR 41 #[.func (.func 194) #[] #[.pointer (some ⟨b,0,none⟩)]] w K:=by
 obtain ⟨es,clock,hm,hst,hes,hl1,hin⟩:=hM.ex
 have hk:∀x∈es.toList,∃l,keyOf PR T.int x.key=some l:=λx hx=>by
  obtain ⟨p,hp,e,_⟩:=hl1 x hx
  exact ⟨_,by rw [e];exact b0_ (hM.fit p hp).1 (hM.fit p hp).2⟩
 have hsz':es.size≤1000000:=by omega
 let R0:Value→Option (DataW Unit × List MemPlace):=λ_=>some (.nil,[])
 have F0:Fit PR T.int R0 es clock:=⟨Nat.le_trans hsz' (by decide),hst,λx hx=>by
  obtain ⟨l,hl⟩:=hk x hx
  exact ⟨_,rd_mk (born:=x.born) hl rfl⟩⟩
 have hown:w.ownsMap PR T.int R0 m es.size _:=World.ownsMap_of_fit hm F0 (λ_ _ _ h=>h)
 have hlen:=length_read (P:=PR) (k:=T.int) (R0:=R0) es
 have hsize:Maps.size (.map ((es.toList.map (rg PR T.int R0)).foldr DataW.insert []))=es.size:=hlen
 have hseq:SeqGives Fence.wide 2 Tryz.prog 194 #[.pointer (some ⟨b,0,none⟩)] encZ (λss=>ss.Perm (intKeys (.map ((es.toList.map (rg PR T.int R0)).foldr DataW.insert [])))) (Maps.size (.map ((es.toList.map (rg PR T.int R0)).foldr DataW.insert []))) w:=
  AnyZI.keys_gives (ρ:=Tryz.keysN_ren) { Tryz.keysN with } Fence.wide _ trivial rfl (by omega) b m es.size _ w hbl hB hown
 have cS:=AnyZI.sorted_in Tryz.sortedA Fence.wide 5 trivial trivial trivial trivial rfl (by omega) (o3_ _) (enters_of Tryz.func91 (by kernel_rfl) rfl) 194 #[.pointer (some ⟨b,0,none⟩)] trivial (enters_of Tryz.func194 (by kernel_rfl) rfl) _ _ (by rw [hsize];exact Nat.le_trans hsz' (by decide)) (by rw [hsize];omega) _ hseq
 change CallsIn _ _ Tryz.prog 41 _ _ _ at cS
 refine bj_ ((callsIn_wide (n:=5)).1 cS) λe w' ⟨v,ss,he,hS,hrow,hnil,hb⟩=>⟨v,he,?_⟩
 have hkey:∀y∈es.toList,∃p∈l,y.key=.int .i64 p.1∧intOf (rg PR T.int R0 y).1=p.1:=λy hy=>by
  obtain ⟨p,hp,e,_⟩:=hl1 y hy
  refine ⟨p,hp,e,?_⟩
  have hkl:keyOf PR T.int y.key=some (.int .i64 p.1):=by rw [e];exact b0_ (hM.fit p hp).1 (hM.fit p hp).2
  have e3:rg PR T.int R0 y=(.int .i64 p.1,.nil):=by
   unfold WideElems.rg WideElems.rd
   rw [hkl];rfl
  rw [e3];rfl
 have hperm:ss.Perm (es.toList.map λy=>intOf (rg PR T.int R0 y).1):=by
  refine hS.trans ?_
  show (List.map (λp:Lit × DataW Unit=>intOf p.1) _).Perm _
  refine ((dN_ _).map _).trans ?_
  rw [List.map_map]
  exact .refl _
 have hnd:ss.Nodup:=by
  refine hperm.nodup_iff.2 ?_
  have:=hst.2.2
  rw [List.nodup_iff_pairwise_ne,List.pairwise_map] at *
  refine this.imp_of_mem λ{y z} hy hz hne e=>hne ?_
  obtain ⟨p,_,e1,e2⟩:=hkey y hy
  obtain ⟨p',_,e3,e4⟩:=hkey z hz
  rw [e1,e3,← e2,← e4,e]
 have hl:ss.length=es.size:=by
  rw [hperm.length_eq,List.length_map,Array.length_toList]
 have hl2:(ss.mergeSort λx y=>decide (x≤y)).length=l.length:=by rw [List.length_mergeSort,hl,hes]
 have hmem:∀i,i∈(ss.mergeSort λx y=>decide (x≤y))↔i∈l.map (·.1):=λi=>by
  rw [(List.mergeSort_perm ss _).mem_iff,hperm.mem_iff,List.mem_map,List.mem_map]
  constructor
  ·rintro ⟨y,hy,rfl⟩
   obtain ⟨p,hp,_,e⟩:=hkey y hy
   exact ⟨p,hp,e.symm⟩
  ·rintro ⟨p,hp,rfl⟩
   obtain ⟨y,hy,e,_⟩:=hin p hp
   obtain ⟨p',_,e1,e2⟩:=hkey y hy
   exact ⟨y,hy,by rw [e2,← int_inj (e1.symm.trans e)]⟩
 obtain ⟨hrl,hrow⟩:=hrow
 rcases hrow with ⟨rfl,hz⟩ | ⟨gb,cap,cur,rfl,_,hheap,_,_,_,htake⟩
 ·have:=hK w' none 0 _ (cv_ hb) hl2 (.inl (by
   have:ss=[]:=List.eq_nil_of_length_eq_zero hz
   subst this;simp)) hmem (f__ hnd)
  have hl0:l.length=0:=by omega
  rw [hl0] at this
  exact this
 ·rw [hl,hes]
  refine hK w' _ _ _ (cv_ hb) hl2 (.inr ⟨gb,0,rfl,cur,_,_,hheap,λi hi=>?_⟩) hmem (f__ hnd)
  have e:((ss.mergeSort λx y=>decide (x≤y)).map Iv)=cur.toList.take (ss.length*1):=htake.symm
  rw [e] at hi ⊢
  rw [List.length_take] at hi
  rw [Nat.zero_add,List.getElem?_take_of_lt (by omega),Array.getElem?_toList]
end Go.Vc
namespace Go.Vc
open Go
theorem jS_ (m0:Int) (m1:Int) (y2:Option Addr) (ly2:Nat) (cy2:Nat) (S:SP) (K:KP) (w:World) (h:(m0<1→K (.tuple #[.pointer none,.iface 39 (Iv 1)]) w)∧(¬(m0<1)→(m0>64→K (.tuple #[.pointer none,.iface 39 (Iv 1)]) w)∧(¬(m0>64)→(m1<1→K (.tuple #[.pointer none,.iface 39 (Iv 1)]) w)∧(¬(m1<1)→(m1>1000→K (.tuple #[.pointer none,.iface 39 (Iv 1)]) w)∧(¬(m1>1000)→rn PR (Instr.makeMap 37 none) (λv0 w0=>∃q0,v0=.map q0∧Fs S w [] w0∧rn PR (Instr.makeMap 60 none) (λv1 w1=>∃q1,v1=.map q1∧Fs S w [] w1∧∀l0,w1.heap.size≤l0→∀w2,Fr S w w1 [] [⟨l0,#[Iv m0,Iv m1,.map q0,.map q1],207,true⟩] w2→aa_ PR 61 #[.pointer (some (⟨l0,0,none⟩)),.slice y2 ly2 cy2] w2 λv2 w3=>v2=.tuple #[]∧∃n0 n1 q2 q3,Fs S w [⟨l0,#[Iv n0,Iv n1,.map q2,.map q3],207,true⟩] w3∧K (.tuple #[.pointer (some (⟨l0,0,none⟩)),.nilIface]) w3) w0) w))))):aa_ PR 58 ⟨[.int .i64 m0,.int .i64 m1,.slice y2 ly2 cy2]⟩ w K:=
 ab_ (okf:=⟨okL,[]⟩) ag_ (args:=[.c (.v (.int .i64 m0)),.c (.v (.int .i64 m1)),.c (.v (.slice y2 ly2 cy2))]) (H:=[]) (.s .z (.s .z (.s (.r ⟨(some []),false,[],[]⟩) (.s (.r ⟨(some [8]),false,[],[(2,[999])]⟩) .z)))) Go.Proofs.Tryz.func58 rfl ⟨trivial,trivial,trivial,trivial⟩ trivial (Fr.init S w) trivial (ad_ (by kernel_rfl) h)
theorem qC_ (k0:Nat) (m1:Int) (m2:Int) (g3:Option Nat) (g4:Option Nat) (y5:Option Addr) (ly5:Nat) (cy5:Nat) (S:SP) (K:KP) (w:World) (hF:Fs S w [⟨k0,#[.int .i64 m1,.int .i64 m2,.map g3,.map g4],207,true⟩] w) (hS:S k0∧True) (h:∃I0:Int→Nat→World→Prop,(∃l0,I0 0 l0 w)∧∀n0,∀D0:Nat→Value,∀l1 w0,I0 n0 l1 w0→Fs S w [⟨k0,#[Iv m1,Iv m2,.map g3,.map g4],207,true⟩] w0→(n0<(ly5:Int)→Dr y5 λa0=>(0:Int)≤n0∧n0<(ly5:Int)∧Dr (some (Addr.add a0 (Int.toNat n0*1))) λa1=>∃n1,World.cell? w0 a1=some (Iv n1)∧(n1≥0→(n1≤1048576→rn PR (Instr.mapUpdate 37 (.map g3) (Iv n1) (.bool true)) (λx0 w1=>Fs S w [⟨k0,#[Iv m1,Iv m2,.map g3,.map g4],207,true⟩] w1∧∃l2,l2<l1∧I0 (IntKind.wrap .i64 (n0+1)) l2 w1) w0)∧(¬(n1≤1048576)→∃l3,l3<l1∧I0 (IntKind.wrap .i64 (n0+1)) l3 w0))∧(¬(n1≥0)→∃l4,l4<l1∧I0 (IntKind.wrap .i64 (n0+1)) l4 w0))∧(¬(n0<(ly5:Int))→K (.tuple #[]) w0)):aa_ PR 61 ⟨[.pointer (some ⟨k0,0,none⟩),.slice y5 ly5 cy5]⟩ w K:=
 ab_ (okf:=⟨okL,[]⟩) ag_ (args:=[.c (.p 0 k0 true 0),.c (.v (.slice y5 ly5 cy5))]) (H:=[⟨k0,.l [.v (.int .i64 m1),.v (.int .i64 m2),.v (.map g3),.v (.map g4)],207,true⟩]) (.s .z (.b (.l (some [0]) (some [0]) [(8,.c (.int .i64))] [] (.s .z (.s .z (.s (.b (.s .z (.s .z (.c (.r ⟨(some [0]),false,[],[]⟩) .z)))) .z)))))) Go.Proofs.Tryz.func61 rfl ⟨rfl,trivial,trivial⟩ ⟨⟨trivial,⟨trivial,⟨trivial,⟨trivial,trivial⟩⟩⟩⟩,trivial⟩ hF hS (ad_ (by kernel_rfl) h)
theorem kU_ (k0:Nat) (m1:Int) (m2:Int) (g3:Option Nat) (g4:Option Nat) (S:SP) (K:KP) (w:World) (hF:Fs S w [⟨k0,#[.int .i64 m1,.int .i64 m2,.map g3,.map g4],207,true⟩] w) (hS:S k0∧True) (h:aa_ PR 114 #[.map g3] w λv0 w0=>∃v1,v0=v1∧Fs S w [⟨k0,#[Iv m1,Iv m2,.map g3,.map g4],207,true⟩] w0∧aa_ PR 41 #[v1] w0 λv2 w1=>∃q0 l0 l1,v2=.slice q0 l0 l1∧Fs S w [⟨k0,#[Iv m1,Iv m2,.map g3,.map g4],207,true⟩] w1∧K (.slice q0 l0 l1) w1):aa_ PR 59 ⟨[.pointer (some ⟨k0,0,none⟩)]⟩ w K:=
 ab_ (okf:=⟨okL,[]⟩) ag_ (args:=[.c (.p 0 k0 true 0)]) (H:=[⟨k0,.l [.v (.int .i64 m1),.v (.int .i64 m2),.v (.map g3),.v (.map g4)],207,true⟩]) (.s .z (.s .z (.s (.r ⟨(some [0]),false,[],[]⟩) .z))) Go.Proofs.Tryz.func59 rfl ⟨rfl,trivial⟩ ⟨⟨trivial,⟨trivial,⟨trivial,⟨trivial,trivial⟩⟩⟩⟩,trivial⟩ hF hS (ad_ (by kernel_rfl) h)
theorem hz_ (k0:Nat) (m1:Int) (m2:Int) (g3:Option Nat) (g4:Option Nat) (S:SP) (K:KP) (w:World) (hF:Fs S w [⟨k0,#[.int .i64 m1,.int .i64 m2,.map g3,.map g4],207,true⟩] w) (hS:S k0∧True) (h:aa_ PR 154 #[.map g4] w λv0 w0=>∃v1,v0=v1∧Fs S w [⟨k0,#[Iv m1,Iv m2,.map g3,.map g4],207,true⟩] w0∧aa_ PR 41 #[v1] w0 λv2 w1=>∃q0 l0 l1,v2=.slice q0 l0 l1∧Fs S w [⟨k0,#[Iv m1,Iv m2,.map g3,.map g4],207,true⟩] w1∧K (.slice q0 l0 l1) w1):aa_ PR 112 ⟨[.pointer (some ⟨k0,0,none⟩)]⟩ w K:=
 ab_ (okf:=⟨okL,[]⟩) ag_ (args:=[.c (.p 0 k0 true 0)]) (H:=[⟨k0,.l [.v (.int .i64 m1),.v (.int .i64 m2),.v (.map g3),.v (.map g4)],207,true⟩]) (.s .z (.s .z (.s (.r ⟨(some [0]),false,[],[]⟩) .z))) Go.Proofs.Tryz.func112 rfl ⟨rfl,trivial⟩ ⟨⟨trivial,⟨trivial,⟨trivial,⟨trivial,trivial⟩⟩⟩⟩,trivial⟩ hF hS (ad_ (by kernel_rfl) h)
theorem hy_ (k0:Nat) (m1:Int) (m2:Int) (g3:Option Nat) (g4:Option Nat) (m5:Int) (S:SP) (K:KP) (w:World) (hF:Fs S w [⟨k0,#[.int .i64 m1,.int .i64 m2,.map g3,.map g4],207,true⟩] w) (hS:S k0∧True) (h:rn PR (Instr.lookup 60 (.map g4) (Iv m5) true) (λv0 w0=>∃n0 b0,v0=.tuple #[Iv n0,.bool b0]∧(b0=true→Fs S w [⟨k0,#[Iv m1,Iv m2,.map g3,.map g4],207,true⟩] w0∧K (.tuple #[Iv n0,.bool true]) w0)∧(b0=false→Fs S w [⟨k0,#[Iv m1,Iv m2,.map g3,.map g4],207,true⟩] w0∧K (.tuple #[Iv n0,.bool false]) w0)) w):aa_ PR 115 ⟨[.pointer (some ⟨k0,0,none⟩),.int .i64 m5]⟩ w K:=
 ab_ (okf:=⟨okL,[]⟩) ag_ (args:=[.c (.p 0 k0 true 0),.c (.v (.int .i64 m5))]) (H:=[⟨k0,.l [.v (.int .i64 m1),.v (.int .i64 m2),.v (.map g3),.v (.map g4)],207,true⟩]) (.s .z (.s .z (.s (.r ⟨(some [0]),false,[],[]⟩) .z))) Go.Proofs.Tryz.func115 rfl ⟨rfl,trivial,trivial⟩ ⟨⟨trivial,⟨trivial,⟨trivial,⟨trivial,trivial⟩⟩⟩⟩,trivial⟩ hF hS (ad_ (by kernel_rfl) h)
theorem hx_ (m0:Int) (S:SP) (K:KP) (w:World) (h:K (Iv (if (1125899906842624:Int)<(if (0:Int)>m0 then 0 else m0) then 1125899906842624 else (if (0:Int)>m0 then 0 else m0))) w):aa_ PR 113 ⟨[.int .i64 m0]⟩ w K:=
 ab_ (okf:=⟨okL,[]⟩) ag_ (args:=[.c (.v (.int .i64 m0))]) (H:=[]) .z Go.Proofs.Tryz.func113 rfl ⟨trivial,trivial⟩ trivial (Fr.init S w) trivial (ad_ (by kernel_rfl) h)
theorem iU_ (k0:Nat) (m1:Int) (m2:Int) (g3:Option Nat) (g4:Option Nat) (m5:Int) (S:SP) (K:KP) (w:World) (hF:Fs S w [⟨k0,#[.int .i64 m1,.int .i64 m2,.map g3,.map g4],207,true⟩] w) (hS:S k0∧True) (h:∀w0,Fr S w w [] [⟨k0,#[Iv m1,Iv m2,.map g3,.map g4],207,true⟩] w0→let B0:Blk:=⟨k0,#[Iv m1,Iv m2,.map g3,.map g4],207,true⟩;rn PR (Builtin.len_ #[60] 3 #[.map g4]) (λv0 w1=>∃n0,v0=Iv n0∧Fs S w [B0] w1∧(n0≥m1→K (.tuple #[Iv 0,.bool false]) w1)∧(¬(n0≥m1)→aa_ PR 59 #[.pointer (some (⟨k0,0,none⟩))] w1 λv1 w2=>∃q0 l0 l1,v1=.slice q0 l0 l1∧Fs S w [B0] w2∧∃I0:Int→Nat→World→Prop,(∃l2,I0 0 l2 w2)∧∀n1,∀D0:Nat→Value,∀l3 w3,I0 n1 l3 w3→Fs S w [B0] w3→(n1<(l0:Int)→Dr q0 λa0=>(0:Int)≤n1∧n1<(l0:Int)∧Dr (some (Addr.add a0 (Int.toNat n1*1))) λa1=>∃n2,World.cell? w3 a1=some (Iv n2)∧rn PR (Instr.lookup 60 (.map g4) (Iv n2) true) (λv2 w4=>∃n3 b0,v2=.tuple #[Iv n3,.bool b0]∧(b0=true→Fs S w [B0] w4∧∃l4,l4<l3∧I0 (IntKind.wrap .i64 (n1+1)) l4 w4)∧(b0=false→Fs S w [B0] w4∧∀w5,Fr S w w4 [] [B0] w5→aa_ PR 113 #[Iv m5] w5 λv3 w6=>∃n4,v3=Iv n4∧Fs S w [B0] w6∧rn PR (Instr.mapUpdate 60 (.map g4) (Iv n2) (Iv (IntKind.wrap .i64 (n4+m2)))) (λx0 w7=>Fs S w [B0] w7∧K (.tuple #[Iv n2,.bool true]) w7) w6)) w3)∧(¬(n1<(l0:Int))→K (.tuple #[Iv 0,.bool false]) w3))) w0):aa_ PR 56 ⟨[.pointer (some ⟨k0,0,none⟩),.int .i64 m5]⟩ w K:=
 ab_ (okf:=⟨okL,[]⟩) ag_ (args:=[.c (.p 0 k0 true 0),.c (.v (.int .i64 m5))]) (H:=[⟨k0,.l [.v (.int .i64 m1),.v (.int .i64 m2),.v (.map g3),.v (.map g4)],207,true⟩]) (.s .z (.s (.s (.r ⟨(some [0]),false,[],[]⟩) .z) (.s (.s (.r ⟨(some [0]),false,[],[]⟩) (.b (.l (some [0]) (some [0]) [(28,.c (.int .i64))] [] (.s .z (.s .z (.s (.b (.s .z (.s (.r ⟨(some [0]),false,[],[]⟩) (.s .z (.c (.s (.r ⟨(some [0]),false,[],[]⟩) .z) .z))))) .z)))))) .z))) Go.Proofs.Tryz.func56 rfl ⟨rfl,trivial,trivial⟩ ⟨⟨trivial,⟨trivial,⟨trivial,⟨trivial,trivial⟩⟩⟩⟩,trivial⟩ hF hS (ad_ (by kernel_rfl) h)
theorem jR_ (k0:Nat) (m1:Int) (m2:Int) (g3:Option Nat) (g4:Option Nat) (m5:Int) (S:SP) (K:KP) (w:World) (hF:Fs S w [⟨k0,#[.int .i64 m1,.int .i64 m2,.map g3,.map g4],207,true⟩] w) (hS:S k0∧True) (h:rn PR (Instr.lookup 37 (.map g3) (Iv m5) false) (λv0 w0=>∃b0,v0=.bool b0∧(b0=true→Fs S w [⟨k0,#[Iv m1,Iv m2,.map g3,.map g4],207,true⟩] w0∧rn PR (Builtin.delete_ #[37,3] 0 #[.map g3,Iv m5]) (λv1 w1=>v1=.tuple #[]∧Fs S w [⟨k0,#[Iv m1,Iv m2,.map g3,.map g4],207,true⟩] w1∧rn PR (Builtin.delete_ #[60,3] 0 #[.map g4,Iv m5]) (λv2 w2=>v2=.tuple #[]∧Fs S w [⟨k0,#[Iv m1,Iv m2,.map g3,.map g4],207,true⟩] w2∧K (.bool true) w2) w1) w0)∧(b0=false→Fs S w [⟨k0,#[Iv m1,Iv m2,.map g3,.map g4],207,true⟩] w0∧K (.bool false) w0)) w):aa_ PR 60 ⟨[.pointer (some ⟨k0,0,none⟩),.int .i64 m5]⟩ w K:=
 ab_ (okf:=⟨okL,[]⟩) ag_ (args:=[.c (.p 0 k0 true 0),.c (.v (.int .i64 m5))]) (H:=[⟨k0,.l [.v (.int .i64 m1),.v (.int .i64 m2),.v (.map g3),.v (.map g4)],207,true⟩]) (.s .z (.s (.s (.r ⟨(some [0]),false,[],[]⟩) .z) (.s (.r ⟨(some [0]),false,[],[]⟩) (.s (.r ⟨(some [0]),false,[],[]⟩) .z)))) Go.Proofs.Tryz.func60 rfl ⟨rfl,trivial,trivial⟩ ⟨⟨trivial,⟨trivial,⟨trivial,⟨trivial,trivial⟩⟩⟩⟩,trivial⟩ hF hS (ad_ (by kernel_rfl) h)
theorem iT_ (k0:Nat) (m1:Int) (m2:Int) (g3:Option Nat) (g4:Option Nat) (m5:Int) (S:SP) (K:KP) (w:World) (hF:Fs S w [⟨k0,#[.int .i64 m1,.int .i64 m2,.map g3,.map g4],207,true⟩] w) (hS:S k0∧True) (h:aa_ PR 112 #[.pointer (some (⟨k0,0,none⟩))] w λv0 w0=>∃q0 l0 l1,v0=.slice q0 l0 l1∧Fs S w [⟨k0,#[Iv m1,Iv m2,.map g3,.map g4],207,true⟩] w0∧let B0:Blk:=⟨k0,#[Iv m1,Iv m2,.map g3,.map g4],207,true⟩;∃I0:(Option Addr)→Nat→Nat→Int→Nat→World→Prop,(∃l2,I0 none 0 0 0 l2 w0)∧∀q1 l3 l4 n0,∀D0:Nat→Value,∀l5 w1,I0 q1 l3 l4 n0 l5 w1→Fs S w [B0] w1→(n0<(l0:Int)→Dr q0 λa0=>(0:Int)≤n0∧n0<(l0:Int)∧Dr (some (Addr.add a0 (Int.toNat n0*1))) λa1=>∃n1,World.cell? w1 a1=some (Iv n1)∧(∀w2,Fr S w w1 [] [B0] w2→rn PR (Instr.lookup 60 (.map g4) (Iv n1) false) (λv1 w3=>∃n2,v1=Iv n2∧Fs S w [B0] w3∧aa_ PR 113 #[Iv m5] w3 λv2 w4=>∃n3,v2=Iv n3∧Fs S w [B0] w4∧(n2≤n3→∀l6,w4.heap.size≤l6→∀w5,Fr S w w4 [] [B0,⟨l6,#[Iv n1],3,true⟩] w5→rn PR (Builtin.append_ #[52,52] 52 #[.slice q1 l3 l4,.slice (some (⟨l6,0,none⟩)) 1 1]) (λv3 w6=>∃q2 l7 l8,v3=.slice q2 l7 l8∧Fs S w [B0,⟨l6,#[Iv n1],3,true⟩] w6∧rn PR (Builtin.delete_ #[60,3] 0 #[.map g4,Iv n1]) (λv4 w7=>v4=.tuple #[]∧Fs S w [B0] w7∧∃l9,l9<l5∧I0 q2 l7 l8 (IntKind.wrap .i64 (n0+1)) l9 w7) w6) w5)∧(¬(n2≤n3)→∃l10,l10<l5∧I0 q1 l3 l4 (IntKind.wrap .i64 (n0+1)) l10 w4)) w2)∧∀w8,Fr S w w1 [] [B0] w8→aa_ PR 113 #[Iv m5] w8 λv5 w9=>∃n4,v5=Iv n4∧Fs S w [B0] w9∧rn PR (Instr.lookup 60 (.map g4) (Iv n1) false) (λv6 w10=>∃n5,v6=Iv n5∧Fs S w [B0] w10∧(n5≤n4→∀l11,w10.heap.size≤l11→∀w11,Fr S w w10 [] [B0,⟨l11,#[Iv n1],3,true⟩] w11→rn PR (Builtin.append_ #[52,52] 52 #[.slice q1 l3 l4,.slice (some (⟨l11,0,none⟩)) 1 1]) (λv7 w12=>∃q3 l12 l13,v7=.slice q3 l12 l13∧Fs S w [B0,⟨l11,#[Iv n1],3,true⟩] w12∧rn PR (Builtin.delete_ #[60,3] 0 #[.map g4,Iv n1]) (λv8 w13=>v8=.tuple #[]∧Fs S w [B0] w13∧∃l14,l14<l5∧I0 q3 l12 l13 (IntKind.wrap .i64 (n0+1)) l14 w13) w12) w11)∧(¬(n5≤n4)→∃l15,l15<l5∧I0 q1 l3 l4 (IntKind.wrap .i64 (n0+1)) l15 w10)) w9)∧(¬(n0<(l0:Int))→K (.slice q1 l3 l4) w1)):aa_ PR 55 ⟨[.pointer (some ⟨k0,0,none⟩),.int .i64 m5]⟩ w K:=
 ab_ (okf:=⟨okL,[]⟩) ag_ (args:=[.c (.p 0 k0 true 0),.c (.v (.int .i64 m5))]) (H:=[⟨k0,.l [.v (.int .i64 m1),.v (.int .i64 m2),.v (.map g3),.v (.map g4)],207,true⟩]) (.s .z (.s .z (.s (.s (.r ⟨(some [0]),false,[],[]⟩) (.b (.l (some [0]) (some [0]) [(5,.c (.sl)),(11,.c (.int .i64))] [] (.s .z (.s .z (.s (.b (.s .z (.s (.r ⟨(some [0]),false,[],[]⟩) (.c (.s (.r ⟨(some [0]),false,[],[]⟩) (.r ⟨(some [0]),false,[],[]⟩)) .z)))) .z)))))) .z))) Go.Proofs.Tryz.func55 rfl ⟨rfl,trivial,trivial⟩ ⟨⟨trivial,⟨trivial,⟨trivial,⟨trivial,trivial⟩⟩⟩⟩,trivial⟩ hF hS (ad_ (by kernel_rfl) h)
end Go.Vc
namespace Go.Vc
open Go Go.MapKept
theorem bu_:PR.underlying T.cK_=some (.map T.int T.int):=by kernel_rfl
theorem cW_:∀w:World,(zeroValue T.int).run PR w=.ok (.int .i64 0) w:=λw=>by
 obtain ⟨i,hi,hk,hb,hz⟩:=qL_
 simp [zeroValue,typeInfo,hi,hz]
theorem aA_.del {ty:TypeId} {w:World} {r:Nat} {X:Int→Prop} (h:aA_ w r X) {m:Int} (hm:aM_ m) {K:Value→World→Prop} (hK:∀w',aA_ w' r (λn=>X n∧n≠m)→Chg (· = r) w w'→w'.heap.size=w.heap.size→K (.tuple #[]) w'):rn PR (Builtin.delete_ #[T.ce_,T.int] ty #[.map (some r),.int .i64 m]) K w:=by
 obtain ⟨l,h1,h2,h3⟩:=h
 refine b3_ jp_ h1 hm λw' hm' g hs=>hK w' ⟨_,hm',λp hp=>h2 p (cq_.1 hp).1,λn=>?_⟩ g hs
 constructor
 ·rintro ⟨p,hp,rfl⟩
  have:=cq_.1 hp
  exact ⟨(h3 _).1 ⟨p,this.1,rfl⟩,this.2⟩
 ·rintro ⟨hx,hn⟩
  obtain ⟨p,hp,rfl⟩:=(h3 n).2 hx
  exact ⟨p,cq_.2 ⟨hp,hn⟩,rfl⟩
theorem aA_.len {w:World} {r M:Nat} {X:Int→Prop} (h:aA_ w r X) (hX:∀i,X i→0≤i∧i<M):∃l,MapI w r l∧l.length≤M∧∀n,n∈l.map (·.1)↔X n:=by
 obtain ⟨l,h1,h2,h3⟩:=h
 have hm:∀n,n∈l.map (·.1)↔X n:=λn=>by
  rw [List.mem_map];exact h3 n
 refine ⟨l,h1,?_,hm⟩
 have:=bJ_ (l.map (·.1)) ((List.range M).map λn:Nat=>(n:Int)) h1.nd λx hx=>by
  have:=hX x ((hm x).1 hx)
  exact List.mem_map.2 ⟨x.toNat,List.mem_range.2 (by omega),by omega⟩
 simpa using this
structure WS where
 b:Nat
 mi:Nat
 ak:Nat
 win:Int
 tmo:Int
 miss:Int→Prop
 askd:List (Int × Int)
def aI (l:List (Int × Int)):List (Int × Value):=l.map λp=>(p.1,.int .i64 p.2)
def wC (s:WS):Array Value:=#[.int .i64 s.win,.int .i64 s.tmo,.map (some s.mi),.map (some s.ak)]
structure WAt (w:World) (s:WS):Prop where
 blk:w.heap[s.b]? = some (.cells (wC s) T.bG_ (0,0))
 mm:aA_ w s.mi s.miss
 am:MapI w s.ak (aI s.askd)
 ne:s.mi≠s.ak
 sm:∀i,s.miss i→0≤i∧i<4096
 sub:∀p∈s.askd,s.miss p.1
 win:1≤s.win∧s.win≤64
 tmo:1≤s.tmo∧s.tmo≤1000
def wS (s:WS):Nat→Prop:=λk=>k=s.b∨k=s.mi∨k=s.ak
theorem WAt.keep {S:Nat→Prop} {w w':World} {s:WS} (h:WAt w s) (g:Chg S w w') (hn:∀k,wS s k→¬S k):WAt w' s:=
 ⟨g.get h.blk (hn _ (.inl rfl)),h.mm.keep g (hn _ (.inr (.inl rfl))),h.am.keep g (hn _ (.inr (.inr rfl))),h.ne,h.sm,h.sub,h.win,h.tmo⟩
theorem WAt.grow {w w':World} {s:WS} (h:WAt w s) (g:Grow w w'):WAt w' s:=h.keep g λ_ _ e=>e
theorem WAt.lt {w:World} {s:WS} (h:WAt w s):∀k,wS s k→k<w.heap.size:=by
 rintro k (rfl | rfl | rfl)
 ·exact aj_ h.blk
 ·exact h.mm.lt
 ·exact h.am.lt
theorem WAt.fs {w:World} {s:WS} (h:WAt w s):Fs (wS s) w [⟨s.b,wC s,T.bG_,true⟩] w:=(Fr.init _ w).entry h.blk (λx h=>by cases h) λ_=>.inl rfl
theorem WAt.bm {w:World} {s:WS} (h:WAt w s):s.b≠s.mi:=h.mm.ne h.blk
theorem WAt.ba {w:World} {s:WS} (h:WAt w s):s.b≠s.ak:=h.am.ne h.blk
theorem WAt.few {w:World} {s:WS} (h:WAt w s):s.askd.length≤4096:=by
 have h1:=bJ_ ((aI s.askd).map (·.1)) ((List.range 4096).map λn:Nat=>(n:Int)) h.am.nd λx hx=>by
  obtain ⟨p,hp,rfl⟩:=List.mem_map.1 hx
  obtain ⟨q,hq,rfl⟩:=List.mem_map.1 hp
  have:=h.sm _ (h.sub q hq)
  exact List.mem_map.2 ⟨q.1.toNat,List.mem_range.2 (by omega),by show ((q.1.toNat:Nat):Int)=q.1;omega⟩
 simpa [aI] using h1
theorem fx_ {w:World} {s:WS} (h:WAt w s) {y:Option Addr} {c:Nat} {xs:List Int} (hs:Sl w y (xs.map iv)) (hyo:∀a,y=some a→a.block≠s.mi) (hx:∀x∈xs,0≤x∧x<4096) (hl:xs.length≤1000000) {K:Value→World→Prop}
  (hK:∀w',WAt w' { s with miss:=λi=>s.miss i∨i∈xs }→Chg (· = s.mi) w w'→K (.tuple #[]) w'):aa_ PR F.h1_ ⟨[.pointer (some ⟨s.b,0,none⟩),.slice y xs.length c]⟩ w K:=by
 refine qC_ s.b s.win s.tmo (some s.mi) (some s.ak) y xs.length c (wS s) K w h.fs ⟨.inl rfl,trivial⟩ ?_
 refine ⟨λn lv w'=>∃k:Nat,n=k∧k≤xs.length∧lv=xs.length - k∧WAt w' { s with miss:=λi=>s.miss i∨i∈xs.take k }∧Chg (· = s.mi) w w',⟨_,0,rfl,by omega,rfl,⟨h.blk,h.mm.cong λn=>by simp,h.am,h.ne,λi hi=>h.sm i (by simpa using hi),λp hp=>.inl (h.sub p hp),h.win,h.tmo⟩,.refl _ _⟩,?_⟩
 rintro n D lv w1 ⟨k,rfl,hk,rfl,h1,c1⟩ hF1
 refine ⟨λhlt=>?_,λhge=>?_⟩
 ·have hk':k<xs.length:=by omega
  have hs1:Sl w1 y (xs.map iv):=hs.keep c1 λa ha e=>hyo a ha e
  have hxk:=hx _ (List.getElem_mem hk')
  refine hs1.rd (v:=iv xs[k]) (by simp) (by omega) (by simp [hk']) λa ha=>⟨_,ha,λh0=>⟨λhle=>?_,λhc=>by omega⟩,λhc=>by omega⟩
  refine h1.mm.put ⟨by omega,by omega⟩ λw2 m2 c2 s2=>⟨hF1.step c2 (λz hz e=>by simp at hz;subst hz;exact h.bm e) (λj hj e=>.inr (.inl e)),xs.length - (k+1),by omega,k+1,wr1 (by omega),by omega,rfl,?_,c1.trans c2 λ_ _ e=>e⟩
  have hcg:∀n,((s.miss n∨n∈xs.take k)∨n=xs[k])↔(s.miss n∨n∈xs.take (k+1)):=λn=>by
   rw [ar_ hk',List.mem_append,List.mem_singleton,or_assoc]
  exact ⟨c2.get h1.blk (λe=>h.bm e),m2.cong hcg,h1.am.keep c2 (λe=>h.ne e.symm),h.ne,λi hi=>((hcg i).2 hi).elim (h1.sm i) λe=>by subst e;omega,λp hp=>.inl (h.sub p hp),h.win,h.tmo⟩
 ·have e:k=xs.length:=by omega
  subst e
  rw [List.take_of_length_le (Nat.le_refl _)] at h1
  exact hK w1 h1 c1
theorem cn_ {w:World} {s:WS} (h:WAt w s) {K:Value→World→Prop} (hK:∀w' q c (L:List Int),Grow w w'→Sl w' q (L.map Iv)→(∀i,i∈L↔s.miss i)→L.Pairwise (· < ·)→L.length≤4096→K (.slice q L.length c) w'):aa_ PR F.e7_ ⟨[.pointer (some ⟨s.b,0,none⟩)]⟩ w K:=by
 have h0:=h.fs
 obtain ⟨l,hl1,hl2,hl3⟩:=h.mm.len (M:=4096) h.sm
 refine kU_ s.b s.win s.tmo (some s.mi) (some s.ak) (wS s) K w h0 ⟨.inl rfl,trivial⟩ ?_
 refine og_ λw1 b g1 hb hc=>⟨_,rfl,h0.after g1,?_⟩
 refine lL_ hc hb (hl1.grow g1) (by omega) λw2 q c L g2 hl hs hm hp=>?_
 refine ⟨_,_,_,rfl,(h0.after g1).after g2,?_⟩
 rw [← hl]
 exact hK w2 q c L (g1.trans g2) hs (λi=>(hm i).trans (hl3 i)) hp (by omega)
theorem lX_ {w:World} {s:WS} (h:WAt w s) {K:Value→World→Prop} (hK:∀w' q c (L:List Int),Grow w w'→Sl w' q (L.map Iv)→(∀i,i∈L↔∃p∈s.askd,p.1=i)→L.Pairwise (· < ·)→L.length=s.askd.length→K (.slice q L.length c) w'):aa_ PR F.gl_ ⟨[.pointer (some ⟨s.b,0,none⟩)]⟩ w K:=by
 have h0:=h.fs
 have few:=h.few
 refine hz_ s.b s.win s.tmo (some s.mi) (some s.ak) (wS s) K w h0 ⟨.inl rfl,trivial⟩ ?_
 refine oe_ λw1 b g1 hb hc=>⟨_,rfl,h0.after g1,?_⟩
 refine lJ_ hc hb (h.am.grow g1) (by rw [aI,List.length_map];omega) λw2 q c L g2 hl hs hm hp=>?_
 refine ⟨_,_,_,rfl,(h0.after g1).after g2,?_⟩
 rw [← hl]
 refine hK w2 q c L (g1.trans g2) hs (λi=>(hm i).trans ?_) hp (by rw [hl,aI,List.length_map])
 rw [aI,List.map_map,List.mem_map]
 exact Iff.rfl
theorem ik_ {n:Int} (hn:0≤n∧n≤1125899906842624) {w:World} {K:Value→World→Prop} (hK:K (.int .i64 n) w):aa_ PR F.hx_ ⟨[.int .i64 n]⟩ w K:=by
 refine hx_ n S0 K w ?_
 rw [if_neg (by omega:¬(0:Int)>n),if_neg (by omega)]
 exact hK
theorem qh_ {s:WS} {w:World} (h:WAt w s) {i:Int} {x:Value} (hx:(i,x)∈aI s.askd):∃t,(i,t)∈s.askd∧x=.int .i64 t:=by
 obtain ⟨p,hp,e⟩:=List.mem_map.1 hx
 have e1:p.1=i:=congrArg Prod.fst e
 exact ⟨p.2,by rw [← e1];exact hp,(congrArg Prod.snd e).symm⟩
theorem n7_ {w:World} {s:WS} (h:WAt w s) {i:Int} (hi:aM_ i) {K:Value→World→Prop} (h1:∀t,(i,t)∈s.askd→K (.tuple #[.int .i64 t,.bool true]) w) (h2:(∀p∈s.askd,p.1≠i)→K (.tuple #[.int .i64 0,.bool false]) w):aa_ PR F.gk_ ⟨[.pointer (some ⟨s.b,0,none⟩),.int .i64 i]⟩ w K:=by
 refine hy_ s.b s.win s.tmo (some s.mi) (some s.ak) i (wS s) K w h.fs ⟨.inl rfl,trivial⟩ ?_
 refine aJ_ bu_ h.am hi true cW_ (λx hx=>?_) λhno=>⟨_,false,rfl,(λh=>by cases h),λ_=>⟨h.fs,h2 λp hp e=>hno _ (List.mem_map.2 ⟨p,hp,rfl⟩) e⟩⟩
 obtain ⟨t,ht,rfl⟩:=qh_ h hx
 exact ⟨_,true,rfl,(λ_=>⟨h.fs,h1 t ht⟩),λh=>by cases h⟩
theorem kR_ {w:World} {s:WS} (h:WAt w s) {i:Int} (hi:aM_ i) {K:Value→World→Prop} (h1:∀w',s.miss i→WAt w' { s with miss:=λn=>s.miss n∧n≠i,askd:=s.askd.filter λp=>p.1 != i }→Chg (wS s) w w'→K (.bool true) w') (h2:¬s.miss i→K (.bool false) w):aa_ PR F.h0_ ⟨[.pointer (some ⟨s.b,0,none⟩),.int .i64 i]⟩ w K:=by
 refine jR_ s.b s.win s.tmo (some s.mi) (some s.ak) i (wS s) K w h.fs ⟨.inl rfl,trivial⟩ ?_
 refine h.mm.look hi (λhx=>⟨true,rfl,(λ_=>⟨h.fs,?_⟩),λh=>by cases h⟩) λhx=>⟨false,rfl,(λh=>by cases h),λ_=>⟨h.fs,h2 hx⟩⟩
 refine h.mm.del hi λw1 m1 c1 s1=>?_
 have hF1:=h.fs.step c1 (λz hz e=>by simp at hz;subst hz;exact h.bm e) (λk hk e=>.inr (.inl e))
 refine ⟨rfl,hF1,b3_ bu_ (h.am.keep c1 λe=>h.ne e.symm) hi λw2 a2 c2 s2=>?_⟩
 have hF2:=hF1.step c2 (λz hz e=>by simp at hz;subst hz;exact h.ba e) (λk hk e=>.inr (.inr e))
 refine ⟨rfl,hF2,h1 w2 hx ⟨hF2.blk 0 rfl,m1.keep c2 (λe=>h.ne e),?_,h.ne,λn hn=>h.sm n hn.1,λp hp=>?_,h.win,h.tmo⟩ ((c1.mono λk _ e=>.inr (.inl e)).trans c2 λk _ e=>.inr (.inr e))⟩
 ·have e:delI (aI s.askd) i=aI (s.askd.filter λp=>p.1 != i):=by
   unfold delI aI;rw [List.filter_map];rfl
  rw [e] at a2;exact a2
 ·have:=List.mem_filter.1 hp
  exact ⟨h.sub p this.1,by simpa using this.2⟩
end Go.Vc
namespace Go.Vc
open Go Go.MapKept
theorem oy_ {win tmo:Int} (hw:1≤win∧win≤64) (ht:1≤tmo∧tmo≤1000) {w:World} {K:Value→World→Prop}
  (hK:∀w' b mi ak,WAt w' ⟨b,mi,ak,win,tmo,λ_=>False,[]⟩→Grow w w'→w.heap.size≤b→w.heap.size≤mi→w.heap.size≤ak→K (.tuple #[.pointer (some ⟨b,0,none⟩),.nilIface]) w'):aa_ PR F.jS_ ⟨[.int .i64 win,.int .i64 tmo,.slice none 0 0]⟩ w K:=by
 refine jS_ win tmo none 0 0 S0 K w ⟨λh=>by omega,λ_=>⟨λh=>by omega,λ_=>⟨λh=>by omega,λ_=>⟨λh=>by omega,λ_=>?_⟩⟩⟩⟩
 have hF0:Fs S0 w [] w:=.init _ w
 refine aQ_ λw0 mi hmi hm0 g0=>⟨_,rfl,hF0.after g0,aQ_ λw1 ak hak hm1 g1=>⟨_,rfl,(hF0.after g0).after g1,λb hb w2 hF2=>?_⟩⟩
 have l0:=hm0.lt
 have l1:=hm1.lt
 have s0:=g0.size
 have s1:=g1.size
 have g2:=hF2.grow
 have H:WAt w2 ⟨b,mi,ak,win,tmo,λ_=>False,[]⟩:=⟨hF2.blk 0 rfl,⟨[],(hm0.grow g1).grow g2,(λp hp=>by cases hp),λn=>⟨(λ⟨p,hp,_⟩=>by cases hp),λh=>h.elim⟩⟩,hm1.grow g2,by show mi≠ak;omega,(λi h=>h.elim),(λp hp=>by cases hp),hw,ht⟩
 refine fx_ (xs:=[]) H (.nil _ _) (λa ha=>by cases ha) (λx hx=>by cases hx) (Nat.zero_le _) λw3 H3 c3=>?_
 have hF3:=hF2.reset.step c3 (λz hz e=>by simp at hz;subst hz;have e':b=mi:=e;omega) λk hk e=>by have e':k=mi:=e;omega
 refine ⟨rfl,_,_,_,_,hF3,hK w3 b mi ak ⟨H3.blk,H3.mm.cong λn=>by simp,H3.am,H3.ne,(λi h=>h.elim),(λp hp=>by cases hp),hw,ht⟩ hF3.gr (by omega) (by omega) (by omega)⟩
theorem jW_ {L:List Int} (h:L.Pairwise (· < ·)) {k:Nat} (hk:k<L.length) {j:Int} (hj:j∈L) (hlt:j<L[k]):j∈L.take k:=by
 obtain ⟨m,hm,rfl⟩:=List.getElem_of_mem hj
 rcases Nat.lt_trichotomy m k with h1 | h1 | h1
 ·exact List.mem_take_iff_getElem.2 ⟨m,by omega,rfl⟩
 ·subst h1;omega
 ·have:=List.pairwise_iff_getElem.1 h k m hk hm h1
  omega
theorem bT_ {L:List Int} (h:L.Pairwise (· < ·)) {k:Nat} (hk:k<L.length):L[k]∉L.take k:=λhm=>by
 obtain ⟨m,hm1,hm2⟩:=List.mem_take_iff_getElem.1 hm
 have hmk:m<k:=by omega
 have:=List.pairwise_iff_getElem.1 h m k (by omega) hk hmk
 omega
theorem nz_ {w:World} {s:WS} (h:WAt w s) {now:Int} (hn:0≤now∧now≤1000000000) {K:Value→World→Prop}
  (h1:∀w',Grow w w'→((s.askd.length:Int)≥s.win∨∀i,s.miss i→∃p∈s.askd,p.1=i)→K (.tuple #[.int .i64 0,.bool false]) w')
  (h2:∀w' i,(s.askd.length:Int)<s.win→s.miss i→(∀p∈s.askd,p.1≠i)→(∀j,s.miss j→j<i→∃p∈s.askd,p.1=j)→WAt w' { s with askd:=s.askd++[(i,now+s.tmo)] }→Chg (· = s.ak) w w'→K (.tuple #[.int .i64 i,.bool true]) w'):aa_ PR F.g1_ ⟨[.pointer (some ⟨s.b,0,none⟩),.int .i64 now]⟩ w K:=by
 have h0:Fs (λk=>k=s.b∨k=s.ak) w [⟨s.b,wC s,T.bG_,true⟩] w:=(Fr.init _ w).entry h.blk (λx h=>by cases h) λ_=>.inl rfl
 refine iU_ s.b s.win s.tmo (some s.mi) (some s.ak) now (λk=>k=s.b∨k=s.ak) K w h0 ⟨.inl rfl,trivial⟩ λw0 hF0=>?_
 have g0:Grow w w0:=hF0.grow
 have hlen:(aI s.askd).length=s.askd.length:=List.length_map _
 have htm:=h.tmo
 refine fi_ bu_ (h.am.grow g0) ⟨_,rfl,hF0.reset,λhge=>h1 w0 g0 (.inl (by rw [hlen] at hge;exact hge)),λhlt=>?_⟩
 rw [hlen] at hlt
 refine cn_ (h.grow g0) λw2 q c L g2 hs hm hp hl=>⟨_,_,_,rfl,hF0.reset.after g2,?_⟩
 have g02:=g0.trans g2
 refine ⟨λn lv w'=>∃k:Nat,n=k∧k≤L.length∧lv=L.length - k∧(∀j∈L.take k,∃p∈s.askd,p.1=j)∧Grow w2 w',⟨_,0,rfl,by omega,rfl,(λj hj=>by simp at hj),.refl _ _⟩,?_⟩
 rintro n D lv w3 ⟨k,rfl,hk,rfl,hall,g3⟩ hF3
 have g03:=g02.trans g3
 have h3:=h.grow g03
 refine ⟨λhlt3=>?_,λhge=>h1 w3 g03 (.inr λi hi=>hall i ?_)⟩
 ·have hk':k<L.length:=by omega
  have hmk:=(hm _).1 (List.getElem_mem hk')
  have hbd:=h.sm _ hmk
  have hfit:aM_ L[k]:=⟨by omega,by omega⟩
  refine (hs.grow g3).rd (v:=Iv L[k]) (by simp) (by omega) (by simp [hk']) λa ha=>⟨_,ha,?_⟩
  refine aJ_ bu_ h3.am hfit true cW_ (λx hx=>?_) λhno=>⟨_,false,rfl,(λh=>by cases h),λ_=>⟨hF3,λw5 hF5=>?_⟩⟩
  ·obtain ⟨t,ht,rfl⟩:=qh_ h3 hx
   refine ⟨_,true,rfl,(λ_=>⟨hF3,L.length - (k+1),by omega,k+1,wr1 (by omega),by omega,rfl,λj hj=>?_,g3⟩),λh=>by cases h⟩
   rw [ar_ hk'] at hj
   rcases List.mem_append.1 hj with hj | hj
   ·exact hall j hj
   ·simp at hj;subst hj;exact ⟨_,ht,rfl⟩
  ·have g5:Grow w3 w5:=hF5.grow
   refine ik_ ⟨hn.1,by omega⟩ ⟨_,rfl,hF5.reset,?_⟩
   rw [w64 (by omega) (by omega)]
   have hno':∀p∈s.askd,p.1≠L[k]:=λp hp e=>hno _ (List.mem_map.2 ⟨p,hp,rfl⟩) e
   refine bR_ bu_ (h3.am.grow g5) hfit λw7 a7 c7 s7=>?_
   rw [fH_ λp hp=>hno p hp] at a7
   have hF7:=hF5.step c7 (λz hz e=>by simp at hz;subst hz;exact h.ba e) (λj hj e=>.inr e)
   have c07:Chg (· = s.ak) w w7:=(g03.trans g5).chg.trans c7 λ_ _ e=>e
   refine ⟨hF7,h2 w7 L[k] (by omega) hmk hno' (λj hj hlt=>hall j (jW_ hp hk' ((hm j).2 hj) hlt)) ⟨c07.get h.blk (λe=>h.ba e),h.mm.keep c07 (λe=>h.ne e),?_,h.ne,h.sm,λp hp=>?_,h.win,h.tmo⟩ c07⟩
   ·have e:aI s.askd++[(L[k],Value.int .i64 (now+s.tmo))]=aI (s.askd++[(L[k],now+s.tmo)]):=by simp [aI]
    rw [← e];exact a7
   ·rcases List.mem_append.1 hp with hp | hp
    ·exact h.sub p hp
    ·simp at hp;subst hp;exact hmk
 ·have:k=L.length:=by omega
  subst this
  rw [List.take_of_length_le (Nat.le_refl _)]
  exact (hm i).2 hi
theorem ny_ {w:World} {s:WS} (h:WAt w s) {now:Int} (hn:0≤now∧now≤1000000000) {K:Value→World→Prop}
  (hK:∀w' q l c,WAt w' { s with askd:=s.askd.filter λp=>decide (now<p.2) }→Chg (· = s.ak) w w'→K (.slice q l c) w'):aa_ PR F.g0_ ⟨[.pointer (some ⟨s.b,0,none⟩),.int .i64 now]⟩ w K:=by
 have h0:Fs (λk=>k=s.b∨k=s.ak) w [⟨s.b,wC s,T.bG_,true⟩] w:=(Fr.init _ w).entry h.blk (λx h=>by cases h) λ_=>.inl rfl
 have hwl:=h.lt
 refine iT_ s.b s.win s.tmo (some s.mi) (some s.ak) now (λk=>k=s.b∨k=s.ak) K w h0 ⟨.inl rfl,trivial⟩ ?_
 have few:=h.few
 refine lX_ h λw0 q0 c0 L g0 hs hm hp hl=>⟨_,_,_,rfl,h0.after g0,?_⟩
 let P (k:Nat):List (Int × Int):=s.askd.filter λp=>decide (now<p.2∨p.1∉L.take k)
 have P0:P 0=s.askd:=by
  show s.askd.filter _=_
  rw [List.filter_eq_self];intro p hp;simp
 have Pend:P L.length=s.askd.filter λp=>decide (now<p.2):=by
  refine List.filter_congr λp hpm=>?_
  rw [List.take_of_length_le (Nat.le_refl _)]
  have:p.1∈L:=(hm _).2 ⟨p,hpm,rfl⟩
  simp [this]
 refine ⟨λq l c n lv w'=>∃(k:Nat) (outs:List Int),n=k∧k≤L.length∧lv=L.length - k∧WAt w' { s with askd:=P k }∧Chg (· = s.ak) w w'∧Own T.int 1 w' q c (outs.map iv)∧l=outs.length∧l≤c∧l≤k∧Off (λx=>x<w0.heap.size) q∧Sl w' q0 (L.map Iv)∧w0.heap.size≤w'.heap.size,⟨_,0,[],rfl,by omega,rfl,by rw [P0];exact h.grow g0,g0.chg,.nil _ _ _,rfl,Nat.le_refl _,Nat.le_refl _,.none _,hs,Nat.le_refl _⟩,?_⟩
 rintro q l c n D lv w1 ⟨k,outs,rfl,hk,rfl,h1,c1,ho,rfl,hlc,hlk,hof,hs1,sz1⟩ hF1
 refine ⟨λhlt=>?_,λhge=>?_⟩
 ·have hk':k<L.length:=by omega
  obtain ⟨p0,hp0,ep0⟩:=(hm _).1 (List.getElem_mem hk')
  have hbd:=h.sm _ (h.sub p0 hp0)
  rw [ep0] at hbd
  have hfit:aM_ L[k]:=⟨by omega,by omega⟩
  have hnb:=bT_ hp hk'
  have huniq:∀p∈s.askd,p.1=L[k]→p=p0:=λp hpm e=>by
   have:=oE_ h.am.nd (List.mem_map.2 ⟨p,hpm,rfl⟩) (List.mem_map.2 ⟨p0,hp0,rfl⟩) (show p.1=p0.1 by rw [e,ep0])
   have e1:p.1=p0.1:=by rw [e,ep0]
   have e2:Value.int .i64 p.2=Value.int .i64 p0.2:=(Prod.mk.inj this).2
   exact Prod.ext e1 (int_inj e2)
  have hin:(L[k],Value.int .i64 p0.2)∈aI (P k):=by
   refine List.mem_map.2 ⟨p0,List.mem_filter.2 ⟨hp0,?_⟩,by rw [← ep0]⟩
   rw [ep0];simp [hnb]
  have key:∀j:Int,j∈L.take (k+1)↔j∈L.take k∨j=L[k]:=λj=>by rw [ar_ hk',List.mem_append,List.mem_singleton]
  have step1:now<p0.2→P (k+1)=P k:=λhlt=>by
   refine List.filter_congr λp hpm=>?_
   simp only [key]
   by_cases e:p.1=L[k]
   ·have:=huniq p hpm e
    subst this
    simp [hlt]
   ·simp [e]
  have step2:¬now<p0.2→delI (aI (P k)) L[k]=aI (P (k+1)):=λhge=>by
   unfold delI aI
   rw [List.filter_map]
   congr 1
   show List.filter _ (List.filter _ _)=_
   rw [List.filter_filter]
   refine List.filter_congr λp hpm=>?_
   show ((p.1 != L[k]) && decide (now<p.2∨p.1∉L.take k))=decide (now<p.2∨p.1∉L.take (k+1))
   simp only [key]
   by_cases e:p.1=L[k]
   ·have:=huniq p hpm e
    subst this
    simp [e,hge]
   ·simp [e]
  have rest:∀w10,Grow w1 w10→Fs (λk=>k=s.b∨k=s.ak) w [⟨s.b,wC s,T.bG_,true⟩] w10→(p0.2≤now→∀l11,w10.heap.size≤l11→∀w11,Fr (λk=>k=s.b∨k=s.ak) w w10 [] [⟨s.b,wC s,T.bG_,true⟩,⟨l11,#[.int .i64 L[k]],T.int,true⟩] w11→rn PR (Builtin.append_ #[T.bq_,T.bq_] T.bq_ #[.slice q outs.length c,.slice (some ⟨l11,0,none⟩) 1 1]) (λv7 w12=>∃q3 l12 l13,v7=.slice q3 l12 l13∧Fs (λk=>k=s.b∨k=s.ak) w [⟨s.b,wC s,T.bG_,true⟩,⟨l11,#[.int .i64 L[k]],T.int,true⟩] w12∧rn PR (Builtin.delete_ #[T.cK_,T.int] 0 #[.map (some s.ak),.int .i64 L[k]]) (λv8 w13=>v8=.tuple #[]∧Fs (λk=>k=s.b∨k=s.ak) w [⟨s.b,wC s,T.bG_,true⟩] w13∧∃l14,l14<L.length - k∧
    ∃(k2:Nat) (outs:List Int),((k+1:Nat):Int)=k2∧k2≤L.length∧l14=L.length - k2∧WAt w13 { s with askd:=P k2 }∧Chg (· = s.ak) w w13∧Own T.int 1 w13 q3 l13 (outs.map iv)∧l12=outs.length∧l12≤l13∧l12≤k2∧Off (λx=>x<w0.heap.size) q3∧Sl w13 q0 (L.map Iv)∧w0.heap.size≤w13.heap.size) w12) w11)∧
    (¬p0.2≤now→∃l15,l15<L.length - k∧∃(k2:Nat) (outs2:List Int),((k+1:Nat):Int)=k2∧k2≤L.length∧l15=L.length - k2∧WAt w10 { s with askd:=P k2 }∧Chg (· = s.ak) w w10∧Own T.int 1 w10 q c (outs2.map iv)∧outs.length=outs2.length∧outs.length≤c∧outs.length≤k2∧Off (λx=>x<w0.heap.size) q∧Sl w10 q0 (L.map Iv)∧w0.heap.size≤w10.heap.size):=by
   intro w10 g10 hF10
   have s10:=g10.size
   refine ⟨λhle l11 hl11 w11 hF11=>?_,λhnle=>⟨L.length - (k+1),by omega,k+1,outs,rfl,by omega,rfl,by rw [step1 (by omega)];exact h1.grow g10,c1.grow g10,ho.grow g10,rfl,hlc,by omega,hof,hs1.grow g10,by omega⟩⟩
   have g11:Grow w1 w11:=g10.trans hF11.grow
   have s11:=g11.size
   refine f2_ (ho.grow g11) rfl hlc (ys:=[L[k]]) (hF11.sl 1 rfl) rfl (by omega) λq3 c3 w12 ho12 hc12 g12 hq12=>?_
   have hqold:∀j,j<w0.heap.size→¬am_ q j:=λj hj ⟨a,ha,e⟩=>hof a ha (by have e':j=a.block:=e;show a.block<w0.heap.size;omega)
   have hsw:w.heap.size≤w0.heap.size:=g0.size
   have hbw:=hwl s.b (.inl rfl)
   have haw:=hwl s.ak (.inr (.inr rfl))
   have hmw:=hwl s.mi (.inr (.inl rfl))
   have hqlt:∀j,am_ q j→j<w1.heap.size:=λj ⟨a,ha,e⟩=>by have:=ho.lt a ha;have e':j=a.block:=e;omega
   have hF12:=hF11.step g12 (λz hz e=>by
    simp only [List.mem_cons,List.not_mem_nil,or_false] at hz
    rcases hz with rfl | rfl
    ·exact hqold _ (by simp only [];omega) e
    ·have:=hqlt _ e;simp only [] at this;omega) λj hj e=>absurd e (hqold j (by omega))
   refine ⟨_,_,_,rfl,hF12,?_⟩
   have h12:WAt w12 { s with askd:=P k }:=(h1.grow g11).keep g12 λj hj e=>by
    rcases hj with rfl | rfl | rfl
    ·exact hqold _ (by show s.b<_;omega) e
    ·exact hqold _ (by show s.mi<_;omega) e
    ·exact hqold _ (by show s.ak<_;omega) e
   have hs12:Sl w12 q0 (L.map Iv):=by
    rcases hs with hs | ⟨b0,o0,e0,hr0⟩
    ·exact .inl hs
    ·have hb0:b0<w0.heap.size:=by
      obtain ⟨cs,T0,fz,hb,_⟩:=hr0
      exact aj_ hb
     refine (hs1.grow g11).keep g12 λa ha e=>?_
     rw [e0] at ha;cases ha
     exact hqold b0 hb0 e
   refine b3_ bu_ h12.am hfit λw13 a13 c13 s13=>⟨rfl,(hF12.sub (L':=[⟨s.b,wC s,T.bG_,true⟩]) ((List.nil_sublist _).cons_cons _)).step c13 (λz hz e=>by simp at hz;subst hz;exact h.ba e) (λj hj e=>.inr e),L.length - (k+1),by omega,k+1,outs++[L[k]],rfl,by omega,rfl,?_,?_,?_,by simp,hc12,by omega,hof.next hq12 (by omega),?_,by have:=g12.size;omega⟩
   ·rw [step2 (by omega)] at a13
    exact ⟨c13.get h12.blk (λe=>h.ba e),h12.mm.keep c13 (λe=>h.ne e),a13,h.ne,h.sm,λp hp=>h.sub p (List.mem_filter.1 hp).1,h.win,h.tmo⟩
   ·exact ((c1.grow g11).trans g12 λj hj e=>absurd e (hqold j (by omega))).trans c13 λ_ _ e=>e
   ·refine ho12.keep c13 λa ha e=>?_
    have e':a.block=s.ak:=e
    rcases hq12 a ha with h' | h'
    ·exact hqold s.ak (by omega) ⟨a,h',e'.symm⟩
    ·subst h';simp only [] at e';omega
   ·refine hs12.keep c13 λa ha e=>?_
    have e':a.block=s.ak:=e
    rcases hs with hs | ⟨b0,o0,e0,cs,T0,fz,hb,_⟩
    ·have:L=[]:=by simpa using hs
     subst this;simp at hk'
    ·rw [e0] at ha;cases ha
     have e2:b0=s.ak:=e'
     subst e2
     exact (h.am.grow g0).ne hb rfl
  refine hs1.rd (v:=Iv L[k]) (by simp) (by omega) (by simp [hk']) λa ha=>⟨_,ha,λw2 hF2=>?_,λw8 hF8=>?_⟩
  ·have g2:Grow w1 w2:=hF2.grow
   refine aJ_ bu_ (h1.grow g2).am hfit false cW_ (λx hx=>?_) λhno=>absurd rfl (hno _ hin)
   have:x=Value.int .i64 p0.2:=congrArg Prod.snd (oE_ h1.am.nd hx hin rfl)
   subst this
   refine ⟨_,rfl,hF2.reset,ik_ ⟨hn.1,by omega⟩ ⟨_,rfl,hF2.reset,?_⟩⟩
   have:=rest w2 g2 hF2.reset
   rw [wr1 (by omega)]
   exact this
  ·have g8:Grow w1 w8:=hF8.grow
   refine ik_ ⟨hn.1,by omega⟩ ⟨_,rfl,hF8.reset,?_⟩
   refine aJ_ bu_ (h1.grow g8).am hfit false cW_ (λx hx=>?_) λhno=>absurd rfl (hno _ hin)
   have:x=Value.int .i64 p0.2:=congrArg Prod.snd (oE_ h1.am.nd hx hin rfl)
   subst this
   refine ⟨_,rfl,hF8.reset,?_⟩
   have:=rest w8 g8 hF8.reset
   rw [wr1 (by omega)]
   exact this
 ·have:k=L.length:=by omega
  subst this
  rw [Pend] at h1
  exact hK w1 _ _ _ h1 c1
end Go.Vc
namespace Go.Vc
open Go Go.RowKit Go.Extern.Stop Go.Stop Go.Extern Go.Proofs
theorem bM_ (w:World):((Extern.ReflectliteType.method λt=>do Extern.Rtype.noPackHeld "Comparable" t;(λa=>Value.bool a.comparable) <$> typeInfo t) #[.agg #[.pointer (some ⟨2,39,none⟩)]]).run Tryz.prog w=.ok (.bool true) w:=by kernel_rfl
theorem a1_ (h:Value) (w:World):(Go.method 478 245 (.agg #[h]) "Comparable").run Tryz.prog w=.ok (270,.agg #[h]) w:=by kernel_rfl
theorem ly_ (w:World):(binOp .eql 32 (.iface 39 (.int .i64 11)) (.iface 39 (.int .i64 11))).run Tryz.prog w=.ok (.bool true) w:=by kernel_rfl
theorem qt_ (w:World):Calls Tryz.prog 44 #[.iface 39 (.int .i64 11),.iface 39 (.int .i64 11)] w λe w'=>e=.returned (.bool true)∧w'=w:=by
 have h8:=@run_callFunc_extern Tryz.prog 94 _ Extern.ReflectliteType.typeOf Tryz.func94 (by kernel_rfl) (by kernel_rfl) (by kernel_rfl) (by kernel_rfl)
 have h32:=@run_callFunc_extern Tryz.prog 270 _ (Extern.ReflectliteType.method λt=>do Extern.Rtype.noPackHeld "Comparable" t;pure (.bool (← typeInfo t).comparable)) Tryz.func270 (by kernel_rfl) (by kernel_rfl) (by kernel_rfl) (by kernel_rfl)
 have tT:=eU_
 have cT:=bM_
 have mR:=a1_
 have hn:=ly_ w
 go_enter Tryz.func44,Tryz.ntmps44
 go_wp2
 refine wp_loop_rounds 1 ?_
 rw [rounds_succ]
 go_wp2
 go_ret
 exact ⟨rfl,rfl⟩
theorem ll_:(Tryz.prog.underlying 247).map (λt=>match t with | .interface ms=>ms.toList.map (·.1) | _=>[])=some ["Is"]:=by kernel_rfl
theorem ml_ (v:Value) (xT:TypeId) (w:World):(Instr.typeAssert (.iface 39 v) xT 247 true).run Tryz.prog w=.ok (.tuple #[.nilIface,.bool false]) w:=by
 obtain ⟨ms,hu⟩:=eG_ ll_ (by simp)
 exact run_typeAssert_lacksB hu (by
  have:(Tryz.prog.info? 39).map (λi=>match Tryz.prog.underlying 247 with | some (.interface want)=>(lacking want i.methods).isEmpty | _=>true)=some false:=by kernel_rfl
  rw [hu] at this;exact this) (by kernel_rfl) v xT w
theorem pp_:(Tryz.prog.underlying 250).map (λt=>match t with | .interface ms=>ms.toList.map (·.1) | _=>[])=some ["Unwrap"]:=by kernel_rfl
theorem mk_ (v:Value) (xT:TypeId) (w:World):(Instr.typeAssert (.iface 39 v) xT 250 true).run Tryz.prog w=.ok (.tuple #[.nilIface,.bool false]) w:=by
 obtain ⟨ms,hu⟩:=eG_ pp_ (by simp)
 exact run_typeAssert_lacksB hu (by
  have:(Tryz.prog.info? 39).map (λi=>match Tryz.prog.underlying 250 with | some (.interface want)=>(lacking want i.methods).isEmpty | _=>true)=some false:=by kernel_rfl
  rw [hu] at this;exact this) (by kernel_rfl) v xT w
theorem nQ_:(Tryz.prog.underlying 251).map (λt=>match t with | .interface ms=>ms.toList.map (·.1) | _=>[])=some ["Unwrap"]:=by kernel_rfl
theorem kd_ (v:Value) (xT:TypeId) (w:World):(Instr.typeAssert (.iface 39 v) xT 251 true).run Tryz.prog w=.ok (.tuple #[.nilIface,.bool false]) w:=by
 obtain ⟨ms,hu⟩:=eG_ nQ_ (by simp)
 exact run_typeAssert_lacksB hu (by
  have:(Tryz.prog.info? 39).map (λi=>match Tryz.prog.underlying 251 with | some (.interface want)=>(lacking want i.methods).isEmpty | _=>true)=some false:=by kernel_rfl
  rw [hu] at this;exact this) (by kernel_rfl) v xT w
theorem mz_ (w:World):(binOp .eql 32 (.iface 39 (.int .i64 2)) (.iface 39 (.int .i64 11))).run Tryz.prog w=.ok (.bool false) w:=by kernel_rfl
theorem mN_ (w:World):Calls Tryz.prog 44 #[.iface 39 (.int .i64 2),.iface 39 (.int .i64 11)] w λe w'=>e=.returned (.bool false)∧w'=w:=by
 have h8:=@run_callFunc_extern Tryz.prog 94 _ Extern.ReflectliteType.typeOf Tryz.func94 (by kernel_rfl) (by kernel_rfl) (by kernel_rfl) (by kernel_rfl)
 have h32:=@run_callFunc_extern Tryz.prog 270 _ (Extern.ReflectliteType.method λt=>do Extern.Rtype.noPackHeld "Comparable" t;pure (.bool (← typeInfo t).comparable)) Tryz.func270 (by kernel_rfl) (by kernel_rfl) (by kernel_rfl) (by kernel_rfl)
 have tT:=eU_
 have cT:=bM_
 have mR:=a1_
 have hn:=mz_ w
 have n1:=ml_
 have n2:=mk_
 have n3:=kd_
 go_enter Tryz.func44,Tryz.ntmps44
 go_wp2
 refine wp_loop_rounds 1 ?_
 rw [rounds_succ]
 go_wp2
 go_ret
 exact ⟨rfl,rfl⟩
theorem my_ (w:World):(binOp .eql 32 (.iface 39 (.int .i64 6)) (.iface 39 (.int .i64 11))).run Tryz.prog w=.ok (.bool false) w:=by kernel_rfl
theorem mM_ (w:World):Calls Tryz.prog 44 #[.iface 39 (.int .i64 6),.iface 39 (.int .i64 11)] w λe w'=>e=.returned (.bool false)∧w'=w:=by
 have h8:=@run_callFunc_extern Tryz.prog 94 _ Extern.ReflectliteType.typeOf Tryz.func94 (by kernel_rfl) (by kernel_rfl) (by kernel_rfl) (by kernel_rfl)
 have h32:=@run_callFunc_extern Tryz.prog 270 _ (Extern.ReflectliteType.method λt=>do Extern.Rtype.noPackHeld "Comparable" t;pure (.bool (← typeInfo t).comparable)) Tryz.func270 (by kernel_rfl) (by kernel_rfl) (by kernel_rfl) (by kernel_rfl)
 have tT:=eU_
 have cT:=bM_
 have mR:=a1_
 have hn:=my_ w
 have n1:=ml_
 have n2:=mk_
 have n3:=kd_
 go_enter Tryz.func44,Tryz.ntmps44
 go_wp2
 refine wp_loop_rounds 1 ?_
 rw [rounds_succ]
 go_wp2
 go_ret
 exact ⟨rfl,rfl⟩
theorem mx_ (w:World):(binOp .eql 32 (.iface 39 (.int .i64 7)) (.iface 39 (.int .i64 11))).run Tryz.prog w=.ok (.bool false) w:=by kernel_rfl
theorem mL_ (w:World):Calls Tryz.prog 44 #[.iface 39 (.int .i64 7),.iface 39 (.int .i64 11)] w λe w'=>e=.returned (.bool false)∧w'=w:=by
 have h8:=@run_callFunc_extern Tryz.prog 94 _ Extern.ReflectliteType.typeOf Tryz.func94 (by kernel_rfl) (by kernel_rfl) (by kernel_rfl) (by kernel_rfl)
 have h32:=@run_callFunc_extern Tryz.prog 270 _ (Extern.ReflectliteType.method λt=>do Extern.Rtype.noPackHeld "Comparable" t;pure (.bool (← typeInfo t).comparable)) Tryz.func270 (by kernel_rfl) (by kernel_rfl) (by kernel_rfl) (by kernel_rfl)
 have tT:=eU_
 have cT:=bM_
 have mR:=a1_
 have hn:=mx_ w
 have n1:=ml_
 have n2:=mk_
 have n3:=kd_
 go_enter Tryz.func44,Tryz.ntmps44
 go_wp2
 refine wp_loop_rounds 1 ?_
 rw [rounds_succ]
 go_wp2
 go_ret
 exact ⟨rfl,rfl⟩
theorem nZ_ (a:Int) (w:World):(binOp .eql 32 (.iface 214 (.agg #[.int .i64 a,.iface 39 (.int .i64 11)])) (.iface 39 (.int .i64 11))).run Tryz.prog w=.ok (.bool false) w:=by kernel_rfl
theorem sk_ (v:Value) (xT:TypeId) (w:World):(Instr.typeAssert (.iface 214 v) xT 247 true).run Tryz.prog w=.ok (.tuple #[.nilIface,.bool false]) w:=by
 obtain ⟨ms,hu⟩:=eG_ ll_ (by simp)
 exact run_typeAssert_lacksB hu (by
  have:(Tryz.prog.info? 214).map (λi=>match Tryz.prog.underlying 247 with | some (.interface want)=>(lacking want i.methods).isEmpty | _=>true)=some false:=by kernel_rfl
  rw [hu] at this;exact this) (by kernel_rfl) v xT w
set_option maxHeartbeats 4000000 in
theorem ok_ (at_:Int) (w:World):Calls Tryz.prog 44 #[.iface 214 (.agg #[.int .i64 at_,.iface 39 (.int .i64 11)]),.iface 39 (.int .i64 11)] w λe w'=>e=.returned (.bool true)∧w'=w.alloc (.cells #[.int .i64 at_,.iface 39 (.int .i64 11)] 214):=by
 have h8:=@run_callFunc_extern Tryz.prog 94 _ Extern.ReflectliteType.typeOf Tryz.func94 (by kernel_rfl) (by kernel_rfl) (by kernel_rfl) (by kernel_rfl)
 have h32:=@run_callFunc_extern Tryz.prog 270 _ (Extern.ReflectliteType.method λt=>do Extern.Rtype.noPackHeld "Comparable" t;pure (.bool (← typeInfo t).comparable)) Tryz.func270 (by kernel_rfl) (by kernel_rfl) (by kernel_rfl) (by kernel_rfl)
 have tT:=eU_
 have cT:=bM_
 have mR:=a1_
 have hn:=nZ_ at_ w
 go_enter Tryz.func44,Tryz.ntmps44
 go_wp2
 have hn2:=ly_ (w.alloc (.cells #[.int .i64 at_,.iface 39 (.int .i64 11)] 214))
 have n1:=sk_
 have hU:=lv_
 have mU:=gQ_
 refine wp_loop_rounds 2 ?_
 rw [rounds_succ]
 go_wp2
 rw [rounds_succ]
 go_wp2
 go_ret
 exact ⟨rfl,rfl⟩
theorem tF_ {w:World} {K:Value→World→Prop} (hK:K (.bool false) w):aa_ PR F.er_ #[.iface T.ak_ (.int .i64 2),.iface T.ak_ (.int .i64 11)] w K:=
 bj_ (mN_ w) λe w' ⟨he,g⟩=>⟨_,he,g ▸ hK⟩
theorem tE_ {w:World} {K:Value→World→Prop} (hK:K (.bool false) w):aa_ PR F.er_ #[.iface T.ak_ (.int .i64 6),.iface T.ak_ (.int .i64 11)] w K:=
 bj_ (mM_ w) λe w' ⟨he,g⟩=>⟨_,he,g ▸ hK⟩
theorem tD_ {w:World} {K:Value→World→Prop} (hK:K (.bool false) w):aa_ PR F.er_ #[.iface T.ak_ (.int .i64 7),.iface T.ak_ (.int .i64 11)] w K:=
 bj_ (mL_ w) λe w' ⟨he,g⟩=>⟨_,he,g ▸ hK⟩
theorem qu_ {w:World} {K:Value→World→Prop} (hK:K (.bool true) w):aa_ PR F.er_ #[.iface T.ak_ (.int .i64 11),.iface T.ak_ (.int .i64 11)] w K:=
 bj_ (qt_ w) λe w' ⟨he,g⟩=>⟨_,he,g ▸ hK⟩
theorem ol_ {a:Int} {w:World} {K:Value→World→Prop} (hK:∀w',Grow w w'→K (.bool true) w'):aa_ PR F.er_ #[.iface T.ew_ (.agg #[.int .i64 a,.iface T.ak_ (.int .i64 11)]),.iface T.ak_ (.int .i64 11)] w K:=
 bj_ (ok_ a w) λe w' ⟨he,g⟩=>⟨_,he,hK _ (g ▸ Chg.alloc _ _)⟩
end Go.Vc
