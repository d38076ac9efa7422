/-
  A part of the proof of the statement FetchPlaysCardSaid, in Lean: Nm, Lb3, Lb4, Ty, Oct, Gap, Oc1, Oc2, Fm, Lb5, MirP2, MirP7, MirP8. By an AI agent.
-/
import Derived.Test.YthcpblejnhhhdaaGreatDoorP02
import Derived.Test.YthcpblejnhhhdaaGreatDoorP01
import Derived.Laws.BitsLemmas
import Derived.Test.YthcpblejnhhhdaaGreatDoorP03
set_option linter.unusedVariables false
set_option linter.unusedSimpArgs false
set_option maxRecDepth 100000
namespace Go.Vc
open Go
abbrev F.bf_:Nat:=4
abbrev F.ck_:Nat:=6
abbrev F.ih_:Nat:=7
abbrev F.ru_:Nat:=8
abbrev F.kN_:Nat:=9
abbrev F.h5_:Nat:=10
abbrev F.eO_:Nat:=17
abbrev F.du_:Nat:=18
abbrev F.bX_:Nat:=19
abbrev F.bW_:Nat:=20
abbrev F.bZ_:Nat:=21
abbrev F.cE_:Nat:=22
abbrev F.c0_:Nat:=23
abbrev F.kf_:Nat:=24
abbrev F.bY_:Nat:=25
abbrev F.cG_:Nat:=26
abbrev F.c1_:Nat:=27
abbrev F.bz_:Nat:=28
abbrev F.cj_:Nat:=29
abbrev F.cd_:Nat:=30
abbrev F.c2_:Nat:=31
abbrev F.cc_:Nat:=32
abbrev F.dH_:Nat:=33
abbrev F.e8_:Nat:=34
abbrev F.h4_:Nat:=35
abbrev F.kh_:Nat:=37
abbrev F.ls_:Nat:=38
abbrev F.eb_:Nat:=39
abbrev F.er_:Nat:=44
abbrev F.el_:Nat:=46
abbrev F.ea_:Nat:=48
abbrev F.h3_:Nat:=49
abbrev F.gn_:Nat:=51
abbrev F.iv_:Nat:=54
abbrev F.g0_:Nat:=55
abbrev F.g1_:Nat:=56
abbrev F.jS_:Nat:=58
abbrev F.e7_:Nat:=59
abbrev F.h0_:Nat:=60
abbrev F.h1_:Nat:=61
abbrev F.cF_:Nat:=62
abbrev F.nS_:Nat:=63
abbrev F.eh_:Nat:=64
abbrev F.ej_:Nat:=65
abbrev F.g3_:Nat:=66
abbrev F.fg_:Nat:=67
abbrev F.ec_:Nat:=68
abbrev F.cl_:Nat:=69
abbrev F.fK_:Nat:=72
abbrev F.iH_:Nat:=74
abbrev F.e3_:Nat:=75
abbrev F.iK_:Nat:=76
abbrev F.e2_:Nat:=77
abbrev F.h7_:Nat:=78
abbrev F.mm_:Nat:=79
abbrev F.h6_:Nat:=80
abbrev F.ir_:Nat:=81
abbrev F.go_:Nat:=83
abbrev F.cf_:Nat:=85
abbrev F.dm_:Nat:=100
abbrev F.dg_:Nat:=101
abbrev F.j__:Nat:=102
abbrev F.gD_:Nat:=104
abbrev F.fL_:Nat:=105
abbrev F.dK_:Nat:=106
abbrev F.ep_:Nat:=109
abbrev F.eP_:Nat:=111
abbrev F.gl_:Nat:=112
abbrev F.hx_:Nat:=113
abbrev F.gk_:Nat:=115
abbrev F.fI_:Nat:=116
abbrev F.kg_:Nat:=117
abbrev F.h__:Nat:=118
abbrev F.g2_:Nat:=119
abbrev F.gp_:Nat:=120
abbrev F.o8_:Nat:=121
abbrev F.g5_:Nat:=122
abbrev F.g6_:Nat:=123
abbrev F.gH_:Nat:=125
abbrev F.kF_:Nat:=126
abbrev F.ed_:Nat:=127
abbrev F.hO_:Nat:=128
abbrev F.strings_Join:Nat:=129
abbrev F.fu_:Nat:=130
abbrev F.gJ_:Nat:=131
abbrev F.hP_:Nat:=132
abbrev F.fJ_:Nat:=134
abbrev F.g7_:Nat:=135
abbrev F.gE_:Nat:=136
abbrev F.g4_:Nat:=137
abbrev F.dJ_:Nat:=141
abbrev F.dj_:Nat:=146
abbrev F.fc_:Nat:=147
abbrev F.ba_:Nat:=148
abbrev F.dt_:Nat:=149
abbrev F.dh_:Nat:=150
abbrev F.iq_:Nat:=151
abbrev F.bx_:Nat:=152
abbrev F.ff_:Nat:=156
abbrev F.gR_:Nat:=159
abbrev F.ei_:Nat:=160
abbrev F.sa_:Nat:=161
abbrev F.gm_:Nat:=162
abbrev F.h2_:Nat:=163
abbrev F.fq_:Nat:=164
abbrev F.bI_:Nat:=165
abbrev F.bp_:Nat:=166
abbrev F.bA_:Nat:=167
abbrev F.bw_:Nat:=168
abbrev F.nI_:Nat:=169
abbrev F.e0_:Nat:=170
abbrev F.d0_:Nat:=171
abbrev F.e1_:Nat:=172
abbrev F.ch_:Nat:=173
abbrev F.cg_:Nat:=174
abbrev F.st_:Nat:=175
abbrev F.fd_:Nat:=178
abbrev F.fb_:Nat:=179
abbrev F.dk_:Nat:=189
abbrev F.cL_:Nat:=190
abbrev F.dl_:Nat:=191
abbrev F.cC_:Nat:=192
abbrev F.gC_:Nat:=193
abbrev F.tJ_:Nat:=195
abbrev F.dG_:Nat:=196
abbrev F.l9_:Nat:=197
abbrev F.dQ_:Nat:=198
abbrev F.cmp_Compare_int:Nat:=201
abbrev F.d__:Nat:=202
abbrev F.dw_:Nat:=203
abbrev F.ks_:Nat:=204
abbrev F.mr_:Nat:=206
abbrev F.ip_:Nat:=208
abbrev F.dv_:Nat:=209
abbrev F.fh_:Nat:=216
abbrev F.eo_:Nat:=217
abbrev F.dd_:Nat:=218
abbrev F.j8_:Nat:=227
abbrev F.dE_:Nat:=228
abbrev F.cH_:Nat:=229
abbrev F.aW_:Nat:=230
abbrev F.c3_:Nat:=231
abbrev F.gd_:Nat:=233
abbrev F.hQ_:Nat:=234
abbrev F.gq_:Nat:=238
abbrev F.gr_:Nat:=239
abbrev F.bP_:Nat:=240
abbrev T.int:Nat:=3
abbrev T.bool:Nat:=4
abbrev T.uint8:Nat:=5
abbrev T.string:Nat:=9
abbrev T.any:Nat:=20
abbrev T.d5_:Nat:=24
abbrev T.aq_:Nat:=27
abbrev T.bk_:Nat:=28
abbrev T.error:Nat:=32
abbrev T.ce_:Nat:=37
abbrev T.ak_:Nat:=39
abbrev T.k9_:Nat:=42
abbrev T.ev_:Nat:=44
abbrev T.aR_:Nat:=45
abbrev T.bb_:Nat:=47
abbrev T.cZ_:Nat:=48
abbrev T.bq_:Nat:=52
abbrev T.aN_:Nat:=56
abbrev T.cK_:Nat:=60
abbrev T.eg_:Nat:=62
abbrev T.aV_:Nat:=64
abbrev T.cY_:Nat:=67
abbrev T.bn_:Nat:=70
abbrev T.jY_:Nat:=85
abbrev T.cJ_:Nat:=93
abbrev T.as_:Nat:=97
abbrev T.ap_:Nat:=104
abbrev T.a__:Nat:=106
abbrev T.aL_:Nat:=108
abbrev T.cD_:Nat:=109
abbrev T.jX_:Nat:=117
abbrev T.cO_:Nat:=119
abbrev T.b1_:Nat:=135
abbrev T.be_:Nat:=143
abbrev T.cI_:Nat:=145
abbrev T.al_:Nat:=147
abbrev T.bL_:Nat:=152
abbrev T.b2_:Nat:=156
abbrev T.bh_:Nat:=157
abbrev T.c__:Nat:=186
abbrev T.aS_:Nat:=197
abbrev T.bG_:Nat:=207
abbrev T.ew_:Nat:=214
abbrev T.o6_:Nat:=225
abbrev T.mC_:Nat:=232
abbrev T.dq_:Nat:=245
abbrev T.bU_:Nat:=261
abbrev T.ae_:Nat:=263
abbrev T.mh_:Nat:=305
abbrev T.d6_:Nat:=312
abbrev T.bD_:Nat:=324
abbrev G.count:Nat:=2
end Go.Vc
namespace Go.Vc
open Go
def bv (b:UInt8):Value:=.int .u8 b.toNat
def str (l:List UInt8):ByteArray:=⟨l.toArray⟩
theorem ai_ (l:List UInt8):(str l).size=l.length:=by simp [str,ByteArray.size]
theorem b6_ (l:List UInt8):(str l).data.toList=l:=by simp [str]
theorem str_inj {a b:List UInt8} (h:str a=str b):a=b:=by
 have:=congrArg (λs:ByteArray=>s.data.toList) h
 simpa [str] using this
theorem aD_ (a b:List UInt8):str a++str b=str (a++b):=by
 apply ByteArray.ext
 simp [str]
theorem aG_ {n:Int} (h0 : -9223372036854775808≤n) (h1:n≤9223372036854775807):IntKind.wrap .i64 n=n:=by
 rw [IntKind.wrap_i64];omega
theorem wrap_u8 (n:Int):IntKind.wrap .u8 n=n%256:=IntKind.wrap_u8 n
theorem wrap_u32 (n:Int):IntKind.wrap .u32 n=n%4294967296:=IntKind.wrap_u32 n
theorem p8_ (n:Nat):(.int .u8 ((n:Int)%256):Value)=bv (UInt8.ofNat n):=by
 unfold bv;congr 1
theorem dI_ {n:Int} (h0:0≤n) (h1:n≤9223372036854775807):(BitVec.ofInt 64 n).toNat=n.toNat:=by
 obtain ⟨m,rfl⟩:=Int.eq_ofNat_of_zero_le h0
 have:m<2 ^ 64:=by omega
 simp [Nat.mod_eq_of_lt this]
section
variable {P:Program}
theorem fz_ {ts td e:TypeId} (hu:P.underlying ts=some (.slice e)) (hd:P.underlying td=some .string) (he:P.underlying e=some (.int .u8))
  {w:World} {q:Option Addr} {l c:Nat} {bs:List UInt8} {K:Value→World→Prop} (hs:Sl w q (bs.map bv)) (hl:l=bs.length)
  (hK:K (.string (str bs)) w):sv P (convert ts td (.slice q l c)) K w:=by
 unfold convert
 rw [aH_,ao_ hu,aH_,ao_ hd]
 simp only []
 rw [aH_,ao_ he]
 simp only []
 have hnil:∀q,bs=[]→q=none→sv P (Conv.bytesToString (.slice q l c)) K w:=by
  intro q h1 h2
  subst h1;subst h2
  have:K (.string .empty) w:=hK
  exact this
 unfold Conv.bytesToString
 cases q with
 | none=>
  rcases hs with h | ⟨b,o,h,_⟩
  ·have:bs=[]:=by simpa using h
   subst this
   exact hK
  ·cases h
 | some a=>
  simp only []
  have loop:∀(bs:List UInt8) (s:ByteArray) (K:ByteArray→World→Prop),K (s++str bs) w→
    sv P (forIn (bs.map bv) s (λc s=>do
     let .int .u8 n:=c | stuck "bytesToString: byte expected"
     pure (.yield (s.push (UInt8.ofNat n.toNat)))):Sem ByteArray) K w:=by
   intro bs
   induction bs with
   | nil=>
    intro s K h
    have e:s++str []=s:=by apply ByteArray.ext;simp [str]
    rw [e] at h;exact h
   | cons x bs ih=>
    intro s K h
    simp only [List.map_cons,List.forIn_cons]
    rw [aH_]
    simp only [bv,a3_]
    refine ih _ _ ?_
    have e:s.push (UInt8.ofNat (Int.toNat (x.toNat:Int)))++str bs=s++str (x :: bs):=by
     apply ByteArray.ext
     simp [str]
    rw [e];exact h
  have fin:∀(xs:List Value),xs=bs.map bv→sv P (do
    let mut s:=ByteArray.empty
    for c in xs.toArray do
     let .int .u8 n:=c | stuck "bytesToString: byte expected"
     s:=s.push (UInt8.ofNat n.toNat)
    pure (Value.string s):Sem Value) K w:=by
   intro xs hx
   subst hx
   rw [aH_,List.forIn_toArray]
   refine loop bs _ _ ?_
   rw [a3_]
   simpa using hK
  rcases hs with h | ⟨b,o,h,hr⟩
  ·have e:bs=[]:=by simpa using h
   subst e
   rw [aH_,hl]
   exact fin [] rfl
  ·cases h
   rw [aH_]
   exact b9_ (by simp [hl]) hr (fin _ rfl)
end
end Go.Vc
namespace Go.Vc
open Go
section
variable {P:Program}
theorem cX_ {ts e:TypeId} {i:TypeInfo} {z:Value} {by_:Nat} (hu:P.underlying ts=some (.slice e)) (hi:P.info? e=some i) (hz:i.zero=some z) (hzc:z.cells=#[z]) (hk:i.size=1) (hb:i.bytes=by_)
  {w:World} {n:Int} {K:Value→World→Prop} (h0:0≤n) (hn:by_*n≤281474976710656) (hm:n≤9223372036854775807)
  (hK:∀b w',b=w.heap.size→w'.heap.size=b+1→Grow w w'→Own e 1 w' (some ⟨b,0,none⟩) n.toNat (List.replicate n.toNat z)→K (.slice (some ⟨b,0,none⟩) n.toNat n.toNat) w') :
  sv P (Instr.makeSlice ts (.int .i64 n) (.int .i64 n)) K w:=by
 subst hb
 have hw:=aG_ (n:=n) (by omega) hm
 have hlt:¬((i.bytes:Int)*n>2 ^ 48):=by
  have:(2:Int) ^ 48=281474976710656:=by decide
  omega
 unfold Instr.makeSlice
 simp only [aH_,ao_ hu,asInt,asIntOf,a3_,bS_ hi,hw,jd_,eA_,b8_ hi,hk,Nat.mul_one]
 have h1:¬n<0:=by omega
 have h2:¬n>n:=by omega
 simp only [h1,h2,hlt,decide_false,Bool.or_self,Bool.false_eq_true,if_false]
 have key:∀(cs:Array Value),cs=(List.replicate n.toNat z).toArray→sv P (newRow e cs) (λa w=>K (.slice (some a) n.toNat n.toNat) w) w:=by
  intro cs hcs
  subst hcs
  unfold newRow
  rw [aH_,fA_]
  refine newV λb w' hb hb' hs g=>hK b w' hb hs g (.inr ⟨b,0,_,rfl,hb',by simp,by omega,by simp,λj hj=>by simp at hj;simp [hj]⟩)
 by_cases hz0:n.toNat=0
 ·rw [if_pos hz0]
  refine key _ ?_
  rw [hz0];apply Array.toList_inj.1;simp
 ·rw [if_neg hz0,b7_ hi hz]
  refine key _ ?_
  apply Array.toList_inj.1
  rw [hzc]
  simp
  apply List.ext_getElem
  ·simp
  ·intro j h1 h2;simp [Nat.mod_one]
end
end Go.Vc
namespace Go.Vc
open Go
theorem cy_:PR.underlying T.bh_=some (.slice T.uint8):=by kernel_rfl
theorem u_u8:PR.underlying T.uint8=some (.int .u8):=by kernel_rfl
theorem oF_:PR.underlying T.string=some .string:=by kernel_rfl
theorem kX_:PR.underlying T.aR_=some (.slice T.string):=by kernel_rfl
def tyI (t:TypeId) (k by_:Nat) (z:Value):Prop:=∃i,PR.info? t=some i∧i.size=k∧i.bytes=by_∧i.zero=some z
noncomputable def sZ_ (t:TypeId) (k by_:Nat) (z:Value):Bool:=match PR.info? t with
 | some i=>i.size == k && i.bytes == by_ && (match i.zero,z with
  | some (.int k n),.int k' n'=>k == k' && n == n'
  | some (.bool b),.bool b'=>b == b'
  | some (.string s),.string s'=>s.data == s'.data
  | some (.pointer none),.pointer none=>true
  | _,_=>false)
 | none=>false
theorem kZ_ {t:TypeId} {k by_:Nat} {z:Value} (h:sZ_ t k by_ z=true):tyI t k by_ z:=by
 unfold sZ_ at h
 split at h
 ·rename_i i hi
  simp only [Bool.and_eq_true,beq_iff_eq] at h
  obtain ⟨⟨h1,h2⟩,h3⟩:=h
  refine ⟨i,hi,h1,h2,?_⟩
  split at h3
  ·simp only [Bool.and_eq_true,beq_iff_eq] at h3;rename_i h4;rw [h4,h3.1,h3.2]
  ·simp only [beq_iff_eq] at h3;rename_i h4;rw [h4,h3]
  ·rename_i s s' h4
   have:s=s':=by cases s;cases s';simp only [beq_iff_eq] at h3;simp_all
   rw [h4,this]
  ·rename_i h4;rw [h4]
  ·cases h3
 ·cases h
theorem t_u8:tyI T.uint8 1 1 (.int .u8 0):=kZ_ (by kernel_rfl)
theorem oQ_:tyI T.string 1 16 (.string ⟨#[]⟩):=kZ_ (by kernel_rfl)
theorem qL_:tyI T.int 1 8 (.int .i64 0):=kZ_ (by kernel_rfl)
theorem rP_:tyI T.bool 1 1 (.bool false):=kZ_ (by kernel_rfl)
theorem app1 {ts e:TypeId} {by_:Nat} {z:Value} (hu:PR.underlying ts=some (.slice e)) (ht:tyI e 1 by_ z) (hz:z.cells=#[z]) (hby:by_≠0) {w:World} {q q2:Option Addr} {l c l2 c2:Nat} {xs ys:List Value} {K:Value→World→Prop}
  (ho:Own e 1 w q c xs) (hl:l=xs.length) (hlc:l≤c) (hs:Sl w q2 ys) (hl2:l2=ys.length) (hone:∀y,y∈ys→oneC y=true) (hroom:(2*(l+l2)+1024)*by_≤281474976710656)
  (hK:∀q' c' w',Own e 1 w' q' c' (xs++ys)→l+l2≤c'→Chg (am_ q) w w'→(∀a,q'=some a→q=some a∨a=⟨w.heap.size,0,none⟩)→K (.slice q' (l+l2) c') w') :
  rn PR (Builtin.append_ #[ts,ts] ts #[.slice q l c,.slice q2 l2 c2]) K w:=by
 obtain ⟨i,hi,hk,hb,hz'⟩:=ht
 exact df_ <| f6_ (i:=i) (k:=1) (by_:=by_) hu hu hi hz' hk hb (by rw [hz];rfl) hby ho (by omega) hlc hs (by omega) hone hroom hK
theorem f1_ {w:World} {q q2:Option Addr} {l c l2 c2:Nat} {xs ys:List UInt8} {K:Value→World→Prop}
  (ho:Own T.uint8 1 w q c (xs.map bv)) (hl:l=xs.length) (hlc:l≤c) (hs:Sl w q2 (ys.map bv)) (hl2:l2=ys.length) (hroom:l+l2≤70368744177664)
  (hK:∀q' c' w',Own T.uint8 1 w' q' c' ((xs++ys).map bv)→l+l2≤c'→Chg (am_ q) w w'→(∀a,q'=some a→q=some a∨a=⟨w.heap.size,0,none⟩)→
   K (.slice q' (l+l2) c') w') :
  rn PR (Builtin.append_ #[T.bh_,T.bh_] T.bh_ #[.slice q l c,.slice q2 l2 c2]) K w:=
 app1 cy_ t_u8 rfl (by decide) ho (by simp [hl]) hlc hs (by simp [hl2]) (λy hy=>by obtain ⟨b,_,rfl⟩:=List.mem_map.1 hy;rfl) (by omega) λq' c' w' h=>hK q' c' w' (by simpa using h)
def sv1 (s:ByteArray):Value:=.string s
theorem Sl.ex {w:World} {q:Option Addr} {xs:List Value} (h:Sl w q xs) (h0:xs≠[]):∃b o,q=some ⟨b,o,none⟩∧∀j:Nat,j<xs.length→w.cell? ⟨b,o+j,none⟩=xs[j]?:=by
 rcases h with h | ⟨b,o,rfl,h⟩
 ·exact absurd h h0
 ·exact ⟨b,o,rfl,λj hj=>by rw [h.cell (v:=xs[j]) (by simp [hj])];simp [hj]⟩
theorem Sl.rd {w:World} {q:Option Addr} {xs:List Value} (h:Sl w q xs) {n:Int} {l:Nat} {v:Value} {K:Addr→Prop} (hl:l=xs.length) (h0:0≤n) (hv:xs[n.toNat]? = some v) (hK:∀a,w.cell? a=some v→K a) :
  Dr q (λa=>0≤n∧n<((l:Nat):Int)∧Dr (some (Addr.add a (n.toNat*1))) K):=by
 subst hl
 have hl:n.toNat<xs.length:=by
  rcases Nat.lt_or_ge n.toNat xs.length with hl | hl
  ·exact hl
  ·simp [List.getElem?_eq_none hl] at hv
 obtain ⟨b,o,rfl,hc⟩:=h.ex (by intro e;subst e;simp at hl)
 refine ac_.2 ⟨h0,by omega,ac_.2 ?_⟩
 rw [au_,Nat.mul_one]
 exact hK _ (by rw [hc _ hl,hv])
theorem Fr.sl {S:Nat→Prop} {w0 wp w:World} {M:List Nat} {L:List Blk} (h:Fr S w0 wp M L w) (j:Nat) {b:Nat} {cs:List Value} {T:TypeId} {wr:Bool} (hj:L[j]? = some ⟨b,⟨cs⟩,T,wr⟩):Sl w (some ⟨b,0,none⟩) cs:=
 .inr ⟨b,0,rfl,⟨cs⟩,T,(0,0),h.blk j hj,λi _=>by simp⟩
theorem Fr.own {S:Nat→Prop} {w0 wp w:World} {M:List Nat} {L:List Blk} (h:Fr S w0 wp M L w) (j:Nat) {b c:Nat} {cs:List Value} {T:TypeId} {wr:Bool} (hj:L[j]? = some ⟨b,⟨cs⟩,T,wr⟩) (hc:cs.length=c) (hc2:c≤9223372036854775807):Own T 1 w (some ⟨b,0,none⟩) c cs:=
 .inr ⟨b,0,⟨cs⟩,rfl,h.blk j hj,by simp [hc],hc2,by omega,λi _=>by simp⟩
theorem Fr.gr {w0 wp w:World} {M:List Nat} {L:List Blk} (h:Fr (λ_=>False) w0 wp M L w):Grow w0 w:=h.chg
theorem Fr.keep {S:Nat→Prop} {w0 wp w w':World} {M:List Nat} {L:List Blk} (h:Fr S w0 wp M L w) {q:Option Addr} (g:Chg (am_ q) w w') (ho:∀a,q=some a→∀x,x∈L→x.b≠a.block) (hn:Off (λk=>k<w0.heap.size) q):Fs S w0 L w':=
 h.step g (λx hx ⟨a,ha,e⟩=>ho a ha x hx e) λk hk ⟨a,ha,e⟩=>absurd (e ▸ hk) (hn a ha)
theorem ar_ {α:Type} {l:List α} {k:Nat} (h:k<l.length):l.take (k+1)=l.take k++[l[k]]:=by
 rw [List.take_succ_eq_append_getElem h]
theorem wr1 {k:Nat} (h:k<9223372036854775807):IntKind.wrap .i64 ((k:Int)+1)=((k+1:Nat):Int):=by
 rw [aG_ (by omega) (by omega)];omega
theorem dL_ (s:ByteArray):s.data.toList.length=s.size:=by rw [Array.length_toList];rfl
theorem p7_ {s:ByteArray} {k:Nat} (h:k<s.data.toList.length):aX_ s k=(s.data.toList[k]).toNat:=by
 unfold aX_
 have h':k<s.size:=by rw [← dL_];exact h
 simp [Array.getD,h']
end Go.Vc
namespace Go.Vc
open Go
def af_ (n:Nat):List UInt8:=if n<128 then [UInt8.ofNat n] else UInt8.ofNat (128+n%128) :: af_ (n / 128)
theorem d8_:∀(k n:Nat),n<128 ^ (k+1)→(af_ n).length≤k+1
 | 0,n,h=>by unfold af_;rw [if_pos (by simpa using h)];simp
 | k+1,n,h=>by
  unfold af_
  split
  ·simp
  ·have:=d8_ k (n / 128) (by rw [Nat.div_lt_iff_lt_mul (by omega)];rw [Nat.pow_succ] at h;exact h)
   simp;exact this
def a2_ (i x:Nat):List UInt8→Nat × Nat ⊕ Nat
 | []=>.inr 3
 | c :: r=>
  if 128≤c.toNat then (if i=7 then .inr 4 else a2_ (i+1) (x+c.toNat%128*128 ^ i) r)
  else if c.toNat=0∧0<i then .inr 4 else .inl (x+c.toNat%128*128 ^ i,i+1)
def aE_:Nat→Nat→List UInt8
 | 0,_=>[]
 | k+1,x=>UInt8.ofNat (x%256) :: aE_ k (x / 256)
theorem a6_ (k x:Nat):(aE_ k x).length=k:=by induction k generalizing x with
 | zero=>rfl
 | succ k ih=>simp [aE_,ih]
theorem lh_ (k:Nat):∀(x i:Nat),i<k→(aE_ k x)[i]? = some (UInt8.ofNat (x / 256 ^ i%256)):=by
 induction k with
 | zero=>intro x i h;omega
 | succ k ih=>
  intro x i h
  cases i with
  | zero=>simp [aE_]
  | succ i=>
   simp only [aE_,List.getElem?_cons_succ]
   rw [ih _ _ (by omega),Nat.div_div_eq_div_mul,Nat.pow_succ,Nat.mul_comm 256]
theorem gT_:∀(k n i x:Nat) (r:List UInt8),n<128 ^ (k+1)→i+k≤7→(i=0∨0<n)→a2_ i x (af_ n++r)=.inl (x+n*128 ^ i,i+(af_ n).length)
 | k,n,i,x,r,h,hi,hn=>by
  have hu:UInt8.size=256:=rfl
  unfold af_
  by_cases hlt:n<128
  ·rw [if_pos hlt]
   have e:(UInt8.ofNat n).toNat=n:=UInt8.toNat_ofNat_of_lt (by omega)
   simp only [List.cons_append,List.nil_append,a2_,e]
   rw [if_neg (by omega),if_neg (by omega),Nat.mod_eq_of_lt hlt]
   simp
  ·rw [if_neg hlt]
   have e:(UInt8.ofNat (128+n%128)).toNat=128+n%128:=UInt8.toNat_ofNat_of_lt (by omega)
   cases k with
   | zero=>simp at h;omega
   | succ k=>
    simp only [List.cons_append,a2_,e]
    rw [if_pos (by omega),if_neg (by omega)]
    rw [gT_ k (n / 128) (i+1) _ r (by rw [Nat.div_lt_iff_lt_mul (by omega)];rw [Nat.pow_succ] at h;exact h) (by omega) (.inr (by omega))]
    have e1:(128+n%128)%128=n%128:=by omega
    rw [e1,Nat.pow_succ]
    congr 2
    ·have h1:n=n%128+128*(n / 128):=by omega
     have h2:n*128 ^ i=n%128*128 ^ i+128*(n / 128)*128 ^ i:=by
      conv=>lhs;rw [h1]
      rw [Nat.add_mul]
     rw [h2,Nat.add_assoc]
     congr 1
     congr 1
     rw [Nat.mul_comm 128 (n / 128),Nat.mul_assoc,Nat.mul_comm 128]
    ·simp;omega
theorem im_ {n:Nat} (h:n≤72057594037927935) (r:List UInt8):a2_ 0 0 (af_ n++r)=.inl (n,(af_ n).length):=by
 have:=gT_ 7 n 0 0 r (by omega) (by omega) (.inl rfl)
 simpa using this
theorem bB_ (n:Nat):0<(af_ n).length:=by unfold af_;split <;> simp
theorem in_:∀(l:List UInt8) (i x:Nat) {r:Nat × Nat},i≤7→x<128 ^ i→a2_ i x l=.inl r→r.1<128 ^ 8∧i<r.2∧r.2≤i+l.length
 | [],i,x,r,hi,hx,h=>by simp [a2_] at h
 | c :: l,i,x,r,hi,hx,h=>by
  have hm:c.toNat%128*128 ^ i≤127*128 ^ i:=Nat.mul_le_mul_right _ (by omega)
  have hp:128 ^ (i+1)=128 ^ i*128:=Nat.pow_succ ..
  simp only [a2_] at h
  split at h
  ·split at h
   ·cases h
   ·have:=in_ l (i+1) _ (by omega) (by omega) h
    simp only [List.length_cons]
    exact ⟨this.1,by omega,by omega⟩
  ·split at h
   ·cases h
   ·cases h
    have:128 ^ (i+1)≤128 ^ 8:=Nat.pow_le_pow_right (by omega) (by omega)
    simp only [List.length_cons]
    exact ⟨by omega,by omega,by omega⟩
end Go.Vc
namespace Go.Vc
open Go
def turn (x:Int):Int:=if x < -36028797018963968∨x≥36028797018963968 then 0 else if x<0 then -2*x - 1 else 2*x
def back (x:Int):Int:=if x<0 then 0 else if x%2=1 then -(x / 2) - 1 else x / 2
def pk_ (n:Int):Prop:=-36028797018963968≤n∧n<36028797018963968
theorem qb_ {x:Int} (h:pk_ x):back (turn x)=x:=by
 obtain ⟨h1,h2⟩:=h
 unfold turn
 rw [if_neg (by omega)]
 unfold back
 split <;> (try rw [if_neg (by omega)]) <;> split <;> omega
theorem oJ_ (x:Int):0≤turn x:=by unfold turn;split <;> (try split) <;> omega
theorem lZ_ (x:Int):turn x≤72057594037927935:=by unfold turn;split <;> (try split) <;> omega
def cat {α:Type} (f:Nat→List α):Nat→List α
 | 0=>[]
 | n+1=>cat f n++f n
theorem dB_ {α:Type} (f:Nat→List α):∀ {n i:Nat},i<n→∃r,cat f n=cat f i++(f i++r)
 | 0,i,h=>by omega
 | n+1,i,h=>by
  by_cases e:i=n
  ·subst e;exact ⟨[],by simp [cat]⟩
  ·obtain ⟨r,hr⟩:=dB_ f (n:=n) (i:=i) (by omega)
   exact ⟨r++f n,by rw [cat,hr];simp⟩
theorem fs_ {α:Type} (f:Nat→List α) (b:Nat):∀(n:Nat),(∀i,i<n→(f i).length≤b)→(cat f n).length≤n*b
 | 0,_=>by simp [cat]
 | n+1,h=>by
  have h1:=fs_ f b n λi hi=>h i (by omega)
  have h2:=h n (by omega)
  simp only [cat,List.length_append,Nat.succ_mul];omega
def gapP (v:Int) (l:List Int) (i:Nat):List UInt8:=if i=0 then af_ (turn (l.getD 0 0 - v)).toNat else af_ (l.getD i 0 - l.getD (i - 1) 0 - 1).toNat
def gapL (v:Int) (l:List Int):List UInt8:=af_ l.length++cat (gapP v l) l.length
def e__ (nodes:Int) (l:List Int):Prop:=(∀i,i<l.length→0≤l.getD i 0∧l.getD i 0<nodes)∧∀i,i+1<l.length→l.getD i 0<l.getD (i+1) 0
theorem fM_ {nodes:Int} {l:List Int} (h:e__ nodes l):(l.length:Int)≤max nodes 0:=by
 have:∀i,i<l.length→(i:Int)≤l.getD i 0:=by
  intro i
  induction i with
  | zero=>intro hi;have:=(h.1 0 hi).1;simpa using this
  | succ i ih=>intro hi;have h1:=ih (by omega);have h2:=h.2 i hi;omega
 cases hl:l.length with
 | zero=>omega
 | succ n=>
  have h1:=this n (by omega)
  have h2:=(h.1 n (by omega)).2
  omega
theorem an_ {n:Nat} (h:n≤72057594037927935):(af_ n).length≤8:=d8_ 7 n (by omega)
theorem hp_ {nodes v:Int} {l:List Int} (hn:nodes≤4096) (hv:0≤v) (hv':v<nodes) (h:e__ nodes l) {i:Nat} (hi:i<l.length):(gapP v l i).length≤8:=by
 unfold gapP
 split
 ·exact an_ (by have:=lZ_ (l.getD 0 0 - v);omega)
 ·have h1:=h.1 i hi
  have h2:=h.1 (i - 1) (by omega)
  exact an_ (by omega)
theorem nj_ {nodes v:Int} {l:List Int} (hn:nodes≤4096) (hv:0≤v) (hv':v<nodes) (h:e__ nodes l):(gapL v l).length≤40000:=by
 have h1:=fM_ h
 have h2:=fs_ (gapP v l) 8 l.length λi hi=>hp_ hn hv hv' h hi
 have h3:=an_ (n:=l.length) (by omega)
 simp only [gapL,List.length_append];omega
theorem rm_ (v:Int) (l:List Int):0<(gapL v l).length:=by
 have:=bB_ l.length
 simp only [gapL,List.length_append];omega
def aU_ (first:Int) (R:Nat→List Int):Nat→List UInt8:=cat λj=>gapL (first+j) (R j)
def bQ_ (first:Int) (R:Nat→List Int):Nat→List UInt8:=cat λk=>af_ (aU_ first R (k*8)).length
def ay_ (many:Nat):Nat:=(many+7) / 8
def gP_ (first:Int) (R:Nat→List Int) (many:Nat):List UInt8:=af_ first.toNat++af_ many++bQ_ first R (ay_ many)++aU_ first R many
end Go.Vc
namespace Go.Vc
open Go
theorem tg_ {n:Int} (h0:0≤n) (h1:n≤9223372036854775807) :
  (.int .u8 (IntKind.wrap .u8 (IntKind.wrap .i64 (((BitVec.toNat (BitVec.ofInt 64 (IntKind.wrap .i64 ((BitVec.toNat (BitVec.ofInt 64 n &&& BitVec.ofInt 64 127):Nat):Int))
   ||| BitVec.ofInt 64 128)):Nat):Int))):Value)=bv (UInt8.ofNat (128+n.toNat%128)):=by
 rw [← p8_];congr 1
 obtain ⟨m,rfl⟩:=Int.eq_ofNat_of_zero_le h0
 show IntKind.wrap .u8 (IntKind.wrap .i64 (((BitVec.ofInt 64 (IntKind.wrap .i64 ((BitVec.ofInt 64 (m:Int) &&& BitVec.ofInt 64 127).toNat:Int)) ||| BitVec.ofInt 64 128).toNat:Nat):Int))=_
 have e1:(BitVec.ofInt 64 (m:Int) &&& BitVec.ofInt 64 127).toNat=m%128:=by
  rw [BitVec.toNat_and,dI_ (n:=(m:Int)) (by omega) h1]
  have:(BitVec.ofInt 64 127).toNat=2 ^ 7 - 1:=by decide
  rw [this,Nat.and_two_pow_sub_one_eq_mod];simp
 rw [e1,aG_ (n:=((m%128:Nat):Int)) (by omega) (by omega)]
 have e2:(BitVec.ofInt 64 ((m%128:Nat):Int) ||| BitVec.ofInt 64 128).toNat=128+m%128:=by
  rw [BitVec.toNat_or,dI_ (n:=((m%128:Nat):Int)) (by omega) (by omega)]
  have h:(BitVec.ofInt 64 128).toNat=2 ^ 7*1:=by decide
  rw [h,Nat.or_comm]
  have h2:=Nat.two_pow_add_eq_or_of_lt (i:=7) (b:=m%128) (by omega) 1
  rw [Int.toNat_natCast,← h2]
 rw [e2,aG_ (by omega) (by omega),wrap_u8]
 simp
theorem ld_ {w:World} {q:Option Addr} {l c:Nat} {bs:List UInt8} {K:Value→World→Prop} (hs:Sl w q (bs.map bv)) (hl:l=bs.length) (hK:K (.string (str bs)) w) :
  rn PR (convert T.bh_ T.string (.slice q l c)) K w:=df_ (fz_ cy_ oF_ u_u8 hs hl hK)
theorem Fr.app {w0 wp w1 w2:World} {M:List Nat} {L:List Blk} {q:Option Addr} {n:Nat} (h:Fr (λ_=>False) w0 wp M L w1) (g:Chg (am_ q) w1 w2) (ho:∀a,q=some a→a.block<n) (hL:∀x,x∈L→n≤x.b)
  (hn:Off (λk=>k<w0.heap.size) q):Fs (λ_=>False) w0 L w2:=
 h.keep g (λa ha x hx e=>by have:=ho a ha;have:=hL x hx;omega) hn
theorem gc_ {n:Int} (h0:0≤n) (h1:n≤9223372036854775807) {w:World} {K:Value→World→Prop}
  (hK:∀w',Grow w w'→K (.string (str (af_ n.toNat))) w'):aa_ PR F.fc_ ⟨[.int .i64 n]⟩ w K:=by
 have hlen:=d8_ 9 n.toNat (by omega)
 refine fc_ n (λ_=>False) K w ⟨λx q l c m w'=>∃done:List UInt8,0≤x∧x≤9223372036854775807∧m=x.toNat∧done++af_ x.toNat=af_ n.toNat∧Own T.uint8 1 w' q c (done.map bv)∧l=done.length∧l≤c∧
  Off (λk=>k<w.heap.size) q,⟨n.toNat,[],h0,h1,rfl,rfl,.nil _ _ _,rfl,Nat.le_refl _,.none _⟩,?_⟩
 rintro x q l c D m w' ⟨done,hx0,hx1,rfl,hdone,ho,hl,hlc,hoff⟩ hF
 have hd:done.length≤10:=by have:=congrArg List.length hdone;simp at this;omega
 refine ⟨λhge=>?_,λhlt=>?_⟩
 ·intro r hr w1 h1
  rw [tg_ hx0 hx1] at h1 ⊢
  have hs1:Sl w1 (some ⟨r,0,none⟩) ([UInt8.ofNat (128+x.toNat%128)].map bv):=h1.sl 0 rfl
  rw [af_,if_neg (by omega)] at hdone
  refine f1_ (xs:=done) (ys:=[UInt8.ofNat (128+x.toNat%128)]) (ho.grow h1.grow) hl hlc hs1 rfl (by omega) λq' c' w2 ho2 hc2 g2 hq2=>?_
  have e:(Int.fdiv x 128)=x / 128:=Int.fdiv_eq_ediv_of_nonneg _ (by decide)
  refine ⟨_,_,_,rfl,h1.app g2 (λa ha=>ho.lt a ha) (λy hy=>by simp at hy;subst hy;exact hr) hoff,(x.toNat / 128),by omega,done++[UInt8.ofNat (128+x.toNat%128)],by rw [e];omega,by rw [e];omega,by rw [e];omega,?_,ho2,by simp [hl],hc2,
   hoff.next hq2 h1.chg.size⟩
  have e2:(Int.fdiv x 128).toNat=x.toNat / 128:=by rw [e];omega
  rw [e2,← hdone];simp
 ·intro r hr w1 h1
  have hs1:Sl w1 (some ⟨r,0,none⟩) ([UInt8.ofNat x.toNat].map bv):=by
   have:=h1.sl 0 rfl
   rw [wrap_u8,← Int.toNat_of_nonneg hx0,p8_] at this
   exact this
  rw [af_,if_pos (by omega)] at hdone
  refine f1_ (xs:=done) (ys:=[UInt8.ofNat x.toNat]) (ho.grow h1.grow) hl hlc hs1 rfl (by omega) λq' c' w2 ho2 hc2 g2 hq2=>?_
  have hF2:=h1.app g2 (λa ha=>ho.lt a ha) (λy hy=>by simp at hy;subst hy;exact hr) hoff
  refine ⟨_,_,_,rfl,hF2,?_⟩
  rw [hdone] at ho2
  exact ld_ ho2.sl (by rw [← hdone,hl];simp) ⟨_,rfl,hF2,hK _ hF2.chg⟩
end Go.Vc
namespace Go.Vc
open Go
def E (c:Int):Value:=.iface T.ak_ (.int .i64 c)
def F (at_:Int) (v:Value):Value:=.iface T.ew_ (.agg #[.int .i64 at_,v])
abbrev S0:Nat→Prop:=λ_=>False
theorem eH_ {n:Int} {v:Value} {w:World} {K:Value→World→Prop} (hv:oneC v=true) (hK:K (F n v) w) :
  aa_ PR F.fd_ ⟨[.int .i64 n,v]⟩ w K:=fd_ n v S0 K w ⟨hv,hK⟩
theorem nB_ {s:ByteArray} {n:Int} {w:World} {K:Value→World→Prop} (h1:0≤n∧n≤s.size→K (.bool true) w) (h2:¬(0≤n∧n≤s.size)→K (.bool false) w) :
  aa_ PR F.fb_ ⟨[.string s,.int .i64 n]⟩ w K:=
 fb_ s n S0 K w ⟨λa=>⟨λb=>h1 ⟨a,b⟩,λb=>h2 λc=>b c.2⟩,λa=>h2 λc=>a c.1⟩
theorem bN_ {n:Int} (hn:0≤n∧n≤72057594037927935) {w:World} {K:Value→World→Prop}
  (h1:∀w',Grow w w'→K (.tuple #[.string (str (af_ n.toNat)),.nilIface]) w'):aa_ PR F.dg_ ⟨[.int .i64 n]⟩ w K:=by
 refine dg_ n S0 K w ⟨λh=>by omega,λh=>⟨λh'=>by omega,λh'=>?_⟩⟩
 exact gc_ (by omega) (by omega) λw' g=>⟨_,rfl,(Fr.init _ w).after g,h1 w' g⟩
theorem qi_ {n:Int} {w:World} {K:Value→World→Prop} (hK:K (.int .i64 (turn n)) w):aa_ PR F.gq_ ⟨[.int .i64 n]⟩ w K:=by
 unfold turn at hK
 refine gq_ n S0 K w ⟨λh=>?_,λh=>⟨λh'=>?_,λh'=>⟨λh2=>?_,λh2=>?_⟩⟩⟩
 ·rw [if_pos (.inl h)] at hK;exact hK
 ·rw [if_pos (.inr h')] at hK;exact hK
 ·rw [if_neg (by omega),if_pos h2] at hK
  rw [aG_ (n:=-2*n) (by omega) (by omega),aG_ (by omega) (by omega)];exact hK
 ·rw [if_neg (by omega),if_neg h2] at hK
  rw [aG_ (by omega) (by omega)];exact hK
theorem qx_ {n:Int} {w:World} {K:Value→World→Prop} (hn:n≤9223372036854775807) (hK:K (.int .i64 (back n)) w):aa_ PR F.gr_ ⟨[.int .i64 n]⟩ w K:=by
 unfold back at hK
 refine gr_ n S0 K w ⟨λh=>?_,λh=>?_⟩
 ·rw [if_pos h] at hK;exact hK
 ·rw [if_neg h] at hK
  rw [Int.tmod_eq_emod_of_nonneg (by omega),Int.tdiv_eq_ediv_of_nonneg (by omega)]
  rw [aG_ (n:=n / 2) (by omega) (by omega),aG_ (n:=0 - n / 2) (by omega) (by omega),aG_ (n:=0 - n / 2 - 1) (by omega) (by omega)]
  refine ⟨λh2=>?_,λh2=>?_⟩
  ·rw [if_pos h2] at hK
   rw [show 0 - n / 2 - 1 = -(n / 2) - 1 by omega];exact hK
  ·rw [if_neg h2] at hK;exact hK
theorem i8_ {n:Int} (hn:pk_ n) {w:World} {K:Value→World→Prop}
  (h1:∀w',Grow w w'→K (.tuple #[.string (str (af_ (turn n).toNat)),.nilIface]) w'):aa_ PR F.cH_ ⟨[.int .i64 n]⟩ w K:=by
 obtain ⟨a,b⟩:=hn
 have t0:=oJ_ n
 have t1:=lZ_ n
 refine cH_ n S0 K w ⟨λh=>by omega,λh=>⟨λh'=>by omega,λh'=>?_⟩⟩
 exact qi_ ⟨_,rfl,.init _ w,gc_ t0 (by omega) λw' g=>⟨_,rfl,(Fr.init _ w).after g,h1 w' g⟩⟩
theorem tc_ {x y:Int} {k:Nat} (hx0:0≤x) (hx:x<2 ^ k) (hy0:0≤y) (hy:y*2 ^ k+2 ^ k≤9223372036854775808) :
  IntKind.wrap .i64 (BitVec.toNat (BitVec.ofInt (64) x ||| BitVec.ofInt (64) (IntKind.wrap .i64 (y*2 ^ k))))=x+y*2 ^ k:=by
 obtain ⟨a,rfl⟩:=Int.eq_ofNat_of_zero_le hx0
 obtain ⟨b,rfl⟩:=Int.eq_ofNat_of_zero_le hy0
 have ha:a<2 ^ k:=by
  have:((a:Nat):Int)<((2 ^ k:Nat):Int):=by simpa using hx
  omega
 have hz:0≤(b:Int)*2 ^ k:=Int.mul_nonneg (by omega) (Int.pow_nonneg (by decide))
 have hk0:(0:Int)<2 ^ k:=Int.pow_pos (by decide)
 have e:((b:Int)*2 ^ k)=((b*2 ^ k:Nat):Int):=by simp
 rw [aG_ (n:=(b:Int)*2 ^ k) (by omega) (by omega),e]
 rw [e] at hy
 have hp:((2 ^ k:Nat):Int)=2 ^ k:=by simp
 show IntKind.wrap .i64 ((BitVec.ofInt 64 (a:Int) ||| BitVec.ofInt 64 ((b*2 ^ k:Nat):Int)).toNat:Int)=_
 rw [BitVec.toNat_or,dI_ (n:=(a:Int)) (by omega) (by omega),dI_ (n:=((b*2 ^ k:Nat):Int)) (by omega) (by omega),Int.toNat_natCast,Int.toNat_natCast,Nat.or_comm,Nat.mul_comm b,
  ← Nat.two_pow_add_eq_or_of_lt (by omega) b]
 rw [Nat.mul_comm b] at hy
 rw [aG_ (by omega) (by omega)]
 simp;omega
theorem low7 (n:Nat) (h:n<256):IntKind.wrap .i64 (IntKind.wrap .u8 (BitVec.toNat (BitVec.ofInt (8) (n:Int) &&& BitVec.ofInt (8) 127)))=((n%128:Nat):Int):=by
 show IntKind.wrap .i64 (IntKind.wrap .u8 ((BitVec.ofInt 8 (n:Int) &&& BitVec.ofInt 8 127).toNat:Int))=_
 have e1:(BitVec.ofInt 8 (n:Int) &&& BitVec.ofInt 8 127).toNat=n%128:=by
  rw [BitVec.toNat_and]
  have:(BitVec.ofInt 8 127).toNat=2 ^ 7 - 1:=by decide
  rw [this,Nat.and_two_pow_sub_one_eq_mod]
  have:(BitVec.ofInt 8 (n:Int)).toNat=n:=by simp;omega
  rw [this]
 rw [e1,wrap_u8,aG_ (by omega) (by omega)]
 omega
theorem p6_ (s:ByteArray) (i:Nat):aX_ s i<256:=by unfold aX_;exact UInt8.toNat_lt _
theorem mG_ {s:ByteArray} {i:Nat} (h:i<s.size):s.data.toList[i]? = some (UInt8.ofNat (aX_ s i)):=by
 have hd:i<s.data.size:=h
 simp only [aX_,Array.getD,dif_pos hd,Array.getElem?_toList]
 rw [Array.getElem?_eq_getElem hd]
 simp
def okAt (s:ByteArray) (n:Int):Prop:=0≤n∧n≤s.size
def jZ_ (s:ByteArray) (at_:Int):Nat × Nat ⊕ Nat→Value
 | .inl (x,k)=>.tuple #[.int .i64 x,.int .i64 (at_+k),.nilIface]
 | .inr 3=>.tuple #[.int .i64 0,.int .i64 at_,F s.size (E 3)]
 | .inr c=>.tuple #[.int .i64 0,.int .i64 at_,F at_ (E c)]
theorem jI_ {s:ByteArray} {at_:Int} {w:World} {K:Value→World→Prop} (hs:s.size≤4611686018427387904)
  (h1:¬okAt s at_→K (.tuple #[.int .i64 0,.int .i64 at_,F at_ (E 1)]) w)
  (h2:okAt s at_→K (jZ_ s at_ (a2_ 0 0 (s.data.toList.drop at_.toNat))) w) :
  aa_ PR F.dJ_ ⟨[.string s,.int .i64 at_]⟩ w K:=by
 refine dJ_ s at_ S0 K w ?_
 refine nB_ (λha=>?_) (λha=>?_)
 ·refine ⟨true,rfl,λ_=>⟨.init _ w,?_⟩,λh=>by cases h⟩
  have ha':okAt s at_:=ha
  obtain ⟨a0,a1⟩:=ha
  have h2:=h2 ha'
  rw [aG_ (n:=(s.size:Int) - at_) (by omega) (by omega)]
  refine ⟨λx i m w'=>w'=w∧0≤i∧i≤7∧i≤s.size - at_∧m=(s.size - at_ - i).toNat∧0≤x∧x<128 ^ i.toNat∧
   a2_ 0 0 (s.data.toList.drop at_.toNat)=a2_ i.toNat x.toNat (s.data.toList.drop (at_+i).toNat),⟨_,rfl,by omega,by omega,by omega,rfl,by omega,by simp,by simp⟩,?_⟩
  rintro x i D m w' ⟨rfl,hi0,hi7,hi1,rfl,hx0,hx,hg⟩ hF
  rw [hg] at h2
  refine ⟨λhlt=>?_,λhge=>?_⟩
  ·rw [aG_ (n:=at_+i) (by omega) (by omega),aG_ (n:=7*i) (by omega) (by omega)]
   have hb:=p6_ s (at_+i).toNat
   have hl:(at_+i).toNat<s.size:=by omega
   have hd:s.data.toList.drop (at_+i).toNat=UInt8.ofNat (aX_ s (at_+i).toNat) :: s.data.toList.drop (at_+(i+1)).toNat:=by
    have h:=mG_ hl
    have hlen:(at_+i).toNat<s.data.toList.length:=by rw [dL_];exact hl
    rw [List.drop_eq_getElem_cons hlen]
    rw [List.getElem?_eq_getElem hlen] at h
    rw [Option.some.inj h]
    congr 2
    omega
   rw [hd] at h2 hg
   generalize hc:aX_ s (at_+i).toNat=c at hb h2 hg ⊢
   have e3:(UInt8.ofNat c).toNat=c:=UInt8.toNat_ofNat_of_lt hb
   simp only [a2_,e3] at h2 hg
   have hmin:min (Int.toNat (7*i)) 64=7*i.toNat:=by show min (Int.toNat (7*i)) 64=_;omega
   have hpow:(2:Int) ^ (7*i.toNat)=((128 ^ i.toNat:Nat):Int):=by rw [Int.pow_mul];simp
   have hple:128 ^ i.toNat≤562949953421312:=by
    have:128 ^ i.toNat≤128 ^ 7:=Nat.pow_le_pow_right (by omega) (by omega)
    simpa using this
   have hxn:x<((128 ^ i.toNat:Nat):Int):=by simpa using hx
   have hm:c%128*128 ^ i.toNat≤127*128 ^ i.toNat:=Nat.mul_le_mul_right _ (by omega)
   have hor:IntKind.wrap .i64 (BitVec.toNat (BitVec.ofInt 64 x ||| BitVec.ofInt 64 (IntKind.wrap .i64 (IntKind.wrap .i64 (IntKind.wrap .u8 (BitVec.toNat (BitVec.ofInt 8 (c:Int) &&& BitVec.ofInt 8 127)))*2 ^ (min (Int.toNat (7*i)) 64))))) =
     ((x.toNat+c%128*128 ^ i.toNat:Nat):Int):=by
    rw [low7 c hb,hmin,tc_ hx0 (by rw [hpow];exact hxn) (by omega) ?_,hpow]
    ·simp;omega
    ·rw [hpow]
     have:((c%128:Nat):Int)*((128 ^ i.toNat:Nat):Int)=((c%128*128 ^ i.toNat:Nat):Int):=by simp
     rw [this];omega
   rw [hor]
   refine ⟨by omega,by omega,by omega,λhge=>?_,λhlt'=>?_⟩
   ·rw [if_pos (by omega)] at h2 hg
    refine ⟨λhi=>?_,λhi=>⟨λ_=>?_,λh=>absurd hge h⟩⟩
    ·rw [if_pos (by omega)] at h2
     exact eH_ rfl ⟨_,rfl,.init _ _,h2⟩
    ·rw [if_neg (by omega)] at hg
     refine ⟨_,?_,rfl,by rw [aG_ (n:=i+1) (by omega) (by omega)];omega,by rw [aG_ (n:=i+1) (by omega) (by omega)];omega,by rw [aG_ (n:=i+1) (by omega) (by omega)];omega,rfl,by omega,?_,?_⟩
     all_goals rw [aG_ (n:=i+1) (by omega) (by omega)]
     ·omega
     ·have e1:(i+1).toNat=i.toNat+1:=by omega
      rw [e1,Int.pow_succ]
      have:((128 ^ i.toNat:Nat):Int)=128 ^ i.toNat:=by simp
      rw [← this];omega
     ·have e1:(i+1).toNat=i.toNat+1:=by omega
      rw [e1,Int.toNat_natCast];exact hg
   ·rw [if_neg (by omega)] at h2
    refine ⟨λh=>absurd h hlt',λ_=>⟨λh0=>⟨λhi=>?_,λhi=>?_⟩,λh0=>?_⟩⟩
    ·rw [if_pos ⟨by omega,by omega⟩] at h2
     exact eH_ rfl ⟨_,rfl,.init _ _,h2⟩
    all_goals
     rw [if_neg (by omega)] at h2
     rw [aG_ (n:=at_+i+1) (by omega) (by omega)]
     have e4:at_+i+1=at_+((i.toNat+1:Nat):Int):=by omega
     rw [e4]
     exact h2
  ·have e:at_+i=s.size:=by omega
   have hnil:s.data.toList.drop (at_+i).toNat=[]:=by
    rw [List.drop_eq_nil_iff,e,dL_];omega
   rw [hnil] at h2
   exact eH_ rfl ⟨_,rfl,.init _ _,h2⟩
 ·exact ⟨false,rfl,λh=>by (cases h),λ_=>⟨.init _ w,eH_ rfl ⟨_,rfl,.init _ w,h1 ha⟩⟩⟩
theorem mJ_ {s:ByteArray} {at_:Int} {w:World} {K:Value→World→Prop} (hs:s.size≤4611686018427387904) (ha:okAt s at_)
  (h1:∀n k,a2_ 0 0 (s.data.toList.drop at_.toNat)=.inl (n,k)→K (.tuple #[.int .i64 (back n),.int .i64 (at_+k),.nilIface]) w)
  (h2:∀c,a2_ 0 0 (s.data.toList.drop at_.toNat)=.inr c→∀v t x,v=.iface t x→K (.tuple #[.int .i64 0,.int .i64 at_,v]) w) :
  aa_ PR F.c3_ ⟨[.string s,.int .i64 at_]⟩ w K:=by
 refine c3_ s at_ S0 K w ?_
 refine jI_ hs (λh=>absurd ha h) λ_=>?_
 cases hg:a2_ 0 0 (s.data.toList.drop at_.toNat) with
 | inr c=>
  have e:∃v t x,jZ_ s at_ (.inr c)=.tuple #[.int .i64 0,.int .i64 at_,v]∧v=.iface t x:=by
   unfold jZ_;split
   ·rename_i h;cases h
   ·exact ⟨_,_,_,rfl,rfl⟩
   ·exact ⟨_,_,_,rfl,rfl⟩
  obtain ⟨v,t,x,e,hv⟩:=e
  rw [e]
  exact ⟨_,_,_,rfl,.init _ w,λh=>by (rw [hv] at h;cases h),λt' x' h=>h2 c hg v t x hv,.inr ⟨t,x,hv⟩⟩
 | inl r=>
  obtain ⟨n,k⟩:=r
  have hb:=in_ _ 0 0 (by omega) (by simp) hg
  have h8:(128:Nat) ^ 8=72057594037927936:=by decide
  refine ⟨n,at_+k,.nilIface,rfl,.init _ w,λ_=>?_,(λt x h=>by cases h),.inl rfl⟩
  exact qx_ (by omega) ⟨_,rfl,.init _ w,h1 n k hg⟩
end Go.Vc
namespace Go.Vc
open Go
section
variable {S:Nat→Prop} {w0 wp w:World} {M:List Nat} {L:List Blk}
theorem Fr.mod {b:Nat} {cs cs':Array Value} {T:TypeId} (h:Fr S w0 wp M (⟨b,cs,T,true⟩ :: L) w) {w':World} {S':Nat→Prop} (g:Chg S' w w') (hb:w'.heap[b]? = some (.cells cs' T (0,0)))
  (hn:∀x,x∈L→¬S' x.b) (hs:∀k,k<w0.heap.size→S' k→S k):Fs S w0 (⟨b,cs',T,true⟩ :: L) w':=
 ⟨h.chg.trans g hs,.refl _ _,λx hx=>by
  rcases List.mem_cons.1 hx with rfl | hx
  ·exact hb
  ·exact g.get (h.loc x (List.mem_cons_of_mem _ hx)) (hn x hx),h.nodup,λx hx hw=>by
  rcases List.mem_cons.1 hx with rfl | hx
  ·exact h.new (⟨b,cs,T,true⟩:Blk) List.mem_cons_self hw
  ·exact h.new x (List.mem_cons_of_mem _ hx) hw⟩
theorem Fr.mod1 {b:Nat} {cs cs':Array Value} {T:TypeId} (h:Fr S w0 wp M (⟨b,cs,T,true⟩ :: L) w) {w':World} (g:Chg (· = b) w w') (hb:w'.heap[b]? = some (.cells cs' T (0,0))):Fs S w0 (⟨b,cs',T,true⟩ :: L) w':=
 h.mod g hb (λx hx e=>by
  have:=h.nodup
  rw [List.map_cons,List.nodup_cons] at this
  exact this.1 (List.mem_map.2 ⟨x,hx,e⟩)) λk hk e=>by
  have e':k=b:=e
  rcases h.new _ List.mem_cons_self rfl with h1 | h1
  ·rw [e'];exact h1
  ·simp only [] at h1;omega
theorem Fr.app2 (h:Fr S w0 wp M L w) {w':World} {q:Option Addr} (g:Chg (am_ q) w w') (m n:Nat) (ho:Off (λk=>k<m) q) (hq:∀a,q=some a→a.block<n) (hL:∀x,x∈L→x.b<m∨n≤x.b) (hm:w0.heap.size≤m):Fs S w0 L w':=
 h.step g (λx hx ⟨a,ha,e⟩=>by
  have h1:=hq a ha;have h2:¬a.block<m:=ho a ha;have h3:=hL x hx;omega) λk hk ⟨a,ha,e⟩=>by
  have h2:¬a.block<m:=ho a ha
  omega
end
theorem Off.mono {n m:Nat} {q:Option Addr} (h:Off (λk=>k<m) q) (hm:n≤m):Off (λk=>k<n) q:=λa ha hlt=>h a ha (Nat.lt_of_lt_of_le hlt hm)
theorem Off.le {m:Nat} {q:Option Addr} (h:Off (λk=>k<m) q):∀a,q=some a→m≤a.block:=λa ha=>Nat.le_of_not_lt (h a ha)
def iv (n:Int):Value:=.int .i64 n
theorem oG_:PR.underlying T.bq_=some (.slice T.int):=by kernel_rfl
theorem f2_ {w:World} {q q2:Option Addr} {l c l2 c2:Nat} {xs ys:List Int} {K:Value→World→Prop}
  (ho:Own T.int 1 w q c (xs.map iv)) (hl:l=xs.length) (hlc:l≤c) (hs:Sl w q2 (ys.map iv)) (hl2:l2=ys.length) (hroom:l+l2≤4398046511104)
  (hK:∀q' c' w',Own T.int 1 w' q' c' ((xs++ys).map iv)→l+l2≤c'→Chg (am_ q) w w'→(∀a,q'=some a→q=some a∨a=⟨w.heap.size,0,none⟩)→K (.slice q' (l+l2) c') w') :
  rn PR (Builtin.append_ #[T.bq_,T.bq_] T.bq_ #[.slice q l c,.slice q2 l2 c2]) K w:=
 app1 oG_ qL_ rfl (by decide) ho (by simp [hl]) hlc hs (by simp [hl2]) (λy hy=>by obtain ⟨b,_,rfl⟩:=List.mem_map.1 hy;rfl) (by omega) λq' c' w' h=>hK q' c' w' (by simpa using h)
theorem gw_ {l:List Int} {k:Nat} (h:k<l.length):(l.map iv)[k]? = some (iv (l.getD k 0)):=by simp [h]
theorem kr_ {l:List Int} {k:Nat} (h:k<l.length):l.getD k 0=l[k]:=by simp [h]
theorem w64 {n:Int} (h0 : -9223372036854775808≤n) (h1:n≤9223372036854775807):IntKind.wrap .i64 n=n:=aG_ h0 h1
theorem wrP {k:Nat} (h:0<k) (h':k<9223372036854775807):IntKind.wrap .i64 ((k:Int) - 1)=((k - 1:Nat):Int):=by
 rw [aG_ (by omega) (by omega)];omega
end Go.Vc
namespace Go.Vc
open Go
section
variable {P:Program}
theorem eV_ {ts xt t e:TypeId} {i:TypeInfo} {z:Value} (hu:P.underlying ts=some (.slice e)) (hx:P.underlying xt=some (.slice e)) (hi:P.info? e=some i) (hz:i.zero=some z)
  (hzs:z.cells.size=i.size) (hby:i.bytes≠0) {w:World} {q q2:Option Addr} {l c l2 c2:Nat} {xs ys:List Value} {K:Value→World→Prop}
  (ho:Own e i.size w q c xs) (hl:xs.length=l*i.size) (hlc:l≤c) (hs:Sl w q2 ys) (hl2:ys.length=l2*i.size) (hone:∀y,y∈ys→oneC y=true)
  (hroom:(2*(l+l2)+1024)*i.bytes≤281474976710656)
  (hK:∀q' c' w',Own e i.size w' q' c' (xs++ys)→l+l2≤c'→Chg (am_ q) w w'→(∀a,q'=some a→q=some a∨a=⟨w.heap.size,0,Option.none⟩)→(c<l+l2∨ys=[]→Grow w w')→
   K (.slice q' (l+l2) c') w') :
  sv P (Builtin.append_ #[ts,xt] t ⟨[.slice q l c,.slice q2 l2 c2]⟩) K w:=by
 have ld:∀(w:World) (q:Option Addr) (n c:Nat) (xs:List Value) (K:Array Value→World→Prop),Sl w q xs→xs.length=n*i.size→K xs.toArray w→sv P (Builtin.firstCells i.size n (.slice q n c)) K w:=by
  intro w q n c xs K h hl hK
  rcases h with rfl | ⟨b,o,rfl,h⟩
  ·cases q with
   | none=>exact hK
   | some a=>
    have:n*i.size=0:=by simpa using hl.symm
    simp only [Builtin.firstCells,this]
    exact hK
  ·simp only [Builtin.firstCells]
   exact b9_ (by omega) h hK
 unfold Builtin.append_
 simp only [List.getElem?_toArray,List.getElem?_cons_zero,List.getElem?_cons_succ,aH_,ao_ hu,ao_ hx,b8_ hi,a3_,Bool.false_eq_true,if_false,Builtin.lenOf,
  jd_,bS_ hi,b7_ hi hz,Bool.not_false,if_true,false_or]
 have ld2:=λ(w:World) (K:Array Value→World→Prop) (h:Sl w q2 ys)=>ld w q2 l2 c2 ys K h hl2
 by_cases hin:l+l2≤c
 ·rw [if_pos hin]
  refine ld2 _ _ hs ?_
  rcases ho with ⟨rfl,rfl,rfl⟩ | ⟨b,o,cs,rfl,hb,h1,h1',h2,h3⟩
  ·have:l2=0:=by omega
   subst this
   have:ys=[]:=by simpa using hl2
   subst this
   have:l=0:=by omega
   subst this
   exact hK none 0 w (.nil _ _ _) (by omega) (.refl _ _) (λa h=>by cases h) (λ_=>.refl _ _)
  ·have hle:(l+l2)*i.size≤c*i.size:=Nat.mul_le_mul_right _ hin
   rw [Nat.add_mul] at hle
   simp only [aH_,a3_,au_]
   by_cases hy:ys=[]
   ·subst hy
    have hl20:l2*i.size=0:=by simpa using hl2.symm
    exact hK _ c w (.inr ⟨b,o,cs,rfl,hb,by omega,h1',by simpa using h2,λj hj=>by simpa using h3 j (by simpa using hj)⟩) hin (.refl _ _) (λa h=>.inl h) (λ_=>.refl _ _)
   refine bH_ (o:=o+l*i.size) ys 0 cs w hb (by omega) hone λw' cs' hb' hs' hout hin' hsz g=>?_
   refine hK _ c w' (.inr ⟨b,o,cs',rfl,hb',by omega,h1',by simp;omega,λj hj=>?_⟩) hin (g.mono λk _ h=>⟨_,rfl,h⟩) (λa h=>.inl h) (λh=>by rcases h with h | h;omega;exact absurd h hy)
   simp only [List.length_append] at hj
   by_cases hjl:j<xs.length
   ·rw [hout (o+j) (by omega),h3 j hjl,List.getElem?_append_left hjl]
   ·have:=hin' (j - xs.length) (by omega)
    rw [show o+l*i.size+0+(j - xs.length)=o+j by omega] at this
    rw [this,List.getElem?_append_right (by omega)]
 ·rw [if_neg hin]
  have hcap:=gs_ (n:=l+l2) (c:=c) (by omega)
  have hb1:¬Builtin.nextslicecap (l+l2) c*i.bytes>2 ^ 48:=by
   have h1:Builtin.nextslicecap (l+l2) c*i.bytes≤(2*(l+l2)+1024)*i.bytes:=Nat.mul_le_mul_right _ hcap
   omega
  rw [if_neg (λh=>hby h.2),if_neg hb1,hF_]
  unfold ChV
  rw [if_neg (by simp [Question.forced])]
  simp only [eA_]
  have hcut:l+l2≤(Question.appendCap (l+l2) c e).cut (w.tape w.drawn (Question.appendCap (l+l2) c e)):=by
   simp only [Question.cut];omega
  have hsmall:l+l2≤9223372036854775807:=by
   have h1:(2*(l+l2)+1024)*1≤(2*(l+l2)+1024)*i.bytes:=Nat.mul_le_mul_left _ (by omega)
   omega
  have hcut2:(Question.appendCap (l+l2) c e).cut (w.tape w.drawn (Question.appendCap (l+l2) c e))≤9223372036854775807:=by
   simp only [Question.cut]
   have:w.tape w.drawn (Question.appendCap (l+l2) c e)%(2 ^ 63 - (l+l2))<2 ^ 63 - (l+l2):=Nat.mod_lt _ (by omega)
   omega
  generalize (Question.appendCap (l+l2) c e).cut (w.tape w.drawn (Question.appendCap (l+l2) c e))=n at hcut hcut2 ⊢
  refine ld _ _ _ _ xs _ (ho.sl.grow (Chg.drew w)) hl ?_
  refine ld2 _ _ (hs.grow (Chg.drew w)) ?_
  unfold newRow
  rw [aH_,fA_]
  refine newV λb w1 hb hb1 hs1 g1=>?_
  rw [a3_]
  have hb':b=w.heap.size:=hb
  have hlt:¬b<w.heap.size:=by omega
  refine hK (some ⟨b,0,none⟩) n w1 (.inr ⟨b,0,_,rfl,hb1,?_,hcut2,?_,λj hj=>?_⟩) hcut ((Chg.drew w).trans g1).chg ?_ ?_
  ·simp only [Array.size_append,c9_,hzs,List.size_toArray,hl,hl2,Nat.zero_add]
   rw [← Nat.add_mul,← Nat.add_mul]
   congr 1;omega
  ·simp only [List.length_append,hl,hl2,← Nat.add_mul]
   exact Nat.mul_le_mul_right _ hcut
  ·simp only [Nat.zero_add]
   rw [Array.getElem?_append_left (by simpa using hj)]
   simp
  ·rintro a h;cases h;rw [hb'];exact .inr rfl
  ·intro _;exact (Chg.drew w).trans g1
end
end Go.Vc
namespace Go.Vc
open Go
theorem nX_ (u0:Value) (k1:Nat) (m2:Int) (S:SP) (K:KP) (w:World) (hF:Fs S w [⟨k1,#[.int .i64 m2],3,false⟩] w) (h:(oneC u0:Bool)=true∧∀w0,Fr S w w [] [⟨k1,#[Iv m2],3,false⟩] w0→K (.tuple #[.string ⟨#[]⟩,Iv m2,.iface 214 (.agg #[Iv m2,u0])]) w0):aa_ PR 176 ⟨[u0,.pointer (some ⟨k1,0,none⟩)]⟩ w K:=
 ab_ (okf:=⟨okL,[]⟩) ag_ (args:=[.c (.v u0),.c (.p 0 k1 true 0)]) (H:=[⟨k1,.l [.v (.int .i64 m2)],3,false⟩]) (.s .z (.s (.r ⟨(some [1]),false,[],[]⟩) .z)) Go.Proofs.Tryz.func176 rfl ⟨trivial,rfl,trivial⟩ ⟨⟨trivial,trivial⟩,trivial⟩ hF trivial (ad_ (by kernel_rfl) h)
theorem i4_ (k0:Nat) (m1:Int) (t2:Bool) (z3:ByteArray) (y4:Option Addr) (ly4:Nat) (cy4:Nat) (z5:ByteArray) (y6:Option Addr) (ly6:Nat) (cy6:Nat) (y7:Option Addr) (ly7:Nat) (cy7:Nat) (S:SP) (K:KP) (w:World) (hF:Fs S w [⟨k0,#[.int .i64 m1,.bool t2,.string z3,.slice y4 ly4 cy4,.string z5,.slice y6 ly6 cy6,.slice y7 ly7 cy7],119,true⟩] w) (hS:S k0∧True) (h:(t2=true→K (.iface 39 (Iv 8)) w)∧(t2=false→K .nilIface w)):aa_ PR 135 ⟨[.pointer (some ⟨k0,0,none⟩)]⟩ w K:=
 ab_ (okf:=⟨okL,[]⟩) ag_ (args:=[.c (.p 0 k0 true 0)]) (H:=[⟨k0,.l [.v (.int .i64 m1),.v (.bool t2),.v (.string z3),.v (.slice y4 ly4 cy4),.v (.string z5),.v (.slice y6 ly6 cy6),.v (.slice y7 ly7 cy7)],119,true⟩]) .z Go.Proofs.Tryz.func135 rfl ⟨rfl,trivial⟩ ⟨⟨trivial,⟨trivial,⟨trivial,⟨trivial,⟨trivial,⟨trivial,⟨trivial,trivial⟩⟩⟩⟩⟩⟩⟩,trivial⟩ hF hS (ad_ (by kernel_rfl) h)
theorem i3_ (k0:Nat) (m1:Int) (t2:Bool) (z3:ByteArray) (y4:Option Addr) (ly4:Nat) (cy4:Nat) (z5:ByteArray) (y6:Option Addr) (ly6:Nat) (cy6:Nat) (y7:Option Addr) (ly7:Nat) (cy7:Nat) (m8:Int) (z9:ByteArray) (S:SP) (K:KP) (w:World) (hF:Fs S w [⟨k0,#[.int .i64 m1,.bool t2,.string z3,.slice y4 ly4 cy4,.string z5,.slice y6 ly6 cy6,.slice y7 ly7 cy7],119,true⟩] w) (hS:S k0∧True) (h:∀l0,w.heap.size≤l0→∀w0,Fr S w w [] [⟨k0,#[Iv m1,.bool t2,.string z3,.slice y4 ly4 cy4,.string z5,.slice y6 ly6 cy6,.slice y7 ly7 cy7],119,true⟩,⟨l0,#[Iv m8,.string z9],156,true⟩] w0→let B0:Blk:=⟨l0,#[Iv m8,.string z9],156,true⟩;aa_ PR 137 #[.pointer (some (⟨k0,0,none⟩))] w0 λv0 w1=>∃v1,v0=v1∧∃n0 b0 s0 q0 l1 l2 s1 q1 l3 l4 q2 l5 l6,Fs S w [⟨k0,#[Iv n0,.bool b0,.string s0,.slice q0 l1 l2,.string s1,.slice q1 l3 l4,.slice q2 l5 l6],119,true⟩,B0] w1∧let B1:Blk:=⟨k0,#[Iv n0,.bool b0,.string s0,.slice q0 l1 l2,.string s1,.slice q1 l3 l4,.slice q2 l5 l6],119,true⟩;(v1=.nilIface→(m8=(-1)→(z9=⟨#[]⟩→K .nilIface w1)∧(¬(z9=⟨#[]⟩)→∀w2,Fr S w w1 [] [B1,B0] w2→∃I0:World→Prop,I0 w2∧aa_ PR 72 #[.pointer (some (⟨k0,2,none⟩)),.agg #[Iv m8,.string z9]] w2 λv2 w3=>v2=.tuple #[]∧∃n1 b1 s2 q3 l7 l8 s3 q4 l9 l10 q5 l11 l12,Fs S w [⟨k0,#[Iv n1,.bool b1,.string s2,.slice q3 l7 l8,.string s3,.slice q4 l9 l10,.slice q5 l11 l12],119,true⟩,B0] w3∧let B2:Blk:=⟨k0,#[Iv n1,.bool b1,.string s2,.slice q3 l7 l8,.string s3,.slice q4 l9 l10,.slice q5 l11 l12],119,true⟩;∀w4,Fr S w w3 [] [B2,B0] w4→∃I1:World→Prop,I1 w4∧Dr (some (⟨k0,6,none⟩)) λa0=>∃q6 l13 l14,(∀w5,I1 w5→World.cell? w5 a0=some (.slice q6 l13 l14))∧∀l15,w4.heap.size≤l15→∀w6,Fr S w w4 [] [B2,B0,⟨l15,#[Iv m8,.string z9],156,true⟩] w6→I1 w6∧rn PR (Builtin.append_ #[117,117] 117 #[.slice q6 l13 l14,.slice (some (⟨l15,0,none⟩)) 1 1]) (λv3 w7=>∃q7 l16 l17,v3=.slice q7 l16 l17∧Fs S w [B2,B0,⟨l15,#[Iv m8,.string z9],156,true⟩] w7∧I1 w7∧∀w8,Fr S w w7 [k0] [⟨k0,#[Iv n1,.bool b1,.string s2,.slice q3 l7 l8,.string s3,.slice q4 l9 l10,.slice q7 l16 l17],119,true⟩] w8→K .nilIface w8) w6))∧(¬(m8=(-1))→∀w9,Fr S w w1 [] [B1,B0] w9→∃I2:World→Prop,I2 w9∧aa_ PR 72 #[.pointer (some (⟨k0,2,none⟩)),.agg #[Iv m8,.string z9]] w9 λv4 w10=>v4=.tuple #[]∧∃n2 b2 s4 q8 l18 l19 s5 q9 l20 l21 q10 l22 l23,Fs S w [⟨k0,#[Iv n2,.bool b2,.string s4,.slice q8 l18 l19,.string s5,.slice q9 l20 l21,.slice q10 l22 l23],119,true⟩,B0] w10∧let B3:Blk:=⟨k0,#[Iv n2,.bool b2,.string s4,.slice q8 l18 l19,.string s5,.slice q9 l20 l21,.slice q10 l22 l23],119,true⟩;∀w11,Fr S w w10 [] [B3,B0] w11→∃I3:World→Prop,I3 w11∧Dr (some (⟨k0,6,none⟩)) λa1=>∃q11 l24 l25,(∀w12,I3 w12→World.cell? w12 a1=some (.slice q11 l24 l25))∧∀l26,w11.heap.size≤l26→∀w13,Fr S w w11 [] [B3,B0,⟨l26,#[Iv m8,.string z9],156,true⟩] w13→I3 w13∧rn PR (Builtin.append_ #[117,117] 117 #[.slice q11 l24 l25,.slice (some (⟨l26,0,none⟩)) 1 1]) (λv5 w14=>∃q12 l27 l28,v5=.slice q12 l27 l28∧Fs S w [B3,B0,⟨l26,#[Iv m8,.string z9],156,true⟩] w14∧I3 w14∧∀w15,Fr S w w14 [k0] [⟨k0,#[Iv n2,.bool b2,.string s4,.slice q8 l18 l19,.string s5,.slice q9 l20 l21,.slice q12 l27 l28],119,true⟩] w15→K .nilIface w15) w13))∧(∀x0 v6,v1=.iface x0 v6→K v1 w1)∧(v1=.nilIface∨∃l29 v7,v1=.iface l29 v7)):aa_ PR 123 ⟨[.pointer (some ⟨k0,0,none⟩),.agg #[.int .i64 m8,.string z9]]⟩ w K:=
 ab_ (okf:=⟨okL,[]⟩) ag_ (args:=[.c (.p 0 k0 true 0),.a [.v (.int .i64 m8),.v (.string z9)]]) (H:=[⟨k0,.l [.v (.int .i64 m1),.v (.bool t2),.v (.string z3),.v (.slice y4 ly4 cy4),.v (.string z5),.v (.slice y6 ly6 cy6),.v (.slice y7 ly7 cy7)],119,true⟩]) (.s (.r ⟨(some [0]),true,[],[]⟩) (.s (.s (.r ⟨(some [0,3]),true,[],[(3,[999])]⟩) .z) (.s (.s .z (.c (.s (.r ⟨(some [0,3]),true,[0],[(4,[999])]⟩) (.r ⟨(some [0,3]),true,[0],[]⟩)) .z)) .z))) Go.Proofs.Tryz.func123 rfl ⟨rfl,⟨trivial,trivial,trivial⟩,trivial⟩ ⟨⟨trivial,⟨trivial,⟨trivial,⟨trivial,⟨trivial,⟨trivial,⟨trivial,trivial⟩⟩⟩⟩⟩⟩⟩,trivial⟩ hF hS (ad_ (by kernel_rfl) h)
theorem he_ (k0:Nat) (m1:Int) (t2:Bool) (z3:ByteArray) (y4:Option Addr) (ly4:Nat) (cy4:Nat) (z5:ByteArray) (y6:Option Addr) (ly6:Nat) (cy6:Nat) (y7:Option Addr) (ly7:Nat) (cy7:Nat) (z8:ByteArray) (S:SP) (K:KP) (w:World) (hF:Fs S w [⟨k0,#[.int .i64 m1,.bool t2,.string z3,.slice y4 ly4 cy4,.string z5,.slice y6 ly6 cy6,.slice y7 ly7 cy7],119,true⟩] w) (hS:S k0∧True) (h:aa_ PR 135 #[.pointer (some (⟨k0,0,none⟩))] w λv0 w0=>∃v1,v0=v1∧Fs S w [⟨k0,#[Iv m1,.bool t2,.string z3,.slice y4 ly4 cy4,.string z5,.slice y6 ly6 cy6,.slice y7 ly7 cy7],119,true⟩] w0∧(v1=.nilIface→aa_ PR 123 #[.pointer (some (⟨k0,0,none⟩)),.agg #[Iv (-1),.string z8]] w0 λv2 w1=>∃v3,v2=v3∧∃n0 b0 s0 q0 l0 l1 s1 q1 l2 l3 q2 l4 l5,Fs S w [⟨k0,#[Iv n0,.bool b0,.string s0,.slice q0 l0 l1,.string s1,.slice q1 l2 l3,.slice q2 l4 l5],119,true⟩] w1∧K v3 w1)∧(∀x0 v4,v1=.iface x0 v4→K v1 w0)∧(v1=.nilIface∨∃l6 v5,v1=.iface l6 v5)):aa_ PR 105 ⟨[.pointer (some ⟨k0,0,none⟩),.string z8]⟩ w K:=
 ab_ (okf:=⟨okL,[]⟩) ag_ (args:=[.c (.p 0 k0 true 0),.c (.v (.string z8))]) (H:=[⟨k0,.l [.v (.int .i64 m1),.v (.bool t2),.v (.string z3),.v (.slice y4 ly4 cy4),.v (.string z5),.v (.slice y6 ly6 cy6),.v (.slice y7 ly7 cy7)],119,true⟩]) (.s .z (.s (.s (.r ⟨(some [0]),false,[],[]⟩) .z) (.s (.r ⟨(some [0]),false,[],[(3,[999])]⟩) .z))) Go.Proofs.Tryz.func105 rfl ⟨rfl,trivial,trivial⟩ ⟨⟨trivial,⟨trivial,⟨trivial,⟨trivial,⟨trivial,⟨trivial,⟨trivial,trivial⟩⟩⟩⟩⟩⟩⟩,trivial⟩ hF hS (ad_ (by kernel_rfl) h)
theorem kB_ (k0:Nat) (m1:Int) (t2:Bool) (z3:ByteArray) (y4:Option Addr) (ly4:Nat) (cy4:Nat) (z5:ByteArray) (y6:Option Addr) (ly6:Nat) (cy6:Nat) (y7:Option Addr) (ly7:Nat) (cy7:Nat) (S:SP) (K:KP) (w:World) (hF:Fs S w [⟨k0,#[.int .i64 m1,.bool t2,.string z3,.slice y4 ly4 cy4,.string z5,.slice y6 ly6 cy6,.slice y7 ly7 cy7],119,true⟩] w) (hS:S k0∧True) (h:aa_ PR 135 #[.pointer (some (⟨k0,0,none⟩))] w λv0 w0=>∃v1,v0=v1∧Fs S w [⟨k0,#[Iv m1,.bool t2,.string z3,.slice y4 ly4 cy4,.string z5,.slice y6 ly6 cy6,.slice y7 ly7 cy7],119,true⟩] w0∧(v1=.nilIface→K (.tuple #[.string z3,.nilIface]) w0)∧(∀x0 v2,v1=.iface x0 v2→K (.tuple #[.string ⟨#[]⟩,v1]) w0)∧(v1=.nilIface∨∃l0 v3,v1=.iface l0 v3)):aa_ PR 80 ⟨[.pointer (some ⟨k0,0,none⟩)]⟩ w K:=
 ab_ (okf:=⟨okL,[]⟩) ag_ (args:=[.c (.p 0 k0 true 0)]) (H:=[⟨k0,.l [.v (.int .i64 m1),.v (.bool t2),.v (.string z3),.v (.slice y4 ly4 cy4),.v (.string z5),.v (.slice y6 ly6 cy6),.v (.slice y7 ly7 cy7)],119,true⟩]) (.s .z (.s (.s (.r ⟨(some [0]),false,[],[]⟩) .z) .z)) Go.Proofs.Tryz.func80 rfl ⟨rfl,trivial⟩ ⟨⟨trivial,⟨trivial,⟨trivial,⟨trivial,⟨trivial,⟨trivial,⟨trivial,trivial⟩⟩⟩⟩⟩⟩⟩,trivial⟩ hF hS (ad_ (by kernel_rfl) h)
theorem iB_ (k0:Nat) (m1:Int) (t2:Bool) (z3:ByteArray) (y4:Option Addr) (ly4:Nat) (cy4:Nat) (z5:ByteArray) (y6:Option Addr) (ly6:Nat) (cy6:Nat) (y7:Option Addr) (ly7:Nat) (cy7:Nat) (S:SP) (K:KP) (w:World) (hF:Fs S w [⟨k0,#[.int .i64 m1,.bool t2,.string z3,.slice y4 ly4 cy4,.string z5,.slice y6 ly6 cy6,.slice y7 ly7 cy7],119,true⟩] w) (hS:S k0∧True) (h:K (Iv (ly7:Int)) w):aa_ PR 83 ⟨[.pointer (some ⟨k0,0,none⟩)]⟩ w K:=
 ab_ (okf:=⟨okL,[]⟩) ag_ (args:=[.c (.p 0 k0 true 0)]) (H:=[⟨k0,.l [.v (.int .i64 m1),.v (.bool t2),.v (.string z3),.v (.slice y4 ly4 cy4),.v (.string z5),.v (.slice y6 ly6 cy6),.v (.slice y7 ly7 cy7)],119,true⟩]) .z Go.Proofs.Tryz.func83 rfl ⟨rfl,trivial⟩ ⟨⟨trivial,⟨trivial,⟨trivial,⟨trivial,⟨trivial,⟨trivial,⟨trivial,trivial⟩⟩⟩⟩⟩⟩⟩,trivial⟩ hF hS (ad_ (by kernel_rfl) h)
theorem fk_ (k0:Nat) (p1:Option Addr) (y2:Option Addr) (ly2:Nat) (cy2:Nat) (m3:Int) (y4:Option Addr) (ly4:Nat) (cy4:Nat) (S:SP) (K:KP) (w:World) (hF:Fs S w [⟨k0,#[.pointer p1,.slice y2 ly2 cy2,.int .i64 m3],152,true⟩] w) (hS:S k0∧True) (h:∃I0:ByteArray→Int→Nat→World→Prop,(∃l0,I0 ⟨#[]⟩ 0 l0 w)∧∀s0 n0,∀D0:Nat→Value,∀l1 w0,I0 s0 n0 l1 w0→Fs S w [⟨k0,#[.pointer p1,.slice y2 ly2 cy2,Iv m3],152,true⟩] w0→let B0:Blk:=⟨k0,#[.pointer p1,.slice y2 ly2 cy2,Iv m3],152,true⟩;(n0<(ly4:Int)→Dr y4 λa0=>(0:Int)≤n0∧n0<(ly4:Int)∧Dr (some (Addr.add a0 (Int.toNat n0*1))) λa1=>∃s1,World.cell? w0 a1=some (.string s1)∧aa_ PR 104 #[.string s1] w0 λv0 w1=>∃s2 v1,v0=.tuple #[.string s2,v1]∧Fs S w [B0] w1∧(v1=.nilIface→((ByteArray.size s0+(ByteArray.size s2)):Nat)≤9223372036854775807∧∃l2,l2<l1∧I0 (s0++s2) (IntKind.wrap .i64 (n0+1)) l2 w1)∧(∀x0 v2,v1=.iface x0 v2→K v1 w1)∧(v1=.nilIface∨∃l3 v3,v1=.iface l3 v3))∧(¬(n0<(ly4:Int))→aa_ PR 105 #[.pointer p1,.string s0] w0 λv4 w2=>∃v5,v4=v5∧Fs S w [B0] w2∧(v5=.nilIface→rn PR (Builtin.append_ #[45,45] 45 #[.slice y2 ly2 cy2,.slice y4 ly4 cy4]) (λv6 w3=>∃q0 l4 l5,v6=.slice q0 l4 l5∧Fs S w [B0] w3∧∀w4,Fr S w w3 [k0,k0] [⟨k0,#[.pointer p1,.slice q0 l4 l5,Iv (IntKind.wrap .i64 (m3+((ByteArray.size s0:Nat):Int)))],152,true⟩] w4→K .nilIface w4) w2)∧(∀x1 v7,v5=.iface x1 v7→K v5 w2)∧(v5=.nilIface∨∃l6 v8,v5=.iface l6 v8))):aa_ PR 48 ⟨[.pointer (some ⟨k0,0,none⟩),.slice y4 ly4 cy4]⟩ w K:=
 ab_ (okf:=⟨okL,[]⟩) ag_ (args:=[.c (.p 0 k0 true 0),.c (.v (.slice y4 ly4 cy4))]) (H:=[⟨k0,.l [.v (.pointer p1),.v (.slice y2 ly2 cy2),.v (.int .i64 m3)],152,true⟩]) (.s .z (.s .z (.s .z (.s (.s .z (.b (.l (some [0]) (some [0]) [(5,.c (.str)),(16,.c (.int .i64))] [] (.s .z (.s .z (.s (.b (.s .z (.s (.r ⟨(some [0]),false,[],[]⟩) .z))) .z)))))) (.s (.s (.r ⟨(some [0]),false,[],[(5,[999])]⟩) .z) (.s (.r ⟨(some [0]),false,[],[]⟩) (.s (.r ⟨(some [0]),false,[],[]⟩) .z))))))) Go.Proofs.Tryz.func48 rfl ⟨rfl,trivial,trivial⟩ ⟨⟨trivial,⟨trivial,⟨trivial,trivial⟩⟩⟩,trivial⟩ hF hS (ad_ (by kernel_rfl) h)
theorem fl_ (k0:Nat) (p1:Option Addr) (y2:Option Addr) (ly2:Nat) (cy2:Nat) (m3:Int) (S:SP) (K:KP) (w:World) (hF:Fs S w [⟨k0,#[.pointer p1,.slice y2 ly2 cy2,.int .i64 m3],152,true⟩] w) (hS:S k0∧True) (h:aa_ PR 85 #[.slice y2 ly2 cy2] w λv0 w0=>∃q0 l0 l1,v0=.slice q0 l0 l1∧Fs S w [⟨k0,#[.pointer p1,.slice y2 ly2 cy2,Iv m3],152,true⟩] w0∧K (.slice q0 l0 l1) w0):aa_ PR 39 ⟨[.pointer (some ⟨k0,0,none⟩)]⟩ w K:=
 ab_ (okf:=⟨okL,[]⟩) ag_ (args:=[.c (.p 0 k0 true 0)]) (H:=[⟨k0,.l [.v (.pointer p1),.v (.slice y2 ly2 cy2),.v (.int .i64 m3)],152,true⟩]) (.s .z (.s .z (.s (.r ⟨(some [0]),false,[],[]⟩) .z))) Go.Proofs.Tryz.func39 rfl ⟨rfl,trivial⟩ ⟨⟨trivial,⟨trivial,⟨trivial,trivial⟩⟩⟩,trivial⟩ hF hS (ad_ (by kernel_rfl) h)
theorem g8_ (k0:Nat) (y1:Option Addr) (ly1:Nat) (cy1:Nat) (g2:Option Nat) (m3:Int) (m4:Int) (S:SP) (K:KP) (w:World) (hF:Fs S w [⟨k0,#[.slice y1 ly1 cy1,.map g2],145,true⟩] w) (hS:S k0∧True) (h:∀l0,w.heap.size≤l0→(m4=1→∀w0,Fr S w w [] [⟨k0,#[.slice y1 ly1 cy1,.map g2],145,true⟩,⟨l0,#[Iv m3,Iv m4],147,true⟩] w0→∃I0:World→Prop,I0 w0∧Dr y1 λa0=>(0:Int)≤m3∧m3<(ly1:Int)∧Dr (some (Addr.add a0 (Int.toNat m3*1))) λa1=>∃s0,(∀w1,I0 w1→World.cell? w1 a1=some (.string s0))∧∀w2,Fr S w w0 [] [⟨k0,#[.slice y1 ly1 cy1,.map g2],145,true⟩,⟨l0,#[Iv m3,Iv m4],147,true⟩] w2→∃I1:World→Prop,I1 w2∧rn PR (Instr.mapUpdate 143 (.map g2) (.agg #[Iv m3,Iv m4]) (.string s0)) (λx0 w3=>Fs S w [⟨k0,#[.slice y1 ly1 cy1,.map g2],145,true⟩,⟨l0,#[Iv m3,Iv m4],147,true⟩] w3∧K (.string s0) w3) w2)∧(¬(m4=1)→∀w4,Fr S w w [] [⟨k0,#[.slice y1 ly1 cy1,.map g2],145,true⟩,⟨l0,#[Iv m3,Iv m4],147,true⟩] w4→let B0:Blk:=⟨l0,#[Iv m3,Iv m4],147,true⟩;aa_ PR 64 #[Iv m4] w4 λv0 w5=>∃n0,v0=Iv n0∧Fs S w [⟨k0,#[.slice y1 ly1 cy1,.map g2],145,true⟩,B0] w5∧∀w6,Fr S w w5 [] [⟨k0,#[.slice y1 ly1 cy1,.map g2],145,true⟩,B0] w6→∃I2:World→Prop,I2 w6∧aa_ PR 116 #[.pointer (some (⟨k0,0,none⟩)),.agg #[Iv m3,Iv n0]] w6 λv1 w7=>∃s1,v1=.string s1∧∃q0 l1 l2 q1,Fs S w [⟨k0,#[.slice q0 l1 l2,.map q1],145,true⟩,B0] w7∧I2 w7∧aa_ PR 116 #[.pointer (some (⟨k0,0,none⟩)),.agg #[Iv (IntKind.wrap .i64 (m3+n0)),Iv (IntKind.wrap .i64 (m4 - n0))]] w7 λv2 w8=>∃s2,v2=.string s2∧∃q2 l3 l4 q3,Fs S w [⟨k0,#[.slice q2 l3 l4,.map q3],145,true⟩,B0] w8∧let B1:Blk:=⟨k0,#[.slice q2 l3 l4,.map q3],145,true⟩;I2 w8∧aa_ PR 156 #[.string s1,.string s2] w8 λv3 w9=>∃s3,v3=.string s3∧Fs S w [B1,B0] w9∧I2 w9∧∀w10,Fr S w w9 [] [B1,B0] w10→∃I3:World→Prop,I3 w10∧rn PR (Instr.mapUpdate 143 (.map q3) (.agg #[Iv m3,Iv m4]) (.string s3)) (λx1 w11=>Fs S w [B1,B0] w11∧K (.string s3) w11) w10)):aa_ PR 116 ⟨[.pointer (some ⟨k0,0,none⟩),.agg #[.int .i64 m3,.int .i64 m4]]⟩ w K:=
 ab_ (okf:=⟨okL,[]⟩) ag_ (args:=[.c (.p 0 k0 true 0),.a [.v (.int .i64 m3),.v (.int .i64 m4)]]) (H:=[⟨k0,.l [.v (.slice y1 ly1 cy1),.v (.map g2)],145,true⟩]) (.s (.r ⟨(some [0]),true,[],[]⟩) (.s .z (.s (.s .z (.b (.s .z (.c (.r ⟨(some [0,3]),true,[],[]⟩) (.s (.r ⟨(some [0,3]),true,[],[]⟩) (.r ⟨(some [0,3]),true,[0],[(5,[999]),(16,[999])]⟩)))))) (.s (.r ⟨(some [0,3,5]),true,[],[]⟩) .z)))) Go.Proofs.Tryz.func116 rfl ⟨rfl,⟨trivial,trivial,trivial⟩,trivial⟩ ⟨⟨trivial,⟨trivial,trivial⟩⟩,trivial⟩ hF hS (ad_ (by kernel_rfl) h)
theorem g9_ (k0:Nat) (y1:Option Addr) (ly1:Nat) (cy1:Nat) (g2:Option Nat) (S:SP) (K:KP) (w:World) (hF:Fs S w [⟨k0,#[.slice y1 ly1 cy1,.map g2],145,true⟩] w) (hS:S k0∧True) (h:((ly1:Int)=0→∀l0,w.heap.size≤l0→∀w0,Fr S w w [] [⟨k0,#[.slice y1 ly1 cy1,.map g2],145,true⟩,⟨l0,#[.string ⟨#[2]⟩],9,true⟩] w0→aa_ PR 121 #[.slice (some (⟨l0,0,none⟩)) 1 1] w0 λv0 w1=>∃s0,v0=.string s0∧Fs S w [⟨k0,#[.slice y1 ly1 cy1,.map g2],145,true⟩,⟨l0,#[.string ⟨#[2]⟩],9,true⟩] w1∧K (.string s0) w1)∧(¬((ly1:Int)=0)→∀w2,Fr S w w [] [⟨k0,#[.slice y1 ly1 cy1,.map g2],145,true⟩] w2→rn PR (Instr.lookup 143 (.map g2) (.agg #[Iv 0,Iv (ly1:Int)]) false) (λv1 w3=>∃s1,v1=.string s1∧Fs S w [⟨k0,#[.slice y1 ly1 cy1,.map g2],145,true⟩] w3∧K (.string s1) w3) w2)):aa_ PR 134 ⟨[.pointer (some ⟨k0,0,none⟩)]⟩ w K:=
 ab_ (okf:=⟨okL,[]⟩) ag_ (args:=[.c (.p 0 k0 true 0)]) (H:=[⟨k0,.l [.v (.slice y1 ly1 cy1),.v (.map g2)],145,true⟩]) (.s .z (.s (.b (.s .z (.c .z (.s .z (.c (.s (.r ⟨(some []),false,[],[]⟩) .z) .z))))) (.s (.r ⟨(some [0]),false,[],[]⟩) .z))) Go.Proofs.Tryz.func134 rfl ⟨rfl,trivial⟩ ⟨⟨trivial,⟨trivial,trivial⟩⟩,trivial⟩ hF hS (ad_ (by kernel_rfl) h)
theorem hR_ (k0:Nat) (m1:Int) (m2:Int) (m3:Int) (m4:Int) (m5:Int) (m6:Int) (m7:Int) (m8:Int) (p9:Option Addr) (y10:Option Addr) (ly10:Nat) (cy10:Nat) (m11:Int) (y12:Option Addr) (ly12:Nat) (cy12:Nat) (S:SP) (K:KP) (w:World) (hF:Fs S w [⟨k0,#[.int .u32 m1,.int .u32 m2,.int .u32 m3,.int .u32 m4,.int .u32 m5,.int .u32 m6,.int .u32 m7,.int .u32 m8,.pointer p9,.slice y10 ly10 cy10,.int .i64 m11],312,true⟩] w) (hS:S k0∧True) (h:∃I0:Int→Int→Int→Int→Int→Int→Int→Int→Int→(Option Addr)→(Option Addr)→Nat→Nat→Int→Nat→World→Prop,(∃l0,I0 0 m1 m2 m3 m4 m5 m6 m7 m8 p9 y10 ly10 cy10 m11 l0 w)∧∀n0 n1 n2 n3 n4 n5 n6 n7 n8 q0 q1 l1 l2 n9,∀D0:Nat→Value,∀l3 w0,I0 n0 n1 n2 n3 n4 n5 n6 n7 n8 q0 q1 l1 l2 n9 l3 w0→Fs S w [⟨k0,#[Uv n1,Uv n2,Uv n3,Uv n4,Uv n5,Uv n6,Uv n7,Uv n8,.pointer q0,.slice q1 l1 l2,Iv n9],312,true⟩] w0→(n0<(ly12:Int)→Dr y12 λa0=>(0:Int)≤n0∧n0<(ly12:Int)∧Dr (some (Addr.add a0 (Int.toNat n0*1))) λa1=>∃s0,World.cell? w0 a1=some (.string s0)∧(∀w1,Fr S w w0 [k0] [⟨k0,#[Uv n1,Uv n2,Uv n3,Uv n4,Uv n5,Uv n6,Uv n7,Uv n8,.pointer q0,.slice q1 l1 l2,Iv (IntKind.wrap .i64 (n9+((ByteArray.size s0:Nat):Int)))],312,true⟩] w1→let B0:Blk:=⟨k0,#[Uv n1,Uv n2,Uv n3,Uv n4,Uv n5,Uv n6,Uv n7,Uv n8,.pointer q0,.slice q1 l1 l2,Iv (IntKind.wrap .i64 (n9+((ByteArray.size s0:Nat):Int)))],312,true⟩;rn PR (Builtin.append_ #[157,9] 157 #[.slice q1 l1 l2,.string s0]) (λv0 w2=>∃q2 l4 l5,v0=.slice q2 l4 l5∧Fs S w [B0] w2∧aa_ PR 196 #[.agg #[Uv n1,Uv n2,Uv n3,Uv n4,Uv n5,Uv n6,Uv n7,Uv n8],.pointer q0,.slice q2 l4 l5] w2 (λv1 w3=>∃n10 n11 n12 n13 n14 n15 n16 n17 q3 l6 l7,v1=.tuple #[.agg #[Uv n10,Uv n11,Uv n12,Uv n13,Uv n14,Uv n15,Uv n16,Uv n17],.slice q3 l6 l7]∧Fs S w [B0] w3∧∀l8,w3.heap.size≤l8→(∀w4,Fr S w w3 [l8] [B0,⟨l8,#[Uv n10,Uv n11,Uv n12,Uv n13,Uv n14,Uv n15,Uv n16,Uv n17],308,true⟩] w4→rn PR (Instr.makeSlice 157 (Iv (l6:Int)) (Iv (l6:Int))) (λv2 w5=>∃q4 l9 l10,v2=.slice q4 l9 l10∧Fs S w [B0,⟨l8,#[Uv n10,Uv n11,Uv n12,Uv n13,Uv n14,Uv n15,Uv n16,Uv n17],308,true⟩] w5∧∀w6,Fr S w w5 [k0,k0] [⟨k0,#[Uv n10,Uv n11,Uv n12,Uv n13,Uv n14,Uv n15,Uv n16,Uv n17,.pointer q0,.slice q4 l9 l10,Iv (IntKind.wrap .i64 (n9+((ByteArray.size s0:Nat):Int)))],312,true⟩] w6→rn PR (Builtin.copy_ #[157,157] 3 #[.slice q4 l9 l10,.slice q3 l6 l7]) (λv3 w7=>∃n18,v3=Iv n18∧Fs S w [⟨k0,#[Uv n10,Uv n11,Uv n12,Uv n13,Uv n14,Uv n15,Uv n16,Uv n17,.pointer q0,.slice q4 l9 l10,Iv (IntKind.wrap .i64 (n9+((ByteArray.size s0:Nat):Int)))],312,true⟩] w7∧∃l11,l11<l3∧I0 (IntKind.wrap .i64 (n0+1)) n10 n11 n12 n13 n14 n15 n16 n17 q0 q4 l9 l10 (IntKind.wrap .i64 (n9+((ByteArray.size s0:Nat):Int))) l11 w7) w6) w4)∧∀w8,Fr S w w3 [k0,l8] [⟨k0,#[Uv n10,Uv n11,Uv n12,Uv n13,Uv n14,Uv n15,Uv n16,Uv n17,.pointer q0,.slice q1 l1 l2,Iv (IntKind.wrap .i64 (n9+((ByteArray.size s0:Nat):Int)))],312,true⟩,⟨l8,#[Uv n10,Uv n11,Uv n12,Uv n13,Uv n14,Uv n15,Uv n16,Uv n17],308,true⟩] w8→rn PR (Instr.makeSlice 157 (Iv (l6:Int)) (Iv (l6:Int))) (λv4 w9=>∃q5 l12 l13,v4=.slice q5 l12 l13∧Fs S w [⟨k0,#[Uv n10,Uv n11,Uv n12,Uv n13,Uv n14,Uv n15,Uv n16,Uv n17,.pointer q0,.slice q1 l1 l2,Iv (IntKind.wrap .i64 (n9+((ByteArray.size s0:Nat):Int)))],312,true⟩,⟨l8,#[Uv n10,Uv n11,Uv n12,Uv n13,Uv n14,Uv n15,Uv n16,Uv n17],308,true⟩] w9∧∀w10,Fr S w w9 [k0] [⟨k0,#[Uv n10,Uv n11,Uv n12,Uv n13,Uv n14,Uv n15,Uv n16,Uv n17,.pointer q0,.slice q5 l12 l13,Iv (IntKind.wrap .i64 (n9+((ByteArray.size s0:Nat):Int)))],312,true⟩] w10→rn PR (Builtin.copy_ #[157,157] 3 #[.slice q5 l12 l13,.slice q3 l6 l7]) (λv5 w11=>∃n19,v5=Iv n19∧Fs S w [⟨k0,#[Uv n10,Uv n11,Uv n12,Uv n13,Uv n14,Uv n15,Uv n16,Uv n17,.pointer q0,.slice q5 l12 l13,Iv (IntKind.wrap .i64 (n9+((ByteArray.size s0:Nat):Int)))],312,true⟩] w11∧∃l14,l14<l3∧I0 (IntKind.wrap .i64 (n0+1)) n10 n11 n12 n13 n14 n15 n16 n17 q0 q5 l12 l13 (IntKind.wrap .i64 (n9+((ByteArray.size s0:Nat):Int))) l14 w11) w10) w8)∧∀l15,w2.heap.size≤l15→∀w12,Fr S w w2 [] [B0,⟨l15,#[Uv 0,Uv 0,Uv 0,Uv 0,Uv 0,Uv 0,Uv 0,Uv 0],308,true⟩] w12→aa_ PR 196 #[.agg #[Uv n1,Uv n2,Uv n3,Uv n4,Uv n5,Uv n6,Uv n7,Uv n8],.pointer q0,.slice q2 l4 l5] w12 λv6 w13=>∃n20 n21 n22 n23 n24 n25 n26 n27 q6 l16 l17,v6=.tuple #[.agg #[Uv n20,Uv n21,Uv n22,Uv n23,Uv n24,Uv n25,Uv n26,Uv n27],.slice q6 l16 l17]∧Fs S w [B0,⟨l15,#[Uv 0,Uv 0,Uv 0,Uv 0,Uv 0,Uv 0,Uv 0,Uv 0],308,true⟩] w13∧(∀w14,Fr S w w13 [l15] [B0,⟨l15,#[Uv n20,Uv n21,Uv n22,Uv n23,Uv n24,Uv n25,Uv n26,Uv n27],308,true⟩] w14→rn PR (Instr.makeSlice 157 (Iv (l16:Int)) (Iv (l16:Int))) (λv7 w15=>∃q7 l18 l19,v7=.slice q7 l18 l19∧Fs S w [B0,⟨l15,#[Uv n20,Uv n21,Uv n22,Uv n23,Uv n24,Uv n25,Uv n26,Uv n27],308,true⟩] w15∧∀w16,Fr S w w15 [k0,k0] [⟨k0,#[Uv n20,Uv n21,Uv n22,Uv n23,Uv n24,Uv n25,Uv n26,Uv n27,.pointer q0,.slice q7 l18 l19,Iv (IntKind.wrap .i64 (n9+((ByteArray.size s0:Nat):Int)))],312,true⟩] w16→rn PR (Builtin.copy_ #[157,157] 3 #[.slice q7 l18 l19,.slice q6 l16 l17]) (λv8 w17=>∃n28,v8=Iv n28∧Fs S w [⟨k0,#[Uv n20,Uv n21,Uv n22,Uv n23,Uv n24,Uv n25,Uv n26,Uv n27,.pointer q0,.slice q7 l18 l19,Iv (IntKind.wrap .i64 (n9+((ByteArray.size s0:Nat):Int)))],312,true⟩] w17∧∃l20,l20<l3∧I0 (IntKind.wrap .i64 (n0+1)) n20 n21 n22 n23 n24 n25 n26 n27 q0 q7 l18 l19 (IntKind.wrap .i64 (n9+((ByteArray.size s0:Nat):Int))) l20 w17) w16) w14)∧∀w18,Fr S w w13 [k0,l15] [⟨k0,#[Uv n20,Uv n21,Uv n22,Uv n23,Uv n24,Uv n25,Uv n26,Uv n27,.pointer q0,.slice q1 l1 l2,Iv (IntKind.wrap .i64 (n9+((ByteArray.size s0:Nat):Int)))],312,true⟩,⟨l15,#[Uv n20,Uv n21,Uv n22,Uv n23,Uv n24,Uv n25,Uv n26,Uv n27],308,true⟩] w18→rn PR (Instr.makeSlice 157 (Iv (l16:Int)) (Iv (l16:Int))) (λv9 w19=>∃q8 l21 l22,v9=.slice q8 l21 l22∧Fs S w [⟨k0,#[Uv n20,Uv n21,Uv n22,Uv n23,Uv n24,Uv n25,Uv n26,Uv n27,.pointer q0,.slice q1 l1 l2,Iv (IntKind.wrap .i64 (n9+((ByteArray.size s0:Nat):Int)))],312,true⟩,⟨l15,#[Uv n20,Uv n21,Uv n22,Uv n23,Uv n24,Uv n25,Uv n26,Uv n27],308,true⟩] w19∧∀w20,Fr S w w19 [k0] [⟨k0,#[Uv n20,Uv n21,Uv n22,Uv n23,Uv n24,Uv n25,Uv n26,Uv n27,.pointer q0,.slice q8 l21 l22,Iv (IntKind.wrap .i64 (n9+((ByteArray.size s0:Nat):Int)))],312,true⟩] w20→rn PR (Builtin.copy_ #[157,157] 3 #[.slice q8 l21 l22,.slice q6 l16 l17]) (λv10 w21=>∃n29,v10=Iv n29∧Fs S w [⟨k0,#[Uv n20,Uv n21,Uv n22,Uv n23,Uv n24,Uv n25,Uv n26,Uv n27,.pointer q0,.slice q8 l21 l22,Iv (IntKind.wrap .i64 (n9+((ByteArray.size s0:Nat):Int)))],312,true⟩] w21∧∃l23,l23<l3∧I0 (IntKind.wrap .i64 (n0+1)) n20 n21 n22 n23 n24 n25 n26 n27 q0 q8 l21 l22 (IntKind.wrap .i64 (n9+((ByteArray.size s0:Nat):Int))) l23 w21) w20) w18) w1)∧∀l24,w0.heap.size≤l24→∀w22,Fr S w w0 [k0] [⟨k0,#[Uv n1,Uv n2,Uv n3,Uv n4,Uv n5,Uv n6,Uv n7,Uv n8,.pointer q0,.slice q1 l1 l2,Iv (IntKind.wrap .i64 (n9+((ByteArray.size s0:Nat):Int)))],312,true⟩,⟨l24,#[Uv 0,Uv 0,Uv 0,Uv 0,Uv 0,Uv 0,Uv 0,Uv 0],308,true⟩] w22→let B1:Blk:=⟨k0,#[Uv n1,Uv n2,Uv n3,Uv n4,Uv n5,Uv n6,Uv n7,Uv n8,.pointer q0,.slice q1 l1 l2,Iv (IntKind.wrap .i64 (n9+((ByteArray.size s0:Nat):Int)))],312,true⟩;rn PR (Builtin.append_ #[157,9] 157 #[.slice q1 l1 l2,.string s0]) (λv11 w23=>∃q9 l25 l26,v11=.slice q9 l25 l26∧Fs S w [B1,⟨l24,#[Uv 0,Uv 0,Uv 0,Uv 0,Uv 0,Uv 0,Uv 0,Uv 0],308,true⟩] w23∧aa_ PR 196 #[.agg #[Uv n1,Uv n2,Uv n3,Uv n4,Uv n5,Uv n6,Uv n7,Uv n8],.pointer q0,.slice q9 l25 l26] w23 λv12 w24=>∃n30 n31 n32 n33 n34 n35 n36 n37 q10 l27 l28,v12=.tuple #[.agg #[Uv n30,Uv n31,Uv n32,Uv n33,Uv n34,Uv n35,Uv n36,Uv n37],.slice q10 l27 l28]∧Fs S w [B1,⟨l24,#[Uv 0,Uv 0,Uv 0,Uv 0,Uv 0,Uv 0,Uv 0,Uv 0],308,true⟩] w24∧(∀w25,Fr S w w24 [l24] [B1,⟨l24,#[Uv n30,Uv n31,Uv n32,Uv n33,Uv n34,Uv n35,Uv n36,Uv n37],308,true⟩] w25→rn PR (Instr.makeSlice 157 (Iv (l27:Int)) (Iv (l27:Int))) (λv13 w26=>∃q11 l29 l30,v13=.slice q11 l29 l30∧Fs S w [B1,⟨l24,#[Uv n30,Uv n31,Uv n32,Uv n33,Uv n34,Uv n35,Uv n36,Uv n37],308,true⟩] w26∧∀w27,Fr S w w26 [k0,k0] [⟨k0,#[Uv n30,Uv n31,Uv n32,Uv n33,Uv n34,Uv n35,Uv n36,Uv n37,.pointer q0,.slice q11 l29 l30,Iv (IntKind.wrap .i64 (n9+((ByteArray.size s0:Nat):Int)))],312,true⟩] w27→rn PR (Builtin.copy_ #[157,157] 3 #[.slice q11 l29 l30,.slice q10 l27 l28]) (λv14 w28=>∃n38,v14=Iv n38∧Fs S w [⟨k0,#[Uv n30,Uv n31,Uv n32,Uv n33,Uv n34,Uv n35,Uv n36,Uv n37,.pointer q0,.slice q11 l29 l30,Iv (IntKind.wrap .i64 (n9+((ByteArray.size s0:Nat):Int)))],312,true⟩] w28∧∃l31,l31<l3∧I0 (IntKind.wrap .i64 (n0+1)) n30 n31 n32 n33 n34 n35 n36 n37 q0 q11 l29 l30 (IntKind.wrap .i64 (n9+((ByteArray.size s0:Nat):Int))) l31 w28) w27) w25)∧∀w29,Fr S w w24 [k0,l24] [⟨k0,#[Uv n30,Uv n31,Uv n32,Uv n33,Uv n34,Uv n35,Uv n36,Uv n37,.pointer q0,.slice q1 l1 l2,Iv (IntKind.wrap .i64 (n9+((ByteArray.size s0:Nat):Int)))],312,true⟩,⟨l24,#[Uv n30,Uv n31,Uv n32,Uv n33,Uv n34,Uv n35,Uv n36,Uv n37],308,true⟩] w29→rn PR (Instr.makeSlice 157 (Iv (l27:Int)) (Iv (l27:Int))) (λv15 w30=>∃q12 l32 l33,v15=.slice q12 l32 l33∧Fs S w [⟨k0,#[Uv n30,Uv n31,Uv n32,Uv n33,Uv n34,Uv n35,Uv n36,Uv n37,.pointer q0,.slice q1 l1 l2,Iv (IntKind.wrap .i64 (n9+((ByteArray.size s0:Nat):Int)))],312,true⟩,⟨l24,#[Uv n30,Uv n31,Uv n32,Uv n33,Uv n34,Uv n35,Uv n36,Uv n37],308,true⟩] w30∧∀w31,Fr S w w30 [k0] [⟨k0,#[Uv n30,Uv n31,Uv n32,Uv n33,Uv n34,Uv n35,Uv n36,Uv n37,.pointer q0,.slice q12 l32 l33,Iv (IntKind.wrap .i64 (n9+((ByteArray.size s0:Nat):Int)))],312,true⟩] w31→rn PR (Builtin.copy_ #[157,157] 3 #[.slice q12 l32 l33,.slice q10 l27 l28]) (λv16 w32=>∃n39,v16=Iv n39∧Fs S w [⟨k0,#[Uv n30,Uv n31,Uv n32,Uv n33,Uv n34,Uv n35,Uv n36,Uv n37,.pointer q0,.slice q12 l32 l33,Iv (IntKind.wrap .i64 (n9+((ByteArray.size s0:Nat):Int)))],312,true⟩] w32∧∃l34,l34<l3∧I0 (IntKind.wrap .i64 (n0+1)) n30 n31 n32 n33 n34 n35 n36 n37 q0 q12 l32 l33 (IntKind.wrap .i64 (n9+((ByteArray.size s0:Nat):Int))) l34 w32) w31) w29) w22)∧(¬(n0<(ly12:Int))→K (.tuple #[]) w0)):aa_ PR 162 ⟨[.pointer (some ⟨k0,0,none⟩),.slice y12 ly12 cy12]⟩ w K:=
 ab_ (okf:=⟨okL,[]⟩) ag_ (args:=[.c (.p 0 k0 true 0),.c (.v (.slice y12 ly12 cy12))]) (H:=[⟨k0,.l [.v (.int .u32 m1),.v (.int .u32 m2),.v (.int .u32 m3),.v (.int .u32 m4),.v (.int .u32 m5),.v (.int .u32 m6),.v (.int .u32 m7),.v (.int .u32 m8),.v (.pointer p9),.v (.slice y10 ly10 cy10),.v (.int .i64 m11)],312,true⟩]) (.s .z (.s .z (.b (.l (some [0]) (some [0]) [(12,.c (.int .i64))] [0] (.s .z (.s .z (.s (.b (.s .z (.s (.r ⟨(some [0]),false,[],[]⟩) (.s (.r ⟨(some [0]),false,[],[]⟩) (.s (.r ⟨(some [0,6]),false,[0],[]⟩) (.r ⟨(some [0]),false,[],[]⟩)))))) .z))))))) Go.Proofs.Tryz.func162 rfl ⟨rfl,trivial,trivial⟩ ⟨⟨trivial,⟨trivial,⟨trivial,⟨trivial,⟨trivial,⟨trivial,⟨trivial,⟨trivial,⟨trivial,⟨trivial,⟨trivial,trivial⟩⟩⟩⟩⟩⟩⟩⟩⟩⟩⟩,trivial⟩ hF hS (ad_ (by kernel_rfl) h)
theorem j1_ (k0:Nat) (m1:Int) (m2:Int) (m3:Int) (m4:Int) (m5:Int) (m6:Int) (m7:Int) (m8:Int) (p9:Option Addr) (y10:Option Addr) (ly10:Nat) (cy10:Nat) (m11:Int) (S:SP) (K:KP) (w:World) (hF:Fs S w [⟨k0,#[.int .u32 m1,.int .u32 m2,.int .u32 m3,.int .u32 m4,.int .u32 m5,.int .u32 m6,.int .u32 m7,.int .u32 m8,.pointer p9,.slice y10 ly10 cy10,.int .i64 m11],312,true⟩] w) (hS:S k0∧True) (h:(∀w0,Fr S w w [] [⟨k0,#[Uv m1,Uv m2,Uv m3,Uv m4,Uv m5,Uv m6,Uv m7,Uv m8,.pointer p9,.slice y10 ly10 cy10,Iv m11],312,true⟩] w0→let B0:Blk:=⟨k0,#[Uv m1,Uv m2,Uv m3,Uv m4,Uv m5,Uv m6,Uv m7,Uv m8,.pointer p9,.slice y10 ly10 cy10,Iv m11],312,true⟩;aa_ PR 197 #[.slice y10 ly10 cy10,Iv m11] w0 λv0 w1=>∃q0 l0 l1,v0=.slice q0 l0 l1∧Fs S w [B0] w1∧aa_ PR 196 #[.agg #[Uv m1,Uv m2,Uv m3,Uv m4,Uv m5,Uv m6,Uv m7,Uv m8],.pointer p9,.slice q0 l0 l1] w1 (λv1 w2=>∃n0 n1 n2 n3 n4 n5 n6 n7 q1 l2 l3,v1=.tuple #[.agg #[Uv n0,Uv n1,Uv n2,Uv n3,Uv n4,Uv n5,Uv n6,Uv n7],.slice q1 l2 l3]∧Fs S w [B0] w2∧∀l4,w2.heap.size≤l4→∀w3,Fr S w w2 [l4] [B0] w3→∃I0:(Option Addr)→Nat→Nat→Int→Nat→World→Prop,(∃l5,I0 none 0 0 0 l5 w3)∧∀q2 l6 l7 n8,∀D0:Nat→Value,∀l8 w4,I0 q2 l6 l7 n8 l8 w4→Fs S w [B0] w4→(n8<8→(0:Int)≤n8∧n8<8∧∃n9,((#[Uv n0,Uv n1,Uv n2,Uv n3,Uv n4,Uv n5,Uv n6,Uv n7]:Array Value)[(Int.toNat n8*1)]? : Option Value)=some (Uv n9)∧∀l9,w4.heap.size≤l9→∀w5,Fr S w w4 [] [B0,⟨l9,#[.int .u8 (IntKind.wrap .u8 (Int.fdiv n9 16777216)),.int .u8 (IntKind.wrap .u8 (Int.fdiv n9 65536)),.int .u8 (IntKind.wrap .u8 (Int.fdiv n9 256)),.int .u8 (IntKind.wrap .u8 n9)],5,true⟩] w5→rn PR (Builtin.append_ #[157,157] 157 #[.slice q2 l6 l7,.slice (some (⟨l9,0,none⟩)) 4 4]) (λv2 w6=>∃q3 l10 l11,v2=.slice q3 l10 l11∧Fs S w [B0,⟨l9,#[.int .u8 (IntKind.wrap .u8 (Int.fdiv n9 16777216)),.int .u8 (IntKind.wrap .u8 (Int.fdiv n9 65536)),.int .u8 (IntKind.wrap .u8 (Int.fdiv n9 256)),.int .u8 (IntKind.wrap .u8 n9)],5,true⟩] w6∧∃l12,l12<l8∧I0 q3 l10 l11 (IntKind.wrap .i64 (n8+1)) l12 w6) w5)∧(¬(n8<8)→rn PR (convert 157 9 (.slice q2 l6 l7)) (λv3 w7=>∃s0,v3=.string s0∧Fs S w [B0] w7∧K (.string s0) w7) w4))∧∀l13,w1.heap.size≤l13→∀w8,Fr S w w1 [] [B0,⟨l13,#[Uv 0,Uv 0,Uv 0,Uv 0,Uv 0,Uv 0,Uv 0,Uv 0],308,true⟩] w8→aa_ PR 196 #[.agg #[Uv m1,Uv m2,Uv m3,Uv m4,Uv m5,Uv m6,Uv m7,Uv m8],.pointer p9,.slice q0 l0 l1] w8 λv4 w9=>∃n10 n11 n12 n13 n14 n15 n16 n17 q4 l14 l15,v4=.tuple #[.agg #[Uv n10,Uv n11,Uv n12,Uv n13,Uv n14,Uv n15,Uv n16,Uv n17],.slice q4 l14 l15]∧Fs S w [B0,⟨l13,#[Uv 0,Uv 0,Uv 0,Uv 0,Uv 0,Uv 0,Uv 0,Uv 0],308,true⟩] w9∧∀w10,Fr S w w9 [l13] [B0] w10→∃I1:(Option Addr)→Nat→Nat→Int→Nat→World→Prop,(∃l16,I1 none 0 0 0 l16 w10)∧∀q5 l17 l18 n18,∀D1:Nat→Value,∀l19 w11,I1 q5 l17 l18 n18 l19 w11→Fs S w [B0] w11→(n18<8→(0:Int)≤n18∧n18<8∧∃n19,((#[Uv n10,Uv n11,Uv n12,Uv n13,Uv n14,Uv n15,Uv n16,Uv n17]:Array Value)[(Int.toNat n18*1)]? : Option Value)=some (Uv n19)∧∀l20,w11.heap.size≤l20→∀w12,Fr S w w11 [] [B0,⟨l20,#[.int .u8 (IntKind.wrap .u8 (Int.fdiv n19 16777216)),.int .u8 (IntKind.wrap .u8 (Int.fdiv n19 65536)),.int .u8 (IntKind.wrap .u8 (Int.fdiv n19 256)),.int .u8 (IntKind.wrap .u8 n19)],5,true⟩] w12→rn PR (Builtin.append_ #[157,157] 157 #[.slice q5 l17 l18,.slice (some (⟨l20,0,none⟩)) 4 4]) (λv5 w13=>∃q6 l21 l22,v5=.slice q6 l21 l22∧Fs S w [B0,⟨l20,#[.int .u8 (IntKind.wrap .u8 (Int.fdiv n19 16777216)),.int .u8 (IntKind.wrap .u8 (Int.fdiv n19 65536)),.int .u8 (IntKind.wrap .u8 (Int.fdiv n19 256)),.int .u8 (IntKind.wrap .u8 n19)],5,true⟩] w13∧∃l23,l23<l19∧I1 q6 l21 l22 (IntKind.wrap .i64 (n18+1)) l23 w13) w12)∧(¬(n18<8)→rn PR (convert 157 9 (.slice q5 l17 l18)) (λv6 w14=>∃s1,v6=.string s1∧Fs S w [B0] w14∧K (.string s1) w14) w11))∧∀l24,w.heap.size≤l24→∀w15,Fr S w w [] [⟨k0,#[Uv m1,Uv m2,Uv m3,Uv m4,Uv m5,Uv m6,Uv m7,Uv m8,.pointer p9,.slice y10 ly10 cy10,Iv m11],312,true⟩,⟨l24,#[Uv 0,Uv 0,Uv 0,Uv 0,Uv 0,Uv 0,Uv 0,Uv 0],308,true⟩] w15→let B1:Blk:=⟨k0,#[Uv m1,Uv m2,Uv m3,Uv m4,Uv m5,Uv m6,Uv m7,Uv m8,.pointer p9,.slice y10 ly10 cy10,Iv m11],312,true⟩;aa_ PR 197 #[.slice y10 ly10 cy10,Iv m11] w15 λv7 w16=>∃q7 l25 l26,v7=.slice q7 l25 l26∧Fs S w [B1,⟨l24,#[Uv 0,Uv 0,Uv 0,Uv 0,Uv 0,Uv 0,Uv 0,Uv 0],308,true⟩] w16∧aa_ PR 196 #[.agg #[Uv m1,Uv m2,Uv m3,Uv m4,Uv m5,Uv m6,Uv m7,Uv m8],.pointer p9,.slice q7 l25 l26] w16 λv8 w17=>∃n20 n21 n22 n23 n24 n25 n26 n27 q8 l27 l28,v8=.tuple #[.agg #[Uv n20,Uv n21,Uv n22,Uv n23,Uv n24,Uv n25,Uv n26,Uv n27],.slice q8 l27 l28]∧Fs S w [B1,⟨l24,#[Uv 0,Uv 0,Uv 0,Uv 0,Uv 0,Uv 0,Uv 0,Uv 0],308,true⟩] w17∧∀w18,Fr S w w17 [l24] [B1] w18→∃I2:(Option Addr)→Nat→Nat→Int→Nat→World→Prop,(∃l29,I2 none 0 0 0 l29 w18)∧∀q9 l30 l31 n28,∀D2:Nat→Value,∀l32 w19,I2 q9 l30 l31 n28 l32 w19→Fs S w [B1] w19→(n28<8→(0:Int)≤n28∧n28<8∧∃n29,((#[Uv n20,Uv n21,Uv n22,Uv n23,Uv n24,Uv n25,Uv n26,Uv n27]:Array Value)[(Int.toNat n28*1)]? : Option Value)=some (Uv n29)∧∀l33,w19.heap.size≤l33→∀w20,Fr S w w19 [] [B1,⟨l33,#[.int .u8 (IntKind.wrap .u8 (Int.fdiv n29 16777216)),.int .u8 (IntKind.wrap .u8 (Int.fdiv n29 65536)),.int .u8 (IntKind.wrap .u8 (Int.fdiv n29 256)),.int .u8 (IntKind.wrap .u8 n29)],5,true⟩] w20→rn PR (Builtin.append_ #[157,157] 157 #[.slice q9 l30 l31,.slice (some (⟨l33,0,none⟩)) 4 4]) (λv9 w21=>∃q10 l34 l35,v9=.slice q10 l34 l35∧Fs S w [B1,⟨l33,#[.int .u8 (IntKind.wrap .u8 (Int.fdiv n29 16777216)),.int .u8 (IntKind.wrap .u8 (Int.fdiv n29 65536)),.int .u8 (IntKind.wrap .u8 (Int.fdiv n29 256)),.int .u8 (IntKind.wrap .u8 n29)],5,true⟩] w21∧∃l36,l36<l32∧I2 q10 l34 l35 (IntKind.wrap .i64 (n28+1)) l36 w21) w20)∧(¬(n28<8)→rn PR (convert 157 9 (.slice q9 l30 l31)) (λv10 w22=>∃s2,v10=.string s2∧Fs S w [B1] w22∧K (.string s2) w22) w19)):aa_ PR 163 ⟨[.pointer (some ⟨k0,0,none⟩)]⟩ w K:=
 ab_ (okf:=⟨okL,[]⟩) ag_ (args:=[.c (.p 0 k0 true 0)]) (H:=[⟨k0,.l [.v (.int .u32 m1),.v (.int .u32 m2),.v (.int .u32 m3),.v (.int .u32 m4),.v (.int .u32 m5),.v (.int .u32 m6),.v (.int .u32 m7),.v (.int .u32 m8),.v (.pointer p9),.v (.slice y10 ly10 cy10),.v (.int .i64 m11)],312,true⟩]) (.s .z (.s .z (.s (.r ⟨(some [0]),false,[],[]⟩) (.s .z (.s (.s .z (.b (.l (some [31]) (some [31]) [(5,.c (.sl)),(32,.c (.int .i64))] [] (.s .z (.s .z (.s (.b (.s .z (.r ⟨(some [7,31]),false,[],[]⟩))) .z)))))) (.s (.r ⟨(some []),false,[],[]⟩) .z)))))) Go.Proofs.Tryz.func163 rfl ⟨rfl,trivial⟩ ⟨⟨trivial,⟨trivial,⟨trivial,⟨trivial,⟨trivial,⟨trivial,⟨trivial,⟨trivial,⟨trivial,⟨trivial,⟨trivial,trivial⟩⟩⟩⟩⟩⟩⟩⟩⟩⟩⟩,trivial⟩ hF hS (ad_ (by kernel_rfl) h)
theorem gB_ (k0:Nat) (z1:ByteArray) (m2:Int) (m3:Int) (m4:Int) (S:SP) (K:KP) (w:World) (hF:Fs S w [⟨k0,#[.string z1,.int .i64 m2,.int .i64 m3,.int .i64 m4],324,true⟩] w) (hS:S k0∧True) (h:∀w0,Fr S w w [] [⟨k0,#[.string z1,Iv m2,Iv m3,Iv m4],324,true⟩] w0→let B0:Blk:=⟨k0,#[.string z1,Iv m2,Iv m3,Iv m4],324,true⟩;aa_ PR 141 #[.string z1,Iv m2] w0 λv0 w1=>∃n0 n1 v1,v0=.tuple #[Iv n0,Iv n1,v1]∧Fs S w [B0] w1∧(v1=.nilIface→(IntKind.wrap .i64 (n0+1)<IntKind.wrap .i64 ((0:Int) - m4)→∀w2,Fr S w w1 [] [B0] w2→aa_ PR 207 #[Iv m2,.iface 39 (Iv 4)] w2 λv2 w3=>∃v3,v2=v3∧Fs S w [B0] w3∧K v3 w3)∧(¬(IntKind.wrap .i64 (n0+1)<IntKind.wrap .i64 ((0:Int) - m4))→(IntKind.wrap .i64 (n0+1)≥IntKind.wrap .i64 (m3 - m4)→∀w4,Fr S w w1 [] [B0] w4→aa_ PR 207 #[Iv m2,.iface 39 (Iv 4)] w4 λv4 w5=>∃v5,v4=v5∧Fs S w [B0] w5∧K v5 w5)∧(¬(IntKind.wrap .i64 (n0+1)≥IntKind.wrap .i64 (m3 - m4))→∀w6,Fr S w w1 [k0,k0] [⟨k0,#[.string z1,Iv n1,Iv m3,Iv (IntKind.wrap .i64 (m4+(IntKind.wrap .i64 (n0+1))))],324,true⟩] w6→K .nilIface w6)))∧(∀x0 v6,v1=.iface x0 v6→K v1 w1)∧(v1=.nilIface∨∃l0 v7,v1=.iface l0 v7)):aa_ PR 209 ⟨[.pointer (some ⟨k0,0,none⟩),.bool false]⟩ w K:=
 ab_ (okf:=⟨okL,[]⟩) ag_ (args:=[.c (.p 0 k0 true 0),.c (.k false)]) (H:=[⟨k0,.l [.v (.string z1),.v (.int .i64 m2),.v (.int .i64 m3),.v (.int .i64 m4)],324,true⟩]) (.s .z (.s .z (.s (.b (.s .z (.c (.r ⟨(some [0]),false,[],[]⟩) (.s (.r ⟨(some [0]),false,[],[]⟩) .z)))) (.s .z (.s (.s (.r ⟨(some [0]),false,[],[]⟩) (.c (.s (.r ⟨(some [0]),false,[],[]⟩) .z) .z)) (.s (.r ⟨(some [0]),false,[],[]⟩) .z)))))) Go.Proofs.Tryz.func209 rfl ⟨rfl,trivial,trivial⟩ ⟨⟨trivial,⟨trivial,⟨trivial,⟨trivial,trivial⟩⟩⟩⟩,trivial⟩ hF hS (ad_ (by kernel_rfl) h)
theorem gA_ (k0:Nat) (z1:ByteArray) (m2:Int) (m3:Int) (m4:Int) (S:SP) (K:KP) (w:World) (hF:Fs S w [⟨k0,#[.string z1,.int .i64 m2,.int .i64 m3,.int .i64 m4],324,true⟩] w) (hS:S k0∧True) (h:∀w0,Fr S w w [] [⟨k0,#[.string z1,Iv m2,Iv m3,Iv m4],324,true⟩] w0→let B0:Blk:=⟨k0,#[.string z1,Iv m2,Iv m3,Iv m4],324,true⟩;aa_ PR 231 #[.string z1,Iv m2] w0 λv0 w1=>∃n0 n1 v1,v0=.tuple #[Iv n0,Iv n1,v1]∧Fs S w [B0] w1∧(v1=.nilIface→(n0<IntKind.wrap .i64 ((0:Int) - m4)→∀w2,Fr S w w1 [] [B0] w2→aa_ PR 207 #[Iv m2,.iface 39 (Iv 4)] w2 λv2 w3=>∃v3,v2=v3∧Fs S w [B0] w3∧K v3 w3)∧(¬(n0<IntKind.wrap .i64 ((0:Int) - m4))→(n0≥IntKind.wrap .i64 (m3 - m4)→∀w4,Fr S w w1 [] [B0] w4→aa_ PR 207 #[Iv m2,.iface 39 (Iv 4)] w4 λv4 w5=>∃v5,v4=v5∧Fs S w [B0] w5∧K v5 w5)∧(¬(n0≥IntKind.wrap .i64 (m3 - m4))→∀w6,Fr S w w1 [k0,k0] [⟨k0,#[.string z1,Iv n1,Iv m3,Iv (IntKind.wrap .i64 (m4+n0))],324,true⟩] w6→K .nilIface w6)))∧(∀x0 v6,v1=.iface x0 v6→K v1 w1)∧(v1=.nilIface∨∃l0 v7,v1=.iface l0 v7)):aa_ PR 209 ⟨[.pointer (some ⟨k0,0,none⟩),.bool true]⟩ w K:=
 ab_ (okf:=⟨okL,[]⟩) ag_ (args:=[.c (.p 0 k0 true 0),.c (.k true)]) (H:=[⟨k0,.l [.v (.string z1),.v (.int .i64 m2),.v (.int .i64 m3),.v (.int .i64 m4)],324,true⟩]) (.s .z (.s .z (.s (.b (.s .z (.c (.r ⟨(some [0]),false,[],[]⟩) (.s (.r ⟨(some [0]),false,[],[]⟩) .z)))) (.s .z (.s (.s (.r ⟨(some [0]),false,[],[]⟩) (.c (.s (.r ⟨(some [0]),false,[],[]⟩) .z) .z)) (.s (.r ⟨(some [0]),false,[],[]⟩) .z)))))) Go.Proofs.Tryz.func209 rfl ⟨rfl,trivial,trivial⟩ ⟨⟨trivial,⟨trivial,⟨trivial,⟨trivial,trivial⟩⟩⟩⟩,trivial⟩ hF hS (ad_ (by kernel_rfl) h)
theorem mB_ (k0:Nat) (y1:Option Addr) (ly1:Nat) (cy1:Nat) (y2:Option Addr) (ly2:Nat) (cy2:Nat) (m3:Int) (S:SP) (K:KP) (w:World) (hF:Fs S w [⟨k0,#[.slice y1 ly1 cy1,.slice y2 ly2 cy2],232,true⟩] w) (hS:S k0∧True) (h:(m3<0→K (.tuple #[.slice none 0 0,.iface 39 (Iv 2)]) w)∧(¬(m3<0)→aa_ PR 127 #[.pointer (some (⟨k0,0,none⟩))] w λv0 w0=>∃n0,v0=Iv n0∧Fs S w [⟨k0,#[.slice y1 ly1 cy1,.slice y2 ly2 cy2],232,true⟩] w0∧(m3≥n0→K (.tuple #[.slice none 0 0,.iface 39 (Iv 2)]) w0)∧(¬(m3≥n0)→∀w1,Fr S w w0 [] [⟨k0,#[.slice y1 ly1 cy1,.slice y2 ly2 cy2],232,true⟩] w1→∃I0:World→Prop,I0 w1∧Dr y1 λa0=>(0:Int)≤m3∧m3<(ly1:Int)∧Dr (some (Addr.add a0 (Int.toNat m3*1))) λa1=>∃n1,(∀w2,I0 w2→World.cell? w2 a1=some (Iv n1))∧Dr y1 λa2=>(0:Int)≤IntKind.wrap .i64 (m3+1)∧IntKind.wrap .i64 (m3+1)<(ly1:Int)∧Dr (some (Addr.add a2 (Int.toNat (IntKind.wrap .i64 (m3+1))*1))) λa3=>∃n2,(∀w3,I0 w3→World.cell? w3 a3=some (Iv n2))∧(0:Int)≤n2∧n2≤(cy2:Int)∧(0:Int)≤n1∧n1≤((Int.toNat n2:Nat):Int)∧K (.tuple #[.slice (if cy2=Int.toNat n1 then y2 else Option.map (λa4=>Addr.add a4 (Int.toNat n1*1)) y2) (Int.toNat n2 - (Int.toNat n1)) (cy2 - (Int.toNat n1)),.nilIface]) w1))):aa_ PR 227 ⟨[.pointer (some ⟨k0,0,none⟩),.int .i64 m3]⟩ w K:=
 ab_ (okf:=⟨okL,[]⟩) ag_ (args:=[.c (.p 0 k0 true 0),.c (.v (.int .i64 m3))]) (H:=[⟨k0,.l [.v (.slice y1 ly1 cy1),.v (.slice y2 ly2 cy2)],232,true⟩]) (.s .z (.s (.b (.s .z (.c .z (.s (.r ⟨(some [0]),true,[],[]⟩) .z)))) (.s (.r ⟨(some [0]),true,[],[]⟩) .z))) Go.Proofs.Tryz.func227 rfl ⟨rfl,trivial,trivial⟩ ⟨⟨trivial,⟨trivial,trivial⟩⟩,trivial⟩ hF hS (ad_ (by kernel_rfl) h)
theorem iG_ (k0:Nat) (y1:Option Addr) (ly1:Nat) (cy1:Nat) (y2:Option Addr) (ly2:Nat) (cy2:Nat) (m3:Int) (S:SP) (K:KP) (w:World) (hF:Fs S w [⟨k0,#[.slice y1 ly1 cy1,.slice y2 ly2 cy2],232,true⟩] w) (hS:S k0∧True) (h:aa_ PR 227 #[.pointer (some (⟨k0,0,none⟩)),Iv m3] w λv0 w0=>∃q0 l0 l1 v1,v0=.tuple #[.slice q0 l0 l1,v1]∧Fs S w [⟨k0,#[.slice y1 ly1 cy1,.slice y2 ly2 cy2],232,true⟩] w0∧aa_ PR 228 #[.slice q0 l0 l1] w0 λv2 w1=>∃q1 l2 l3,v2=.slice q1 l2 l3∧Fs S w [⟨k0,#[.slice y1 ly1 cy1,.slice y2 ly2 cy2],232,true⟩] w1∧K (.tuple #[.slice q1 l2 l3,v1]) w1):aa_ PR 203 ⟨[.pointer (some ⟨k0,0,none⟩),.int .i64 m3]⟩ w K:=
 ab_ (okf:=⟨okL,[]⟩) ag_ (args:=[.c (.p 0 k0 true 0),.c (.v (.int .i64 m3))]) (H:=[⟨k0,.l [.v (.slice y1 ly1 cy1),.v (.slice y2 ly2 cy2)],232,true⟩]) (.s .z (.s (.r ⟨(some [0]),false,[],[]⟩) (.s (.r ⟨(some []),false,[],[]⟩) .z))) Go.Proofs.Tryz.func203 rfl ⟨rfl,trivial,trivial⟩ ⟨⟨trivial,⟨trivial,trivial⟩⟩,trivial⟩ hF hS (ad_ (by kernel_rfl) h)
end Go.Vc
namespace Go.Vc
open Go
theorem da_ (k0:Nat) (p1:Option Addr) (y2:Option Addr) (ly2:Nat) (cy2:Nat) (S:SP) (K:KP) (w:World) (hF:Fs S w [⟨k0,#[.pointer p1,.slice y2 ly2 cy2],263,true⟩] w) (hS:S k0∧True) (h:(p1=none→rn PR (convert 261 186 (.pointer (some (⟨k0,0,none⟩)))) (λv0 w0=>∃v1,v0=v1∧Fs S w [⟨k0,#[.pointer p1,.slice y2 ly2 cy2],263,true⟩] w0∧rn PR ((callFunc 217 #[v1]) >>= i6_) (λv2 w1=>∃v3,v2=v3∧Fs S w [⟨k0,#[.pointer p1,.slice y2 ly2 cy2],263,true⟩] w1∧rn PR (convert 186 261 v3) (λv4 w2=>∃q0,v4=.pointer q0∧Fs S w [⟨k0,#[.pointer p1,.slice y2 ly2 cy2],263,true⟩] w2∧∀w3,Fr S w w2 [k0] [⟨k0,#[.pointer q0,.slice y2 ly2 cy2],263,true⟩] w3→K (.tuple #[]) w3) w1) w0) w)∧∀a0:Addr,p1=some a0→Dr p1 λa1=>Dr (some (⟨k0,0,none⟩)) λa2=>Addr.block a1=Addr.block a2∧(a1=a2→K (.tuple #[]) w)∧(¬(a1=a2)→False)):aa_ PR 192 ⟨[.pointer (some ⟨k0,0,none⟩)]⟩ w K:=
 ab_ (okf:=⟨okL,[]⟩) ag_ (args:=[.c (.p 0 k0 true 0)]) (H:=[⟨k0,.l [.v (.pointer p1),.v (.slice y2 ly2 cy2)],263,true⟩]) (.s .z (.c (.r ⟨(some [0]),false,[],[]⟩) .z)) Go.Proofs.Tryz.func192 rfl ⟨rfl,trivial⟩ ⟨⟨trivial,⟨trivial,trivial⟩⟩,trivial⟩ hF hS (ad_ (by kernel_rfl) h)
theorem cz_ (k0:Nat) (p1:Option Addr) (y2:Option Addr) (ly2:Nat) (cy2:Nat) (z3:ByteArray) (S:SP) (K:KP) (w:World) (hF:Fs S w [⟨k0,#[.pointer p1,.slice y2 ly2 cy2],263,true⟩] w) (hS:S k0∧True) (h:aa_ PR 192 #[.pointer (some (⟨k0,0,none⟩))] w λv0 w0=>v0=.tuple #[]∧∃q0 q1 l0 l1,Fs S w [⟨k0,#[.pointer q0,.slice q1 l0 l1],263,true⟩] w0∧rn PR (Builtin.append_ #[157,9] 157 #[.slice q1 l0 l1,.string z3]) (λv1 w1=>∃q2 l2 l3,v1=.slice q2 l2 l3∧Fs S w [⟨k0,#[.pointer q0,.slice q1 l0 l1],263,true⟩] w1∧∀w2,Fr S w w1 [k0] [⟨k0,#[.pointer q0,.slice q2 l2 l3],263,true⟩] w2→K (.tuple #[Iv ((ByteArray.size z3:Nat):Int),.nilIface]) w2) w0):aa_ PR 148 ⟨[.pointer (some ⟨k0,0,none⟩),.string z3]⟩ w K:=
 ab_ (okf:=⟨okL,[]⟩) ag_ (args:=[.c (.p 0 k0 true 0),.c (.v (.string z3))]) (H:=[⟨k0,.l [.v (.pointer p1),.v (.slice y2 ly2 cy2)],263,true⟩]) (.s .z (.s (.r ⟨(some [0]),false,[],[(1,[999])]⟩) (.s (.r ⟨(some [0]),false,[],[]⟩) .z))) Go.Proofs.Tryz.func148 rfl ⟨rfl,trivial,trivial⟩ ⟨⟨trivial,⟨trivial,trivial⟩⟩,trivial⟩ hF hS (ad_ (by kernel_rfl) h)
theorem eW_ (k0:Nat) (p1:Option Addr) (y2:Option Addr) (ly2:Nat) (cy2:Nat) (S:SP) (K:KP) (w:World) (hF:Fs S w [⟨k0,#[.pointer p1,.slice y2 ly2 cy2],263,true⟩] w) (hS:S k0∧True) (h:K (Iv (ly2:Int)) w):aa_ PR 202 ⟨[.pointer (some ⟨k0,0,none⟩)]⟩ w K:=
 ab_ (okf:=⟨okL,[]⟩) ag_ (args:=[.c (.p 0 k0 true 0)]) (H:=[⟨k0,.l [.v (.pointer p1),.v (.slice y2 ly2 cy2)],263,true⟩]) .z Go.Proofs.Tryz.func202 rfl ⟨rfl,trivial⟩ ⟨⟨trivial,⟨trivial,trivial⟩⟩,trivial⟩ hF hS (ad_ (by kernel_rfl) h)
theorem dZ_ (k0:Nat) (p1:Option Addr) (y2:Option Addr) (ly2:Nat) (cy2:Nat) (S:SP) (K:KP) (w:World) (hF:Fs S w [⟨k0,#[.pointer p1,.slice y2 ly2 cy2],263,true⟩] w) (hS:S k0∧True) (h:∀w0,Fr S w w [] [⟨k0,#[.pointer p1,.slice y2 ly2 cy2],263,true⟩] w0→rn PR (Builtin.unsafeSliceData_ #[157] 305 #[.slice y2 ly2 cy2]) (λv0 w1=>∃q0,v0=.pointer q0∧Fs S w [⟨k0,#[.pointer p1,.slice y2 ly2 cy2],263,true⟩] w1∧rn PR (Builtin.unsafeString_ #[305,3] 9 #[.pointer q0,Iv (ly2:Int)]) (λv1 w2=>∃s0,v1=.string s0∧Fs S w [⟨k0,#[.pointer p1,.slice y2 ly2 cy2],263,true⟩] w2∧K (.string s0) w2) w1) w0):aa_ PR 149 ⟨[.pointer (some ⟨k0,0,none⟩)]⟩ w K:=
 ab_ (okf:=⟨okL,[]⟩) ag_ (args:=[.c (.p 0 k0 true 0)]) (H:=[⟨k0,.l [.v (.pointer p1),.v (.slice y2 ly2 cy2)],263,true⟩]) (.s .z (.s (.r ⟨(some [0]),false,[],[]⟩) .z)) Go.Proofs.Tryz.func149 rfl ⟨rfl,trivial⟩ ⟨⟨trivial,⟨trivial,trivial⟩⟩,trivial⟩ hF hS (ad_ (by kernel_rfl) h)
theorem ca_ (y0:Option Addr) (ly0:Nat) (cy0:Nat) (S:SP) (K:KP) (w:World) (h:(y0=none→K (.slice none 0 0) w)∧∀a0:Addr,y0=some a0→∀l0,w.heap.size≤l0→∀w0,Fr S w w [] [⟨l0,#[],27,true⟩] w0→rn PR (Builtin.append_ #[28,28] 28 #[.slice (some (⟨l0,0,none⟩)) 0 0,.slice y0 ly0 cy0]) (λv0 w1=>∃q0 l1 l2,v0=.slice q0 l1 l2∧Fs S w [⟨l0,#[],27,true⟩] w1∧K (.slice q0 l1 l2) w1) w0):aa_ PR 165 ⟨[.slice y0 ly0 cy0]⟩ w K:=
 ab_ (okf:=⟨okL,[]⟩) ag_ (args:=[.c (.v (.slice y0 ly0 cy0))]) (H:=[]) (.s .z (.s .z (.s (.r ⟨(some []),false,[],[]⟩) .z))) Go.Proofs.Tryz.func165 rfl ⟨trivial,trivial⟩ trivial (Fr.init S w) trivial (ad_ (by kernel_rfl) h)
end Go.Vc
namespace Go.Vc
open Go
theorem eM_ (y0:Option Addr) (ly0:Nat) (cy0:Nat) (S:SP) (K:KP) (w:World) (h:(y0=none→K (.slice none 0 0) w)∧∀a0:Addr,y0=some a0→∀l0,w.heap.size≤l0→∀w0,Fr S w w [] [⟨l0,#[],3,true⟩] w0→rn PR (Builtin.append_ #[52,52] 52 #[.slice (some (⟨l0,0,none⟩)) 0 0,.slice y0 ly0 cy0]) (λv0 w1=>∃q0 l1 l2,v0=.slice q0 l1 l2∧Fs S w [⟨l0,#[],3,true⟩] w1∧K (.slice q0 l1 l2) w1) w0):aa_ PR 228 ⟨[.slice y0 ly0 cy0]⟩ w K:=
 ab_ (okf:=⟨okL,[]⟩) ag_ (args:=[.c (.v (.slice y0 ly0 cy0))]) (H:=[]) (.s .z (.s .z (.s (.r ⟨(some []),false,[],[]⟩) .z))) Go.Proofs.Tryz.func228 rfl ⟨trivial,trivial⟩ trivial (Fr.init S w) trivial (ad_ (by kernel_rfl) h)
theorem cU_ (y0:Option Addr) (ly0:Nat) (cy0:Nat) (S:SP) (K:KP) (w:World) (h:(y0=none→K (.slice none 0 0) w)∧∀a0:Addr,y0=some a0→∀l0,w.heap.size≤l0→∀w0,Fr S w w [] [⟨l0,#[],9,true⟩] w0→rn PR (Builtin.append_ #[45,45] 45 #[.slice (some (⟨l0,0,none⟩)) 0 0,.slice y0 ly0 cy0]) (λv0 w1=>∃q0 l1 l2,v0=.slice q0 l1 l2∧Fs S w [⟨l0,#[],9,true⟩] w1∧K (.slice q0 l1 l2) w1) w0):aa_ PR 85 ⟨[.slice y0 ly0 cy0]⟩ w K:=
 ab_ (okf:=⟨okL,[]⟩) ag_ (args:=[.c (.v (.slice y0 ly0 cy0))]) (H:=[]) (.s .z (.s .z (.s (.r ⟨(some []),false,[],[]⟩) .z))) Go.Proofs.Tryz.func85 rfl ⟨trivial,trivial⟩ trivial (Fr.init S w) trivial (ad_ (by kernel_rfl) h)
theorem kG_ (k0:Nat) (y1:Option Addr) (ly1:Nat) (cy1:Nat) (y2:Option Addr) (ly2:Nat) (cy2:Nat) (S:SP) (K:KP) (w:World) (hF:Fs S w [⟨k0,#[.slice y1 ly1 cy1,.slice y2 ly2 cy2],232,true⟩] w) (hS:S k0∧True) (h:K (Iv (IntKind.wrap .i64 ((ly1:Int) - 1))) w):aa_ PR 127 ⟨[.pointer (some ⟨k0,0,none⟩)]⟩ w K:=
 ab_ (okf:=⟨okL,[]⟩) ag_ (args:=[.c (.p 0 k0 true 0)]) (H:=[⟨k0,.l [.v (.slice y1 ly1 cy1),.v (.slice y2 ly2 cy2)],232,true⟩]) .z Go.Proofs.Tryz.func127 rfl ⟨rfl,trivial⟩ ⟨⟨trivial,⟨trivial,trivial⟩⟩,trivial⟩ hF hS (ad_ (by kernel_rfl) h)
theorem kH_ (k0:Nat) (y1:Option Addr) (ly1:Nat) (cy1:Nat) (y2:Option Addr) (ly2:Nat) (cy2:Nat) (S:SP) (K:KP) (w:World) (hF:Fs S w [⟨k0,#[.slice y1 ly1 cy1,.slice y2 ly2 cy2],232,true⟩] w) (hS:S k0∧True) (h:K (Iv (ly2:Int)) w):aa_ PR 78 ⟨[.pointer (some ⟨k0,0,none⟩)]⟩ w K:=
 ab_ (okf:=⟨okL,[]⟩) ag_ (args:=[.c (.p 0 k0 true 0)]) (H:=[⟨k0,.l [.v (.slice y1 ly1 cy1),.v (.slice y2 ly2 cy2)],232,true⟩]) .z Go.Proofs.Tryz.func78 rfl ⟨rfl,trivial⟩ ⟨⟨trivial,⟨trivial,trivial⟩⟩,trivial⟩ hF hS (ad_ (by kernel_rfl) h)
end Go.Vc
