/-
  A part of the proof of the statement HeadAgainCardSaid, in Lean: Nm, Lb3, Lb4, Ty, Oct, Gap, Oc1, Oc2, Fm, Lb5. By an AI agent.
-/
import Derived.Test.YtoopcoeonbkedaaGreatDoorP02
import Derived.Test.YtoopcoeonbkedaaGreatDoorP01
import Derived.Laws.BitsLemmas
import Derived.Test.YtoopcoeonbkedaaGreatDoorP03
set_option linter.unusedVariables false
set_option linter.unusedSimpArgs false
set_option maxRecDepth 100000
namespace Go.Vc
open Go
abbrev F.bk_:Nat:=4
abbrev F.b5_:Nat:=5
abbrev F.b4_:Nat:=6
abbrev F.kC_:Nat:=7
abbrev F.cW_:Nat:=8
abbrev F.bC_:Nat:=9
abbrev F.cm_:Nat:=10
abbrev F.cn_:Nat:=11
abbrev F.gY_:Nat:=13
abbrev F.dS_:Nat:=14
abbrev F.a__:Nat:=16
abbrev F.ge_:Nat:=17
abbrev F.eL_:Nat:=18
abbrev F.ko_:Nat:=20
abbrev F.bv_:Nat:=21
abbrev F.dT_:Nat:=22
abbrev F.iW_:Nat:=23
abbrev F.e2_:Nat:=24
abbrev F.iX_:Nat:=25
abbrev F.fy_:Nat:=26
abbrev F.hX_:Nat:=27
abbrev F.rM_:Nat:=28
abbrev F.b6_:Nat:=29
abbrev F.sa_:Nat:=30
abbrev F.dR_:Nat:=31
abbrev F.gX_:Nat:=33
abbrev F.gc_:Nat:=34
abbrev F.iZ_:Nat:=35
abbrev F.ip_:Nat:=36
abbrev F.g2_:Nat:=37
abbrev F.g1_:Nat:=38
abbrev F.gZ_:Nat:=39
abbrev F.fE_:Nat:=40
abbrev F.mQ_:Nat:=41
abbrev F.ca_:Nat:=42
abbrev F.gg_:Nat:=43
abbrev F.fL_:Nat:=44
abbrev F.c6_:Nat:=45
abbrev F.ew_:Nat:=46
abbrev F.kl_:Nat:=47
abbrev F.ch_:Nat:=48
abbrev F.gI_:Nat:=51
abbrev F.fN_:Nat:=52
abbrev F.e3_:Nat:=53
abbrev F.nI_:Nat:=54
abbrev F.tp_:Nat:=55
abbrev F.ks_:Nat:=60
abbrev F.eb_:Nat:=61
abbrev F.hV_:Nat:=62
abbrev F.strings_Join:Nat:=63
abbrev F.iU_:Nat:=64
abbrev F.g6_:Nat:=65
abbrev F.gW_:Nat:=66
abbrev F.g7_:Nat:=67
abbrev F.iY_:Nat:=68
abbrev F.bF_:Nat:=71
abbrev F.gv_:Nat:=72
abbrev F.cG_:Nat:=73
abbrev F.fA_:Nat:=74
abbrev F.gd_:Nat:=75
abbrev F.fK_:Nat:=76
abbrev F.g3_:Nat:=77
abbrev F.g5_:Nat:=78
abbrev F.fD_:Nat:=81
abbrev F.br_:Nat:=82
abbrev F.gk_:Nat:=83
abbrev F.dF_:Nat:=84
abbrev F.e9_:Nat:=85
abbrev F.c7_:Nat:=86
abbrev F.ij_:Nat:=87
abbrev F.a9_:Nat:=88
abbrev F.dk_:Nat:=89
abbrev F.bz_:Nat:=93
abbrev F.d__:Nat:=94
abbrev F.gK_:Nat:=95
abbrev F.d6_:Nat:=96
abbrev F.gU_:Nat:=97
abbrev F.iv_:Nat:=100
abbrev F.eX_:Nat:=101
abbrev F.iE_:Nat:=102
abbrev F.eW_:Nat:=103
abbrev F.h0_:Nat:=104
abbrev F.mR_:Nat:=105
abbrev F.db_:Nat:=106
abbrev F.iV_:Nat:=107
abbrev F.dB_:Nat:=108
abbrev F.dY_:Nat:=109
abbrev F.dA_:Nat:=110
abbrev F.iT_:Nat:=111
abbrev F.fG_:Nat:=112
abbrev F.gV_:Nat:=114
abbrev F.hW_:Nat:=115
abbrev F.kU_:Nat:=116
abbrev F.g4_:Nat:=117
abbrev F.ci_:Nat:=118
abbrev F.dq_:Nat:=119
abbrev F.e8_:Nat:=120
abbrev F.e__:Nat:=121
abbrev F.bi_:Nat:=122
abbrev F.cv_:Nat:=123
abbrev F.gu_:Nat:=126
abbrev F.cE_:Nat:=127
abbrev F.kq_:Nat:=130
abbrev F.hY_:Nat:=131
abbrev F.ej_:Nat:=132
abbrev F.hZ_:Nat:=133
abbrev F.gf_:Nat:=134
abbrev F.strings_HasPrefix:Nat:=135
abbrev F.pG_:Nat:=136
abbrev F.gw_:Nat:=137
abbrev F.kO_:Nat:=138
abbrev F.d7_:Nat:=139
abbrev F.hH_:Nat:=140
abbrev F.fo_:Nat:=141
abbrev F.gy_:Nat:=142
abbrev F.hI_:Nat:=143
abbrev F.oq_:Nat:=145
abbrev F.fC_:Nat:=146
abbrev F.c9_:Nat:=147
abbrev F.dC_:Nat:=148
abbrev F.d5_:Nat:=149
abbrev F.aC_:Nat:=152
abbrev F.gT_:Nat:=153
abbrev F.lN_:Nat:=155
abbrev F.eh_:Nat:=156
abbrev F.a5_:Nat:=168
abbrev F.lD_:Nat:=169
abbrev F.fj_:Nat:=170
abbrev F.bT_:Nat:=171
abbrev F.bq_:Nat:=172
abbrev F.bE_:Nat:=173
abbrev F.bx_:Nat:=174
abbrev F.oh_:Nat:=175
abbrev F.eU_:Nat:=176
abbrev F.eV_:Nat:=177
abbrev F.ck_:Nat:=178
abbrev F.cj_:Nat:=179
abbrev F.td_:Nat:=180
abbrev F.fc_:Nat:=181
abbrev F.fB_:Nat:=182
abbrev F.ps_:Nat:=183
abbrev F.c__:Nat:=184
abbrev F.cI_:Nat:=185
abbrev F.da_:Nat:=186
abbrev F.fF_:Nat:=187
abbrev F.aX_:Nat:=188
abbrev F.dz_:Nat:=195
abbrev F.dJ_:Nat:=196
abbrev F.cmp_Compare_int:Nat:=199
abbrev F.d4_:Nat:=200
abbrev F.dm_:Nat:=201
abbrev F.kE_:Nat:=202
abbrev F.mX_:Nat:=203
abbrev F.ii_:Nat:=205
abbrev F.dl_:Nat:=206
abbrev F.fb_:Nat:=207
abbrev F.sW_:Nat:=208
abbrev F.gb_:Nat:=209
abbrev F.hU_:Nat:=210
abbrev F.fd_:Nat:=211
abbrev F.g0_:Nat:=212
abbrev F.kg_:Nat:=222
abbrev F.dv_:Nat:=223
abbrev F.cF_:Nat:=224
abbrev F.cS_:Nat:=225
abbrev F.uw_:Nat:=226
abbrev F.dw_:Nat:=227
abbrev F.mH_:Nat:=228
abbrev F.gh_:Nat:=232
abbrev F.gi_:Nat:=233
abbrev F.c4_:Nat:=234
abbrev F.f7_:Nat:=236
abbrev F.hJ_:Nat:=237
abbrev F.bZ_:Nat:=238
abbrev T.int:Nat:=3
abbrev T.bool:Nat:=4
abbrev T.uint8:Nat:=5
abbrev T.string:Nat:=9
abbrev T.any:Nat:=20
abbrev T.aT_:Nat:=22
abbrev T.bA_:Nat:=23
abbrev T.aP_:Nat:=24
abbrev T.bU_:Nat:=26
abbrev T.hD_:Nat:=27
abbrev T.el_:Nat:=29
abbrev T.cb_:Nat:=31
abbrev T.error:Nat:=36
abbrev T.cR_:Nat:=42
abbrev T.dP_:Nat:=52
abbrev T.pN_:Nat:=54
abbrev T.aD_:Nat:=56
abbrev T.fz_:Nat:=62
abbrev T.gF_:Nat:=63
abbrev T.bG_:Nat:=65
abbrev T.la_:Nat:=67
abbrev T.av_:Nat:=77
abbrev T.am_:Nat:=80
abbrev T.j6_:Nat:=89
abbrev T.ax_:Nat:=91
abbrev T.aQ_:Nat:=96
abbrev T.bf_:Nat:=100
abbrev T.bV_:Nat:=103
abbrev T.b3_:Nat:=106
abbrev T.aR_:Nat:=108
abbrev T.d3_:Nat:=116
abbrev T.bu_:Nat:=121
abbrev T.c0_:Nat:=128
abbrev T.er_:Nat:=148
abbrev T.aY_:Nat:=158
abbrev T.cy_:Nat:=163
abbrev T.b2_:Nat:=172
abbrev T.ah_:Nat:=174
abbrev T.a4_:Nat:=180
abbrev T.bd_:Nat:=181
abbrev T.cH_:Nat:=183
abbrev T.aq_:Nat:=185
abbrev T.di_:Nat:=192
abbrev T.iG_:Nat:=224
abbrev T.mO_:Nat:=235
abbrev T.aJ_:Nat:=243
abbrev T.pr_:Nat:=252
abbrev T.m5_:Nat:=258
abbrev T.bj_:Nat:=304
abbrev T.bL_:Nat:=313
abbrev T.d0_:Nat:=335
abbrev G.count:Nat:=2
end Go.Vc
namespace Go.Vc
open Go
def bv (b:UInt8):Value:=.int .u8 b.toNat
def str (l:List UInt8):ByteArray:=⟨l.toArray⟩
theorem af_ (l:List UInt8):(str l).size=l.length:=by simp [str,ByteArray.size]
theorem be_ (l:List UInt8):(str l).data.toList=l:=by simp [str]
theorem str_inj {a b:List UInt8} (h:str a=str b):a=b:=by
 have:=congrArg (λs:ByteArray=>s.data.toList) h
 simpa [str] using this
theorem ai_ (a b:List UInt8):str a++str b=str (a++b):=by
 apply ByteArray.ext
 simp [str]
theorem aI_ {n:Int} (h0 : -9223372036854775808≤n) (h1:n≤9223372036854775807):IntKind.wrap .i64 n=n:=by
 rw [IntKind.wrap_i64];omega
theorem wrap_u8 (n:Int):IntKind.wrap .u8 n=n%256:=IntKind.wrap_u8 n
theorem wrap_u32 (n:Int):IntKind.wrap .u32 n=n%4294967296:=IntKind.wrap_u32 n
theorem qM_ (n:Nat):(.int .u8 ((n:Int)%256):Value)=bv (UInt8.ofNat n):=by
 unfold bv;congr 1
theorem dD_ {n:Int} (h0:0≤n) (h1:n≤9223372036854775807):(BitVec.ofInt 64 n).toNat=n.toNat:=by
 obtain ⟨m,rfl⟩:=Int.eq_ofNat_of_zero_le h0
 have:m<2 ^ 64:=by omega
 simp [Nat.mod_eq_of_lt this]
section
variable {P:Program}
theorem fq_ {ts td e:TypeId} (hu:P.underlying ts=some (.slice e)) (hd:P.underlying td=some .string) (he:P.underlying e=some (.int .u8))
  {w:World} {q:Option Addr} {l c:Nat} {bs:List UInt8} {K:Value→World→Prop} (hs:Sl w q (bs.map bv)) (hl:l=bs.length)
  (hK:K (.string (str bs)) w):sv P (convert ts td (.slice q l c)) K w:=by
 unfold convert
 rw [aG_,ar_ hu,aG_,ar_ hd]
 simp only []
 rw [aG_,ar_ he]
 simp only []
 have hnil:∀q,bs=[]→q=none→sv P (Conv.bytesToString (.slice q l c)) K w:=by
  intro q h1 h2
  subst h1;subst h2
  have:K (.string .empty) w:=hK
  exact this
 unfold Conv.bytesToString
 cases q with
 | none=>
  rcases hs with h | ⟨b,o,h,_⟩
  ·have:bs=[]:=by simpa using h
   subst this
   exact hK
  ·cases h
 | some a=>
  simp only []
  have loop:∀(bs:List UInt8) (s:ByteArray) (K:ByteArray→World→Prop),K (s++str bs) w→
    sv P (forIn (bs.map bv) s (λc s=>do
     let .int .u8 n:=c | stuck "bytesToString: byte expected"
     pure (.yield (s.push (UInt8.ofNat n.toNat)))):Sem ByteArray) K w:=by
   intro bs
   induction bs with
   | nil=>
    intro s K h
    have e:s++str []=s:=by apply ByteArray.ext;simp [str]
    rw [e] at h;exact h
   | cons x bs ih=>
    intro s K h
    simp only [List.map_cons,List.forIn_cons]
    rw [aG_]
    simp only [bv,a1_]
    refine ih _ _ ?_
    have e:s.push (UInt8.ofNat (Int.toNat (x.toNat:Int)))++str bs=s++str (x :: bs):=by
     apply ByteArray.ext
     simp [str]
    rw [e];exact h
  have fin:∀(xs:List Value),xs=bs.map bv→sv P (do
    let mut s:=ByteArray.empty
    for c in xs.toArray do
     let .int .u8 n:=c | stuck "bytesToString: byte expected"
     s:=s.push (UInt8.ofNat n.toNat)
    pure (Value.string s):Sem Value) K w:=by
   intro xs hx
   subst hx
   rw [aG_,List.forIn_toArray]
   refine loop bs _ _ ?_
   rw [a1_]
   simpa using hK
  rcases hs with h | ⟨b,o,h,hr⟩
  ·have e:bs=[]:=by simpa using h
   subst e
   rw [aG_,hl]
   exact fin [] rfl
  ·cases h
   rw [aG_]
   exact cc_ (by simp [hl]) hr (fin _ rfl)
end
end Go.Vc
namespace Go.Vc
open Go
section
variable {P:Program}
theorem cQ_ {ts e:TypeId} {i:TypeInfo} {z:Value} {by_:Nat} (hu:P.underlying ts=some (.slice e)) (hi:P.info? e=some i) (hz:i.zero=some z) (hzc:z.cells=#[z]) (hk:i.size=1) (hb:i.bytes=by_)
  {w:World} {n:Int} {K:Value→World→Prop} (h0:0≤n) (hn:by_*n≤281474976710656) (hm:n≤9223372036854775807)
  (hK:∀b w',b=w.heap.size→w'.heap.size=b+1→Grow w w'→Own e 1 w' (some ⟨b,0,none⟩) n.toNat (List.replicate n.toNat z)→K (.slice (some ⟨b,0,none⟩) n.toNat n.toNat) w') :
  sv P (Instr.makeSlice ts (.int .i64 n) (.int .i64 n)) K w:=by
 subst hb
 have hw:=aI_ (n:=n) (by omega) hm
 have hlt:¬((i.bytes:Int)*n>2 ^ 48):=by
  have:(2:Int) ^ 48=281474976710656:=by decide
  omega
 unfold Instr.makeSlice
 simp only [aG_,ar_ hu,asInt,asIntOf,a1_,bw_ hi,hw,hx_,df_,bS_ hi,hk,Nat.mul_one]
 have h1:¬n<0:=by omega
 have h2:¬n>n:=by omega
 simp only [h1,h2,hlt,decide_false,Bool.or_self,Bool.false_eq_true,if_false]
 have key:∀(cs:Array Value),cs=(List.replicate n.toNat z).toArray→sv P (newRow e cs) (λa w=>K (.slice (some a) n.toNat n.toNat) w) w:=by
  intro cs hcs
  subst hcs
  unfold newRow
  rw [aG_,dZ_]
  refine newV λb w' hb hb' hs g=>hK b w' hb hs g (.inr ⟨b,0,_,rfl,hb',by simp,by omega,by simp,λj hj=>by simp at hj;simp [hj]⟩)
 by_cases hz0:n.toNat=0
 ·rw [if_pos hz0]
  refine key _ ?_
  rw [hz0];apply Array.toList_inj.1;simp
 ·rw [if_neg hz0,bH_ hi hz]
  refine key _ ?_
  apply Array.toList_inj.1
  rw [hzc]
  simp
  apply List.ext_getElem
  ·simp
  ·intro j h1 h2;simp [Nat.mod_one]
end
end Go.Vc
namespace Go.Vc
open Go
theorem cz_:PR.underlying T.bf_=some (.slice T.uint8):=by kernel_rfl
theorem u_u8:PR.underlying T.uint8=some (.int .u8):=by kernel_rfl
theorem o4_:PR.underlying T.string=some .string:=by kernel_rfl
theorem k2_:PR.underlying T.aP_=some (.slice T.string):=by kernel_rfl
def tyI (t:TypeId) (k by_:Nat) (z:Value):Prop:=∃i,PR.info? t=some i∧i.size=k∧i.bytes=by_∧i.zero=some z
noncomputable def tF_ (t:TypeId) (k by_:Nat) (z:Value):Bool:=match PR.info? t with
 | some i=>i.size == k && i.bytes == by_ && (match i.zero,z with
  | some (.int k n),.int k' n'=>k == k' && n == n'
  | some (.bool b),.bool b'=>b == b'
  | some (.string s),.string s'=>s.data == s'.data
  | some (.pointer none),.pointer none=>true
  | _,_=>false)
 | none=>false
theorem o8_ {t:TypeId} {k by_:Nat} {z:Value} (h:tF_ t k by_ z=true):tyI t k by_ z:=by
 unfold tF_ at h
 split at h
 ·rename_i i hi
  simp only [Bool.and_eq_true,beq_iff_eq] at h
  obtain ⟨⟨h1,h2⟩,h3⟩:=h
  refine ⟨i,hi,h1,h2,?_⟩
  split at h3
  ·simp only [Bool.and_eq_true,beq_iff_eq] at h3;rename_i h4;rw [h4,h3.1,h3.2]
  ·simp only [beq_iff_eq] at h3;rename_i h4;rw [h4,h3]
  ·rename_i s s' h4
   have:s=s':=by cases s;cases s';simp only [beq_iff_eq] at h3;simp_all
   rw [h4,this]
  ·rename_i h4;rw [h4]
  ·cases h3
 ·cases h
theorem t_u8:tyI T.uint8 1 1 (.int .u8 0):=o8_ (by kernel_rfl)
theorem pf_:tyI T.string 1 16 (.string ⟨#[]⟩):=o8_ (by kernel_rfl)
theorem sS_:tyI T.int 1 8 (.int .i64 0):=o8_ (by kernel_rfl)
theorem app1 {ts e:TypeId} {by_:Nat} {z:Value} (hu:PR.underlying ts=some (.slice e)) (ht:tyI e 1 by_ z) (hz:z.cells=#[z]) (hby:by_≠0) {w:World} {q q2:Option Addr} {l c l2 c2:Nat} {xs ys:List Value} {K:Value→World→Prop}
  (ho:Own e 1 w q c xs) (hl:l=xs.length) (hlc:l≤c) (hs:Sl w q2 ys) (hl2:l2=ys.length) (hone:∀y,y∈ys→oneC y=true) (hroom:(2*(l+l2)+1024)*by_≤281474976710656)
  (hK:∀q' c' w',Own e 1 w' q' c' (xs++ys)→l+l2≤c'→Chg (aS_ q) w w'→(∀a,q'=some a→q=some a∨a=⟨w.heap.size,0,none⟩)→K (.slice q' (l+l2) c') w') :
  rn PR (Builtin.append_ #[ts,ts] ts #[.slice q l c,.slice q2 l2 c2]) K w:=by
 obtain ⟨i,hi,hk,hb,hz'⟩:=ht
 exact cO_ <| f2_ (i:=i) (k:=1) (by_:=by_) hu hu hi hz' hk hb (by rw [hz];rfl) hby ho (by omega) hlc hs (by omega) hone hroom hK
theorem fW_ {w:World} {q q2:Option Addr} {l c l2 c2:Nat} {xs ys:List UInt8} {K:Value→World→Prop}
  (ho:Own T.uint8 1 w q c (xs.map bv)) (hl:l=xs.length) (hlc:l≤c) (hs:Sl w q2 (ys.map bv)) (hl2:l2=ys.length) (hroom:l+l2≤70368744177664)
  (hK:∀q' c' w',Own T.uint8 1 w' q' c' ((xs++ys).map bv)→l+l2≤c'→Chg (aS_ q) w w'→(∀a,q'=some a→q=some a∨a=⟨w.heap.size,0,none⟩)→
   K (.slice q' (l+l2) c') w') :
  rn PR (Builtin.append_ #[T.bf_,T.bf_] T.bf_ #[.slice q l c,.slice q2 l2 c2]) K w:=
 app1 cz_ t_u8 rfl (by decide) ho (by simp [hl]) hlc hs (by simp [hl2]) (λy hy=>by obtain ⟨b,_,rfl⟩:=List.mem_map.1 hy;rfl) (by omega) λq' c' w' h=>hK q' c' w' (by simpa using h)
def sv1 (s:ByteArray):Value:=.string s
theorem Sl.ex {w:World} {q:Option Addr} {xs:List Value} (h:Sl w q xs) (h0:xs≠[]):∃b o,q=some ⟨b,o,none⟩∧∀j:Nat,j<xs.length→w.cell? ⟨b,o+j,none⟩=xs[j]?:=by
 rcases h with h | ⟨b,o,rfl,h⟩
 ·exact absurd h h0
 ·exact ⟨b,o,rfl,λj hj=>by rw [h.cell (v:=xs[j]) (by simp [hj])];simp [hj]⟩
theorem Sl.rd {w:World} {q:Option Addr} {xs:List Value} (h:Sl w q xs) {n:Int} {l:Nat} {v:Value} {K:Addr→Prop} (hl:l=xs.length) (h0:0≤n) (hv:xs[n.toNat]? = some v) (hK:∀a,w.cell? a=some v→K a) :
  Dr q (λa=>0≤n∧n<((l:Nat):Int)∧Dr (some (Addr.add a (n.toNat*1))) K):=by
 subst hl
 have hl:n.toNat<xs.length:=by
  rcases Nat.lt_or_ge n.toNat xs.length with hl | hl
  ·exact hl
  ·simp [List.getElem?_eq_none hl] at hv
 obtain ⟨b,o,rfl,hc⟩:=h.ex (by intro e;subst e;simp at hl)
 refine ad_.2 ⟨h0,by omega,ad_.2 ?_⟩
 rw [an_,Nat.mul_one]
 exact hK _ (by rw [hc _ hl,hv])
theorem Fr.sl {S:Nat→Prop} {w0 wp w:World} {M:List Nat} {L:List Blk} (h:Fr S w0 wp M L w) (j:Nat) {b:Nat} {cs:List Value} {T:TypeId} {wr:Bool} (hj:L[j]? = some ⟨b,⟨cs⟩,T,wr⟩):Sl w (some ⟨b,0,none⟩) cs:=
 .inr ⟨b,0,rfl,⟨cs⟩,T,(0,0),h.blk j hj,λi _=>by simp⟩
theorem Fr.own {S:Nat→Prop} {w0 wp w:World} {M:List Nat} {L:List Blk} (h:Fr S w0 wp M L w) (j:Nat) {b c:Nat} {cs:List Value} {T:TypeId} {wr:Bool} (hj:L[j]? = some ⟨b,⟨cs⟩,T,wr⟩) (hc:cs.length=c) (hc2:c≤9223372036854775807):Own T 1 w (some ⟨b,0,none⟩) c cs:=
 .inr ⟨b,0,⟨cs⟩,rfl,h.blk j hj,by simp [hc],hc2,by omega,λi _=>by simp⟩
theorem Fr.gr {w0 wp w:World} {M:List Nat} {L:List Blk} (h:Fr (λ_=>False) w0 wp M L w):Grow w0 w:=h.chg
theorem Fr.keep {S:Nat→Prop} {w0 wp w w':World} {M:List Nat} {L:List Blk} (h:Fr S w0 wp M L w) {q:Option Addr} (g:Chg (aS_ q) w w') (ho:∀a,q=some a→∀x,x∈L→x.b≠a.block) (hn:Off (λk=>k<w0.heap.size) q):Fs S w0 L w':=
 h.step g (λx hx ⟨a,ha,e⟩=>ho a ha x hx e) λk hk ⟨a,ha,e⟩=>absurd (e ▸ hk) (hn a ha)
theorem aV_ {α:Type} {l:List α} {k:Nat} (h:k<l.length):l.take (k+1)=l.take k++[l[k]]:=by
 rw [List.take_succ_eq_append_getElem h]
theorem wr1 {k:Nat} (h:k<9223372036854775807):IntKind.wrap .i64 ((k:Int)+1)=((k+1:Nat):Int):=by
 rw [aI_ (by omega) (by omega)];omega
theorem cV_ (s:ByteArray):s.data.toList.length=s.size:=by rw [Array.length_toList];rfl
theorem qL_ {s:ByteArray} {k:Nat} (h:k<s.data.toList.length):aE_ s k=(s.data.toList[k]).toNat:=by
 unfold aE_
 have h':k<s.size:=by rw [← cV_];exact h
 simp [Array.getD,h']
end Go.Vc
namespace Go.Vc
open Go
def ac_ (n:Nat):List UInt8:=if n<128 then [UInt8.ofNat n] else UInt8.ofNat (128+n%128) :: ac_ (n / 128)
theorem d2_:∀(k n:Nat),n<128 ^ (k+1)→(ac_ n).length≤k+1
 | 0,n,h=>by unfold ac_;rw [if_pos (by simpa using h)];simp
 | k+1,n,h=>by
  unfold ac_
  split
  ·simp
  ·have:=d2_ k (n / 128) (by rw [Nat.div_lt_iff_lt_mul (by omega)];rw [Nat.pow_succ] at h;exact h)
   simp;exact this
def fixed:List UInt8→Nat
 | []=>0
 | c :: r=>c.toNat+256*fixed r
theorem oy_ (l:List UInt8) (c:UInt8):fixed (l++[c])=fixed l+c.toNat*256 ^ l.length:=by
 induction l with
 | nil=>simp [fixed]
 | cons x l ih=>simp only [List.cons_append,fixed,ih,List.length_cons,Nat.pow_succ];rw [Nat.mul_add];rw [show 256*(c.toNat*256 ^ l.length)=c.toNat*(256 ^ l.length*256) by rw [Nat.mul_comm (256 ^ _)];rw [Nat.mul_left_comm]];omega
theorem nT_:∀(l:List UInt8),fixed l<256 ^ l.length
 | []=>by simp [fixed]
 | c :: l=>by
  have:=nT_ l
  have h:=UInt8.toNat_lt c
  simp only [fixed,List.length_cons,Nat.pow_succ]
  omega
def aF_ (i x:Nat):List UInt8→Nat × Nat ⊕ Nat
 | []=>.inr 3
 | c :: r=>
  if 128≤c.toNat then (if i=7 then .inr 4 else aF_ (i+1) (x+c.toNat%128*128 ^ i) r)
  else if c.toNat=0∧0<i then .inr 4 else .inl (x+c.toNat%128*128 ^ i,i+1)
def as_:Nat→Nat→List UInt8
 | 0,_=>[]
 | k+1,x=>UInt8.ofNat (x%256) :: as_ k (x / 256)
theorem aN_ (k x:Nat):(as_ k x).length=k:=by induction k generalizing x with
 | zero=>rfl
 | succ k ih=>simp [as_,ih]
theorem lm_ (k:Nat):∀(x i:Nat),i<k→(as_ k x)[i]? = some (UInt8.ofNat (x / 256 ^ i%256)):=by
 induction k with
 | zero=>intro x i h;omega
 | succ k ih=>
  intro x i h
  cases i with
  | zero=>simp [as_]
  | succ i=>
   simp only [as_,List.getElem?_cons_succ]
   rw [ih _ _ (by omega),Nat.div_div_eq_div_mul,Nat.pow_succ,Nat.mul_comm 256]
theorem im_:∀(k x:Nat),x<256 ^ k→fixed (as_ k x)=x
 | 0,x,h=>by simp at h;subst h;rfl
 | k+1,x,h=>by
  have e:(UInt8.ofNat (x%256)).toNat=x%256:=UInt8.toNat_ofNat_of_lt (by have:UInt8.size=256:=rfl;omega)
  simp only [as_,fixed,e]
  rw [im_ k (x / 256) (by rw [Nat.div_lt_iff_lt_mul (by omega)];rw [Nat.pow_succ] at h;exact h)]
  omega
theorem gM_:∀(k n i x:Nat) (r:List UInt8),n<128 ^ (k+1)→i+k≤7→(i=0∨0<n)→aF_ i x (ac_ n++r)=.inl (x+n*128 ^ i,i+(ac_ n).length)
 | k,n,i,x,r,h,hi,hn=>by
  have hu:UInt8.size=256:=rfl
  unfold ac_
  by_cases hlt:n<128
  ·rw [if_pos hlt]
   have e:(UInt8.ofNat n).toNat=n:=UInt8.toNat_ofNat_of_lt (by omega)
   simp only [List.cons_append,List.nil_append,aF_,e]
   rw [if_neg (by omega),if_neg (by omega),Nat.mod_eq_of_lt hlt]
   simp
  ·rw [if_neg hlt]
   have e:(UInt8.ofNat (128+n%128)).toNat=128+n%128:=UInt8.toNat_ofNat_of_lt (by omega)
   cases k with
   | zero=>simp at h;omega
   | succ k=>
    simp only [List.cons_append,aF_,e]
    rw [if_pos (by omega),if_neg (by omega)]
    rw [gM_ k (n / 128) (i+1) _ r (by rw [Nat.div_lt_iff_lt_mul (by omega)];rw [Nat.pow_succ] at h;exact h) (by omega) (.inr (by omega))]
    have e1:(128+n%128)%128=n%128:=by omega
    rw [e1,Nat.pow_succ]
    congr 2
    ·have h1:n=n%128+128*(n / 128):=by omega
     have h2:n*128 ^ i=n%128*128 ^ i+128*(n / 128)*128 ^ i:=by
      conv=>lhs;rw [h1]
      rw [Nat.add_mul]
     rw [h2,Nat.add_assoc]
     congr 1
     congr 1
     rw [Nat.mul_comm 128 (n / 128),Nat.mul_assoc,Nat.mul_comm 128]
    ·simp;omega
theorem b7_ {n:Nat} (h:n≤72057594037927935) (r:List UInt8):aF_ 0 0 (ac_ n++r)=.inl (n,(ac_ n).length):=by
 have:=gM_ 7 n 0 0 r (by omega) (by omega) (.inl rfl)
 simpa using this
theorem bI_ (n:Nat):0<(ac_ n).length:=by unfold ac_;split <;> simp
theorem ie_:∀(l:List UInt8) (i x:Nat) {r:Nat × Nat},i≤7→x<128 ^ i→aF_ i x l=.inl r→r.1<128 ^ 8∧i<r.2∧r.2≤i+l.length
 | [],i,x,r,hi,hx,h=>by simp [aF_] at h
 | c :: l,i,x,r,hi,hx,h=>by
  have hm:c.toNat%128*128 ^ i≤127*128 ^ i:=Nat.mul_le_mul_right _ (by omega)
  have hp:128 ^ (i+1)=128 ^ i*128:=Nat.pow_succ ..
  simp only [aF_] at h
  split at h
  ·split at h
   ·cases h
   ·have:=ie_ l (i+1) _ (by omega) (by omega) h
    simp only [List.length_cons]
    exact ⟨this.1,by omega,by omega⟩
  ·split at h
   ·cases h
   ·cases h
    have:128 ^ (i+1)≤128 ^ 8:=Nat.pow_le_pow_right (by omega) (by omega)
    simp only [List.length_cons]
    exact ⟨by omega,by omega,by omega⟩
end Go.Vc
namespace Go.Vc
open Go
def turn (x:Int):Int:=if x < -36028797018963968∨x≥36028797018963968 then 0 else if x<0 then -2*x - 1 else 2*x
def back (x:Int):Int:=if x<0 then 0 else if x%2=1 then -(x / 2) - 1 else x / 2
def pT_ (n:Int):Prop:=-36028797018963968≤n∧n<36028797018963968
theorem qQ_ {x:Int} (h:pT_ x):back (turn x)=x:=by
 obtain ⟨h1,h2⟩:=h
 unfold turn
 rw [if_neg (by omega)]
 unfold back
 split <;> (try rw [if_neg (by omega)]) <;> split <;> omega
theorem o__ (x:Int):0≤turn x:=by unfold turn;split <;> (try split) <;> omega
theorem mx_ (x:Int):turn x≤72057594037927935:=by unfold turn;split <;> (try split) <;> omega
def cat {α:Type} (f:Nat→List α):Nat→List α
 | 0=>[]
 | n+1=>cat f n++f n
theorem dr_ {α:Type} (f:Nat→List α):∀ {n i:Nat},i<n→∃r,cat f n=cat f i++(f i++r)
 | 0,i,h=>by omega
 | n+1,i,h=>by
  by_cases e:i=n
  ·subst e;exact ⟨[],by simp [cat]⟩
  ·obtain ⟨r,hr⟩:=dr_ f (n:=n) (i:=i) (by omega)
   exact ⟨r++f n,by rw [cat,hr];simp⟩
theorem fl_ {α:Type} (f:Nat→List α) (b:Nat):∀(n:Nat),(∀i,i<n→(f i).length≤b)→(cat f n).length≤n*b
 | 0,_=>by simp [cat]
 | n+1,h=>by
  have h1:=fl_ f b n λi hi=>h i (by omega)
  have h2:=h n (by omega)
  simp only [cat,List.length_append,Nat.succ_mul];omega
def gapP (v:Int) (l:List Int) (i:Nat):List UInt8:=if i=0 then ac_ (turn (l.getD 0 0 - v)).toNat else ac_ (l.getD i 0 - l.getD (i - 1) 0 - 1).toNat
def gapL (v:Int) (l:List Int):List UInt8:=ac_ l.length++cat (gapP v l) l.length
def e5_ (nodes:Int) (l:List Int):Prop:=(∀i,i<l.length→0≤l.getD i 0∧l.getD i 0<nodes)∧∀i,i+1<l.length→l.getD i 0<l.getD (i+1) 0
theorem fI_ {nodes:Int} {l:List Int} (h:e5_ nodes l):(l.length:Int)≤max nodes 0:=by
 have:∀i,i<l.length→(i:Int)≤l.getD i 0:=by
  intro i
  induction i with
  | zero=>intro hi;have:=(h.1 0 hi).1;simpa using this
  | succ i ih=>intro hi;have h1:=ih (by omega);have h2:=h.2 i hi;omega
 cases hl:l.length with
 | zero=>omega
 | succ n=>
  have h1:=this n (by omega)
  have h2:=(h.1 n (by omega)).2
  omega
theorem al_ {n:Nat} (h:n≤72057594037927935):(ac_ n).length≤8:=d2_ 7 n (by omega)
theorem ho_ {nodes v:Int} {l:List Int} (hn:nodes≤4096) (hv:0≤v) (hv':v<nodes) (h:e5_ nodes l) {i:Nat} (hi:i<l.length):(gapP v l i).length≤8:=by
 unfold gapP
 split
 ·exact al_ (by have:=mx_ (l.getD 0 0 - v);omega)
 ·have h1:=h.1 i hi
  have h2:=h.1 (i - 1) (by omega)
  exact al_ (by omega)
theorem nS_ {nodes v:Int} {l:List Int} (hn:nodes≤4096) (hv:0≤v) (hv':v<nodes) (h:e5_ nodes l):(gapL v l).length≤40000:=by
 have h1:=fI_ h
 have h2:=fl_ (gapP v l) 8 l.length λi hi=>ho_ hn hv hv' h hi
 have h3:=al_ (n:=l.length) (by omega)
 simp only [gapL,List.length_append];omega
theorem r2_ (v:Int) (l:List Int):0<(gapL v l).length:=by
 have:=bI_ l.length
 simp only [gapL,List.length_append];omega
def aW_ (first:Int) (R:Nat→List Int):Nat→List UInt8:=cat λj=>gapL (first+j) (R j)
def b0_ (first:Int) (R:Nat→List Int):Nat→List UInt8:=cat λk=>ac_ (aW_ first R (k*8)).length
def az_ (many:Nat):Nat:=(many+7) / 8
def gG_ (first:Int) (R:Nat→List Int) (many:Nat):List UInt8:=ac_ first.toNat++ac_ many++b0_ first R (az_ many)++aW_ first R many
end Go.Vc
namespace Go.Vc
open Go
theorem t0_ {n:Int} (h0:0≤n) (h1:n≤9223372036854775807) :
  (.int .u8 (IntKind.wrap .u8 (IntKind.wrap .i64 (((BitVec.toNat (BitVec.ofInt 64 (IntKind.wrap .i64 ((BitVec.toNat (BitVec.ofInt 64 n &&& BitVec.ofInt 64 127):Nat):Int))
   ||| BitVec.ofInt 64 128)):Nat):Int))):Value)=bv (UInt8.ofNat (128+n.toNat%128)):=by
 rw [← qM_];congr 1
 obtain ⟨m,rfl⟩:=Int.eq_ofNat_of_zero_le h0
 show IntKind.wrap .u8 (IntKind.wrap .i64 (((BitVec.ofInt 64 (IntKind.wrap .i64 ((BitVec.ofInt 64 (m:Int) &&& BitVec.ofInt 64 127).toNat:Int)) ||| BitVec.ofInt 64 128).toNat:Nat):Int))=_
 have e1:(BitVec.ofInt 64 (m:Int) &&& BitVec.ofInt 64 127).toNat=m%128:=by
  rw [BitVec.toNat_and,dD_ (n:=(m:Int)) (by omega) h1]
  have:(BitVec.ofInt 64 127).toNat=2 ^ 7 - 1:=by decide
  rw [this,Nat.and_two_pow_sub_one_eq_mod];simp
 rw [e1,aI_ (n:=((m%128:Nat):Int)) (by omega) (by omega)]
 have e2:(BitVec.ofInt 64 ((m%128:Nat):Int) ||| BitVec.ofInt 64 128).toNat=128+m%128:=by
  rw [BitVec.toNat_or,dD_ (n:=((m%128:Nat):Int)) (by omega) (by omega)]
  have h:(BitVec.ofInt 64 128).toNat=2 ^ 7*1:=by decide
  rw [h,Nat.or_comm]
  have h2:=Nat.two_pow_add_eq_or_of_lt (i:=7) (b:=m%128) (by omega) 1
  rw [Int.toNat_natCast,← h2]
 rw [e2,aI_ (by omega) (by omega),wrap_u8]
 simp
theorem a8_ {w:World} {q:Option Addr} {l c:Nat} {bs:List UInt8} {K:Value→World→Prop} (hs:Sl w q (bs.map bv)) (hl:l=bs.length) (hK:K (.string (str bs)) w) :
  rn PR (convert T.bf_ T.string (.slice q l c)) K w:=cO_ (fq_ cz_ o4_ u_u8 hs hl hK)
theorem Fr.app {w0 wp w1 w2:World} {M:List Nat} {L:List Blk} {q:Option Addr} {n:Nat} (h:Fr (λ_=>False) w0 wp M L w1) (g:Chg (aS_ q) w1 w2) (ho:∀a,q=some a→a.block<n) (hL:∀x,x∈L→n≤x.b)
  (hn:Off (λk=>k<w0.heap.size) q):Fs (λ_=>False) w0 L w2:=
 h.keep g (λa ha x hx e=>by have:=ho a ha;have:=hL x hx;omega) hn
theorem f6_ {n:Int} (h0:0≤n) (h1:n≤9223372036854775807) {w:World} {K:Value→World→Prop}
  (hK:∀w',Grow w w'→K (.string (str (ac_ n.toNat))) w'):aa_ PR F.e9_ ⟨[.int .i64 n]⟩ w K:=by
 have hlen:=d2_ 9 n.toNat (by omega)
 refine e9_ n (λ_=>False) K w ⟨λx q l c m w'=>∃done:List UInt8,0≤x∧x≤9223372036854775807∧m=x.toNat∧done++ac_ x.toNat=ac_ n.toNat∧Own T.uint8 1 w' q c (done.map bv)∧l=done.length∧l≤c∧
  Off (λk=>k<w.heap.size) q,⟨n.toNat,[],h0,h1,rfl,rfl,.nil _ _ _,rfl,Nat.le_refl _,.none _⟩,?_⟩
 rintro x q l c D m w' ⟨done,hx0,hx1,rfl,hdone,ho,hl,hlc,hoff⟩ hF
 have hd:done.length≤10:=by have:=congrArg List.length hdone;simp at this;omega
 refine ⟨λhge=>?_,λhlt=>?_⟩
 ·intro r hr w1 h1
  rw [t0_ hx0 hx1] at h1 ⊢
  have hs1:Sl w1 (some ⟨r,0,none⟩) ([UInt8.ofNat (128+x.toNat%128)].map bv):=h1.sl 0 rfl
  rw [ac_,if_neg (by omega)] at hdone
  refine fW_ (xs:=done) (ys:=[UInt8.ofNat (128+x.toNat%128)]) (ho.grow h1.grow) hl hlc hs1 rfl (by omega) λq' c' w2 ho2 hc2 g2 hq2=>?_
  have e:(Int.fdiv x 128)=x / 128:=Int.fdiv_eq_ediv_of_nonneg _ (by decide)
  refine ⟨_,_,_,rfl,h1.app g2 (λa ha=>ho.lt a ha) (λy hy=>by simp at hy;subst hy;exact hr) hoff,(x.toNat / 128),by omega,done++[UInt8.ofNat (128+x.toNat%128)],by rw [e];omega,by rw [e];omega,by rw [e];omega,?_,ho2,by simp [hl],hc2,
   hoff.next hq2 h1.chg.size⟩
  have e2:(Int.fdiv x 128).toNat=x.toNat / 128:=by rw [e];omega
  rw [e2,← hdone];simp
 ·intro r hr w1 h1
  have hs1:Sl w1 (some ⟨r,0,none⟩) ([UInt8.ofNat x.toNat].map bv):=by
   have:=h1.sl 0 rfl
   rw [wrap_u8,← Int.toNat_of_nonneg hx0,qM_] at this
   exact this
  rw [ac_,if_pos (by omega)] at hdone
  refine fW_ (xs:=done) (ys:=[UInt8.ofNat x.toNat]) (ho.grow h1.grow) hl hlc hs1 rfl (by omega) λq' c' w2 ho2 hc2 g2 hq2=>?_
  have hF2:=h1.app g2 (λa ha=>ho.lt a ha) (λy hy=>by simp at hy;subst hy;exact hr) hoff
  refine ⟨_,_,_,rfl,hF2,?_⟩
  rw [hdone] at ho2
  exact a8_ ho2.sl (by rw [← hdone,hl];simp) ⟨_,rfl,hF2,hK _ hF2.chg⟩
end Go.Vc
namespace Go.Vc
open Go
def E (c:Int):Value:=.iface T.am_ (.int .i64 c)
def F (at_:Int) (v:Value):Value:=.iface T.iG_ (.agg #[.int .i64 at_,v])
abbrev S0:Nat→Prop:=λ_=>False
theorem cx_ {n:Int} {v:Value} {w:World} {K:Value→World→Prop} (hv:oneC v=true) (hK:K (F n v) w) :
  aa_ PR F.e__ ⟨[.int .i64 n,v]⟩ w K:=e__ n v S0 K w ⟨hv,hK⟩
theorem f0_ {s:ByteArray} {n:Int} {w:World} {K:Value→World→Prop} (h1:0≤n∧n≤s.size→K (.bool true) w) (h2:¬(0≤n∧n≤s.size)→K (.bool false) w) :
  aa_ PR F.e8_ ⟨[.string s,.int .i64 n]⟩ w K:=
 e8_ s n S0 K w ⟨λa=>⟨λb=>h1 ⟨a,b⟩,λb=>h2 λc=>b c.2⟩,λa=>h2 λc=>a c.1⟩
theorem a0_ {n:Int} (hn:0≤n∧n≤72057594037927935) {w:World} {K:Value→World→Prop}
  (h1:∀w',Grow w w'→K (.tuple #[.string (str (ac_ n.toNat)),.nilIface]) w'):aa_ PR F.c6_ ⟨[.int .i64 n]⟩ w K:=by
 refine c6_ n S0 K w ⟨λh=>by omega,λh=>⟨λh'=>by omega,λh'=>?_⟩⟩
 exact f6_ (by omega) (by omega) λw' g=>⟨_,rfl,(Fr.init _ w).after g,h1 w' g⟩
theorem qV_ {n:Int} {w:World} {K:Value→World→Prop} (hK:K (.int .i64 (turn n)) w):aa_ PR F.gh_ ⟨[.int .i64 n]⟩ w K:=by
 unfold turn at hK
 refine gh_ n S0 K w ⟨λh=>?_,λh=>⟨λh'=>?_,λh'=>⟨λh2=>?_,λh2=>?_⟩⟩⟩
 ·rw [if_pos (.inl h)] at hK;exact hK
 ·rw [if_pos (.inr h')] at hK;exact hK
 ·rw [if_neg (by omega),if_pos h2] at hK
  rw [aI_ (n:=-2*n) (by omega) (by omega),aI_ (by omega) (by omega)];exact hK
 ·rw [if_neg (by omega),if_neg h2] at hK
  rw [aI_ (by omega) (by omega)];exact hK
theorem rb_ {n:Int} {w:World} {K:Value→World→Prop} (hn:n≤9223372036854775807) (hK:K (.int .i64 (back n)) w):aa_ PR F.gi_ ⟨[.int .i64 n]⟩ w K:=by
 unfold back at hK
 refine gi_ n S0 K w ⟨λh=>?_,λh=>?_⟩
 ·rw [if_pos h] at hK;exact hK
 ·rw [if_neg h] at hK
  rw [Int.tmod_eq_emod_of_nonneg (by omega),Int.tdiv_eq_ediv_of_nonneg (by omega)]
  rw [aI_ (n:=n / 2) (by omega) (by omega),aI_ (n:=0 - n / 2) (by omega) (by omega),aI_ (n:=0 - n / 2 - 1) (by omega) (by omega)]
  refine ⟨λh2=>?_,λh2=>?_⟩
  ·rw [if_pos h2] at hK
   rw [show 0 - n / 2 - 1 = -(n / 2) - 1 by omega];exact hK
  ·rw [if_neg h2] at hK;exact hK
theorem jf_ {n:Int} (hn:pT_ n) {w:World} {K:Value→World→Prop}
  (h1:∀w',Grow w w'→K (.tuple #[.string (str (ac_ (turn n).toNat)),.nilIface]) w'):aa_ PR F.cF_ ⟨[.int .i64 n]⟩ w K:=by
 obtain ⟨a,b⟩:=hn
 have t0:=o__ n
 have t1:=mx_ n
 refine cF_ n S0 K w ⟨λh=>by omega,λh=>⟨λh'=>by omega,λh'=>?_⟩⟩
 exact qV_ ⟨_,rfl,.init _ w,f6_ t0 (by omega) λw' g=>⟨_,rfl,(Fr.init _ w).after g,h1 w' g⟩⟩
theorem sy_ {x y:Int} {k:Nat} (hx0:0≤x) (hx:x<2 ^ k) (hy0:0≤y) (hy:y*2 ^ k+2 ^ k≤9223372036854775808) :
  IntKind.wrap .i64 (BitVec.toNat (BitVec.ofInt (64) x ||| BitVec.ofInt (64) (IntKind.wrap .i64 (y*2 ^ k))))=x+y*2 ^ k:=by
 obtain ⟨a,rfl⟩:=Int.eq_ofNat_of_zero_le hx0
 obtain ⟨b,rfl⟩:=Int.eq_ofNat_of_zero_le hy0
 have ha:a<2 ^ k:=by
  have:((a:Nat):Int)<((2 ^ k:Nat):Int):=by simpa using hx
  omega
 have hz:0≤(b:Int)*2 ^ k:=Int.mul_nonneg (by omega) (Int.pow_nonneg (by decide))
 have hk0:(0:Int)<2 ^ k:=Int.pow_pos (by decide)
 have e:((b:Int)*2 ^ k)=((b*2 ^ k:Nat):Int):=by simp
 rw [aI_ (n:=(b:Int)*2 ^ k) (by omega) (by omega),e]
 rw [e] at hy
 have hp:((2 ^ k:Nat):Int)=2 ^ k:=by simp
 show IntKind.wrap .i64 ((BitVec.ofInt 64 (a:Int) ||| BitVec.ofInt 64 ((b*2 ^ k:Nat):Int)).toNat:Int)=_
 rw [BitVec.toNat_or,dD_ (n:=(a:Int)) (by omega) (by omega),dD_ (n:=((b*2 ^ k:Nat):Int)) (by omega) (by omega),Int.toNat_natCast,Int.toNat_natCast,Nat.or_comm,Nat.mul_comm b,
  ← Nat.two_pow_add_eq_or_of_lt (by omega) b]
 rw [Nat.mul_comm b] at hy
 rw [aI_ (by omega) (by omega)]
 simp;omega
theorem low7 (n:Nat) (h:n<256):IntKind.wrap .i64 (IntKind.wrap .u8 (BitVec.toNat (BitVec.ofInt (8) (n:Int) &&& BitVec.ofInt (8) 127)))=((n%128:Nat):Int):=by
 show IntKind.wrap .i64 (IntKind.wrap .u8 ((BitVec.ofInt 8 (n:Int) &&& BitVec.ofInt 8 127).toNat:Int))=_
 have e1:(BitVec.ofInt 8 (n:Int) &&& BitVec.ofInt 8 127).toNat=n%128:=by
  rw [BitVec.toNat_and]
  have:(BitVec.ofInt 8 127).toNat=2 ^ 7 - 1:=by decide
  rw [this,Nat.and_two_pow_sub_one_eq_mod]
  have:(BitVec.ofInt 8 (n:Int)).toNat=n:=by simp;omega
  rw [this]
 rw [e1,wrap_u8,aI_ (by omega) (by omega)]
 omega
theorem lW_ (s:ByteArray) (i:Nat):aE_ s i<256:=by unfold aE_;exact UInt8.toNat_lt _
theorem iB_ {s:ByteArray} {i:Nat} (h:i<s.size):s.data.toList[i]? = some (UInt8.ofNat (aE_ s i)):=by
 have hd:i<s.data.size:=h
 simp only [aE_,Array.getD,dif_pos hd,Array.getElem?_toList]
 rw [Array.getElem?_eq_getElem hd]
 simp
def okAt (s:ByteArray) (n:Int):Prop:=0≤n∧n≤s.size
def j7_ (s:ByteArray) (at_:Int):Nat × Nat ⊕ Nat→Value
 | .inl (x,k)=>.tuple #[.int .i64 x,.int .i64 (at_+k),.nilIface]
 | .inr 3=>.tuple #[.int .i64 0,.int .i64 at_,F s.size (E 3)]
 | .inr c=>.tuple #[.int .i64 0,.int .i64 at_,F at_ (E c)]
theorem eB_ {s:ByteArray} {at_:Int} {w:World} {K:Value→World→Prop} (hs:s.size≤4611686018427387904)
  (h1:¬okAt s at_→K (.tuple #[.int .i64 0,.int .i64 at_,F at_ (E 1)]) w)
  (h2:okAt s at_→K (j7_ s at_ (aF_ 0 0 (s.data.toList.drop at_.toNat))) w) :
  aa_ PR F.bi_ ⟨[.string s,.int .i64 at_]⟩ w K:=by
 refine bi_ s at_ S0 K w ?_
 refine f0_ (λha=>?_) (λha=>?_)
 ·refine ⟨true,rfl,λ_=>⟨.init _ w,?_⟩,λh=>by cases h⟩
  have ha':okAt s at_:=ha
  obtain ⟨a0,a1⟩:=ha
  have h2:=h2 ha'
  rw [aI_ (n:=(s.size:Int) - at_) (by omega) (by omega)]
  refine ⟨λx i m w'=>w'=w∧0≤i∧i≤7∧i≤s.size - at_∧m=(s.size - at_ - i).toNat∧0≤x∧x<128 ^ i.toNat∧
   aF_ 0 0 (s.data.toList.drop at_.toNat)=aF_ i.toNat x.toNat (s.data.toList.drop (at_+i).toNat),⟨_,rfl,by omega,by omega,by omega,rfl,by omega,by simp,by simp⟩,?_⟩
  rintro x i D m w' ⟨rfl,hi0,hi7,hi1,rfl,hx0,hx,hg⟩ hF
  rw [hg] at h2
  refine ⟨λhlt=>?_,λhge=>?_⟩
  ·rw [aI_ (n:=at_+i) (by omega) (by omega),aI_ (n:=7*i) (by omega) (by omega)]
   have hb:=lW_ s (at_+i).toNat
   have hl:(at_+i).toNat<s.size:=by omega
   have hd:s.data.toList.drop (at_+i).toNat=UInt8.ofNat (aE_ s (at_+i).toNat) :: s.data.toList.drop (at_+(i+1)).toNat:=by
    have h:=iB_ hl
    have hlen:(at_+i).toNat<s.data.toList.length:=by rw [cV_];exact hl
    rw [List.drop_eq_getElem_cons hlen]
    rw [List.getElem?_eq_getElem hlen] at h
    rw [Option.some.inj h]
    congr 2
    omega
   rw [hd] at h2 hg
   generalize hc:aE_ s (at_+i).toNat=c at hb h2 hg ⊢
   have e3:(UInt8.ofNat c).toNat=c:=UInt8.toNat_ofNat_of_lt hb
   simp only [aF_,e3] at h2 hg
   have hmin:min (Int.toNat (7*i)) 64=7*i.toNat:=by show min (Int.toNat (7*i)) 64=_;omega
   have hpow:(2:Int) ^ (7*i.toNat)=((128 ^ i.toNat:Nat):Int):=by rw [Int.pow_mul];simp
   have hple:128 ^ i.toNat≤562949953421312:=by
    have:128 ^ i.toNat≤128 ^ 7:=Nat.pow_le_pow_right (by omega) (by omega)
    simpa using this
   have hxn:x<((128 ^ i.toNat:Nat):Int):=by simpa using hx
   have hm:c%128*128 ^ i.toNat≤127*128 ^ i.toNat:=Nat.mul_le_mul_right _ (by omega)
   have hor:IntKind.wrap .i64 (BitVec.toNat (BitVec.ofInt 64 x ||| BitVec.ofInt 64 (IntKind.wrap .i64 (IntKind.wrap .i64 (IntKind.wrap .u8 (BitVec.toNat (BitVec.ofInt 8 (c:Int) &&& BitVec.ofInt 8 127)))*2 ^ (min (Int.toNat (7*i)) 64))))) =
     ((x.toNat+c%128*128 ^ i.toNat:Nat):Int):=by
    rw [low7 c hb,hmin,sy_ hx0 (by rw [hpow];exact hxn) (by omega) ?_,hpow]
    ·simp;omega
    ·rw [hpow]
     have:((c%128:Nat):Int)*((128 ^ i.toNat:Nat):Int)=((c%128*128 ^ i.toNat:Nat):Int):=by simp
     rw [this];omega
   rw [hor]
   refine ⟨by omega,by omega,by omega,λhge=>?_,λhlt'=>?_⟩
   ·rw [if_pos (by omega)] at h2 hg
    refine ⟨λhi=>?_,λhi=>⟨λ_=>?_,λh=>absurd hge h⟩⟩
    ·rw [if_pos (by omega)] at h2
     exact cx_ rfl ⟨_,rfl,.init _ _,h2⟩
    ·rw [if_neg (by omega)] at hg
     refine ⟨_,?_,rfl,by rw [aI_ (n:=i+1) (by omega) (by omega)];omega,by rw [aI_ (n:=i+1) (by omega) (by omega)];omega,by rw [aI_ (n:=i+1) (by omega) (by omega)];omega,rfl,by omega,?_,?_⟩
     all_goals rw [aI_ (n:=i+1) (by omega) (by omega)]
     ·omega
     ·have e1:(i+1).toNat=i.toNat+1:=by omega
      rw [e1,Int.pow_succ]
      have:((128 ^ i.toNat:Nat):Int)=128 ^ i.toNat:=by simp
      rw [← this];omega
     ·have e1:(i+1).toNat=i.toNat+1:=by omega
      rw [e1,Int.toNat_natCast];exact hg
   ·rw [if_neg (by omega)] at h2
    refine ⟨λh=>absurd h hlt',λ_=>⟨λh0=>⟨λhi=>?_,λhi=>?_⟩,λh0=>?_⟩⟩
    ·rw [if_pos ⟨by omega,by omega⟩] at h2
     exact cx_ rfl ⟨_,rfl,.init _ _,h2⟩
    all_goals
     rw [if_neg (by omega)] at h2
     rw [aI_ (n:=at_+i+1) (by omega) (by omega)]
     have e4:at_+i+1=at_+((i.toNat+1:Nat):Int):=by omega
     rw [e4]
     exact h2
  ·have e:at_+i=s.size:=by omega
   have hnil:s.data.toList.drop (at_+i).toNat=[]:=by
    rw [List.drop_eq_nil_iff,e,cV_];omega
   rw [hnil] at h2
   exact cx_ rfl ⟨_,rfl,.init _ _,h2⟩
 ·exact ⟨false,rfl,λh=>by (cases h),λ_=>⟨.init _ w,cx_ rfl ⟨_,rfl,.init _ w,h1 ha⟩⟩⟩
theorem nc_ {s:ByteArray} {at_:Int} {w:World} {K:Value→World→Prop} (hs:s.size≤4611686018427387904) (ha:okAt s at_)
  (h1:∀n k,aF_ 0 0 (s.data.toList.drop at_.toNat)=.inl (n,k)→K (.tuple #[.int .i64 (back n),.int .i64 (at_+k),.nilIface]) w)
  (h2:∀c,aF_ 0 0 (s.data.toList.drop at_.toNat)=.inr c→∀v t x,v=.iface t x→K (.tuple #[.int .i64 0,.int .i64 at_,v]) w) :
  aa_ PR F.cS_ ⟨[.string s,.int .i64 at_]⟩ w K:=by
 refine cS_ s at_ S0 K w ?_
 refine eB_ hs (λh=>absurd ha h) λ_=>?_
 cases hg:aF_ 0 0 (s.data.toList.drop at_.toNat) with
 | inr c=>
  have e:∃v t x,j7_ s at_ (.inr c)=.tuple #[.int .i64 0,.int .i64 at_,v]∧v=.iface t x:=by
   unfold j7_;split
   ·rename_i h;cases h
   ·exact ⟨_,_,_,rfl,rfl⟩
   ·exact ⟨_,_,_,rfl,rfl⟩
  obtain ⟨v,t,x,e,hv⟩:=e
  rw [e]
  exact ⟨_,_,_,rfl,.init _ w,λh=>by (rw [hv] at h;cases h),λt' x' h=>h2 c hg v t x hv,.inr ⟨t,x,hv⟩⟩
 | inl r=>
  obtain ⟨n,k⟩:=r
  have hb:=ie_ _ 0 0 (by omega) (by simp) hg
  have h8:(128:Nat) ^ 8=72057594037927936:=by decide
  refine ⟨n,at_+k,.nilIface,rfl,.init _ w,λ_=>?_,(λt x h=>by cases h),.inl rfl⟩
  exact rb_ (by omega) ⟨_,rfl,.init _ w,h1 n k hg⟩
end Go.Vc
namespace Go.Vc
open Go
section
variable {S:Nat→Prop} {w0 wp w:World} {M:List Nat} {L:List Blk}
theorem Fr.mod {b:Nat} {cs cs':Array Value} {T:TypeId} (h:Fr S w0 wp M (⟨b,cs,T,true⟩ :: L) w) {w':World} {S':Nat→Prop} (g:Chg S' w w') (hb:w'.heap[b]? = some (.cells cs' T (0,0)))
  (hn:∀x,x∈L→¬S' x.b) (hs:∀k,k<w0.heap.size→S' k→S k):Fs S w0 (⟨b,cs',T,true⟩ :: L) w':=
 ⟨h.chg.trans g hs,.refl _ _,λx hx=>by
  rcases List.mem_cons.1 hx with rfl | hx
  ·exact hb
  ·exact g.get (h.loc x (List.mem_cons_of_mem _ hx)) (hn x hx),h.nodup,λx hx hw=>by
  rcases List.mem_cons.1 hx with rfl | hx
  ·exact h.new (⟨b,cs,T,true⟩:Blk) List.mem_cons_self hw
  ·exact h.new x (List.mem_cons_of_mem _ hx) hw⟩
theorem Fr.mod1 {b:Nat} {cs cs':Array Value} {T:TypeId} (h:Fr S w0 wp M (⟨b,cs,T,true⟩ :: L) w) {w':World} (g:Chg (· = b) w w') (hb:w'.heap[b]? = some (.cells cs' T (0,0))):Fs S w0 (⟨b,cs',T,true⟩ :: L) w':=
 h.mod g hb (λx hx e=>by
  have:=h.nodup
  rw [List.map_cons,List.nodup_cons] at this
  exact this.1 (List.mem_map.2 ⟨x,hx,e⟩)) λk hk e=>by
  have e':k=b:=e
  rcases h.new _ List.mem_cons_self rfl with h1 | h1
  ·rw [e'];exact h1
  ·simp only [] at h1;omega
theorem Fr.app2 (h:Fr S w0 wp M L w) {w':World} {q:Option Addr} (g:Chg (aS_ q) w w') (m n:Nat) (ho:Off (λk=>k<m) q) (hq:∀a,q=some a→a.block<n) (hL:∀x,x∈L→x.b<m∨n≤x.b) (hm:w0.heap.size≤m):Fs S w0 L w':=
 h.step g (λx hx ⟨a,ha,e⟩=>by
  have h1:=hq a ha;have h2:¬a.block<m:=ho a ha;have h3:=hL x hx;omega) λk hk ⟨a,ha,e⟩=>by
  have h2:¬a.block<m:=ho a ha
  omega
end
theorem Off.mono {n m:Nat} {q:Option Addr} (h:Off (λk=>k<m) q) (hm:n≤m):Off (λk=>k<n) q:=λa ha hlt=>h a ha (Nat.lt_of_lt_of_le hlt hm)
theorem Off.le {m:Nat} {q:Option Addr} (h:Off (λk=>k<m) q):∀a,q=some a→m≤a.block:=λa ha=>Nat.le_of_not_lt (h a ha)
def iv (n:Int):Value:=.int .i64 n
theorem o5_:PR.underlying T.dP_=some (.slice T.int):=by kernel_rfl
theorem gQ_ {w:World} {q q2:Option Addr} {l c l2 c2:Nat} {xs ys:List Int} {K:Value→World→Prop}
  (ho:Own T.int 1 w q c (xs.map iv)) (hl:l=xs.length) (hlc:l≤c) (hs:Sl w q2 (ys.map iv)) (hl2:l2=ys.length) (hroom:l+l2≤4398046511104)
  (hK:∀q' c' w',Own T.int 1 w' q' c' ((xs++ys).map iv)→l+l2≤c'→Chg (aS_ q) w w'→(∀a,q'=some a→q=some a∨a=⟨w.heap.size,0,none⟩)→K (.slice q' (l+l2) c') w') :
  rn PR (Builtin.append_ #[T.dP_,T.dP_] T.dP_ #[.slice q l c,.slice q2 l2 c2]) K w:=
 app1 o5_ sS_ rfl (by decide) ho (by simp [hl]) hlc hs (by simp [hl2]) (λy hy=>by obtain ⟨b,_,rfl⟩:=List.mem_map.1 hy;rfl) (by omega) λq' c' w' h=>hK q' c' w' (by simpa using h)
theorem ia_ {l:List Int} {k:Nat} (h:k<l.length):(l.map iv)[k]? = some (iv (l.getD k 0)):=by simp [h]
theorem kD_ {l:List Int} {k:Nat} (h:k<l.length):l.getD k 0=l[k]:=by simp [h]
theorem w64 {n:Int} (h0 : -9223372036854775808≤n) (h1:n≤9223372036854775807):IntKind.wrap .i64 n=n:=aI_ h0 h1
theorem wrP {k:Nat} (h:0<k) (h':k<9223372036854775807):IntKind.wrap .i64 ((k:Int) - 1)=((k - 1:Nat):Int):=by
 rw [aI_ (by omega) (by omega)];omega
end Go.Vc
namespace Go.Vc
open Go
section
variable {P:Program}
theorem eP_ {ts xt t e:TypeId} {i:TypeInfo} {z:Value} (hu:P.underlying ts=some (.slice e)) (hx:P.underlying xt=some (.slice e)) (hi:P.info? e=some i) (hz:i.zero=some z)
  (hzs:z.cells.size=i.size) (hby:i.bytes≠0) {w:World} {q q2:Option Addr} {l c l2 c2:Nat} {xs ys:List Value} {K:Value→World→Prop}
  (ho:Own e i.size w q c xs) (hl:xs.length=l*i.size) (hlc:l≤c) (hs:Sl w q2 ys) (hl2:ys.length=l2*i.size) (hone:∀y,y∈ys→oneC y=true)
  (hroom:(2*(l+l2)+1024)*i.bytes≤281474976710656)
  (hK:∀q' c' w',Own e i.size w' q' c' (xs++ys)→l+l2≤c'→Chg (aS_ q) w w'→(∀a,q'=some a→q=some a∨a=⟨w.heap.size,0,Option.none⟩)→(c<l+l2∨ys=[]→Grow w w')→
   K (.slice q' (l+l2) c') w') :
  sv P (Builtin.append_ #[ts,xt] t ⟨[.slice q l c,.slice q2 l2 c2]⟩) K w:=by
 have ld:∀(w:World) (q:Option Addr) (n c:Nat) (xs:List Value) (K:Array Value→World→Prop),Sl w q xs→xs.length=n*i.size→K xs.toArray w→sv P (Builtin.firstCells i.size n (.slice q n c)) K w:=by
  intro w q n c xs K h hl hK
  rcases h with rfl | ⟨b,o,rfl,h⟩
  ·cases q with
   | none=>exact hK
   | some a=>
    have:n*i.size=0:=by simpa using hl.symm
    simp only [Builtin.firstCells,this]
    exact hK
  ·simp only [Builtin.firstCells]
   exact cc_ (by omega) h hK
 unfold Builtin.append_
 simp only [List.getElem?_toArray,List.getElem?_cons_zero,List.getElem?_cons_succ,aG_,ar_ hu,ar_ hx,bS_ hi,a1_,Bool.false_eq_true,if_false,Builtin.lenOf,
  hx_,bw_ hi,bH_ hi hz,Bool.not_false,if_true,false_or]
 have ld2:=λ(w:World) (K:Array Value→World→Prop) (h:Sl w q2 ys)=>ld w q2 l2 c2 ys K h hl2
 by_cases hin:l+l2≤c
 ·rw [if_pos hin]
  refine ld2 _ _ hs ?_
  rcases ho with ⟨rfl,rfl,rfl⟩ | ⟨b,o,cs,rfl,hb,h1,h1',h2,h3⟩
  ·have:l2=0:=by omega
   subst this
   have:ys=[]:=by simpa using hl2
   subst this
   have:l=0:=by omega
   subst this
   exact hK none 0 w (.nil _ _ _) (by omega) (.refl _ _) (λa h=>by cases h) (λ_=>.refl _ _)
  ·have hle:(l+l2)*i.size≤c*i.size:=Nat.mul_le_mul_right _ hin
   rw [Nat.add_mul] at hle
   simp only [aG_,a1_,an_]
   by_cases hy:ys=[]
   ·subst hy
    have hl20:l2*i.size=0:=by simpa using hl2.symm
    exact hK _ c w (.inr ⟨b,o,cs,rfl,hb,by omega,h1',by simpa using h2,λj hj=>by simpa using h3 j (by simpa using hj)⟩) hin (.refl _ _) (λa h=>.inl h) (λ_=>.refl _ _)
   refine bR_ (o:=o+l*i.size) ys 0 cs w hb (by omega) hone λw' cs' hb' hs' hout hin' hsz g=>?_
   refine hK _ c w' (.inr ⟨b,o,cs',rfl,hb',by omega,h1',by simp;omega,λj hj=>?_⟩) hin (g.mono λk _ h=>⟨_,rfl,h⟩) (λa h=>.inl h) (λh=>by rcases h with h | h;omega;exact absurd h hy)
   simp only [List.length_append] at hj
   by_cases hjl:j<xs.length
   ·rw [hout (o+j) (by omega),h3 j hjl,List.getElem?_append_left hjl]
   ·have:=hin' (j - xs.length) (by omega)
    rw [show o+l*i.size+0+(j - xs.length)=o+j by omega] at this
    rw [this,List.getElem?_append_right (by omega)]
 ·rw [if_neg hin]
  have hcap:=gj_ (n:=l+l2) (c:=c) (by omega)
  have hb1:¬Builtin.nextslicecap (l+l2) c*i.bytes>2 ^ 48:=by
   have h1:Builtin.nextslicecap (l+l2) c*i.bytes≤(2*(l+l2)+1024)*i.bytes:=Nat.mul_le_mul_right _ hcap
   omega
  rw [if_neg (λh=>hby h.2),if_neg hb1,hy_]
  unfold ChV
  rw [if_neg (by simp [Question.forced])]
  simp only [df_]
  have hcut:l+l2≤(Question.appendCap (l+l2) c e).cut (w.tape w.drawn (Question.appendCap (l+l2) c e)):=by
   simp only [Question.cut];omega
  have hsmall:l+l2≤9223372036854775807:=by
   have h1:(2*(l+l2)+1024)*1≤(2*(l+l2)+1024)*i.bytes:=Nat.mul_le_mul_left _ (by omega)
   omega
  have hcut2:(Question.appendCap (l+l2) c e).cut (w.tape w.drawn (Question.appendCap (l+l2) c e))≤9223372036854775807:=by
   simp only [Question.cut]
   have:w.tape w.drawn (Question.appendCap (l+l2) c e)%(2 ^ 63 - (l+l2))<2 ^ 63 - (l+l2):=Nat.mod_lt _ (by omega)
   omega
  generalize (Question.appendCap (l+l2) c e).cut (w.tape w.drawn (Question.appendCap (l+l2) c e))=n at hcut hcut2 ⊢
  refine ld _ _ _ _ xs _ (ho.sl.grow (Chg.drew w)) hl ?_
  refine ld2 _ _ (hs.grow (Chg.drew w)) ?_
  unfold newRow
  rw [aG_,dZ_]
  refine newV λb w1 hb hb1 hs1 g1=>?_
  rw [a1_]
  have hb':b=w.heap.size:=hb
  have hlt:¬b<w.heap.size:=by omega
  refine hK (some ⟨b,0,none⟩) n w1 (.inr ⟨b,0,_,rfl,hb1,?_,hcut2,?_,λj hj=>?_⟩) hcut ((Chg.drew w).trans g1).chg ?_ ?_
  ·simp only [Array.size_append,cZ_,hzs,List.size_toArray,hl,hl2,Nat.zero_add]
   rw [← Nat.add_mul,← Nat.add_mul]
   congr 1;omega
  ·simp only [List.length_append,hl,hl2,← Nat.add_mul]
   exact Nat.mul_le_mul_right _ hcut
  ·simp only [Nat.zero_add]
   rw [Array.getElem?_append_left (by simpa using hj)]
   simp
  ·rintro a h;cases h;rw [hb'];exact .inr rfl
  ·intro _;exact (Chg.drew w).trans g1
end
end Go.Vc
