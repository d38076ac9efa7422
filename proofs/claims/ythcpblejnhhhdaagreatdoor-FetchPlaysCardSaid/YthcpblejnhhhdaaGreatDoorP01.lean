/-
  A part of the proof of the statement FetchPlaysCardSaid, in Lean: Lb2, Fr, Sy1, Sy2, Sy3. By an AI agent.
-/
import Derived.Test.YthcpblejnhhhdaaGreatDoorP00
set_option linter.unusedVariables false
set_option linter.unusedSimpArgs false
set_option maxRecDepth 100000
namespace Go.Vc
open Go
section
variable {P:Program}
theorem aH_ {α β:Type} (x:Sem α) (f:α→Sem β) {K:β→World→Prop} {w:World} : sv P (x >>= f) K w↔sv P x (λa w=>sv P (f a) K w) w:=by
  have h:∀(x:Sem α) (w:World),sv P (x.bind f) K w=sv P x (λa w=>sv P (f a) K w) w:=by
    intro x
    induction x with
    | pure a=>intro w;rfl
    | load m a k ih=>intro w;simp only [Sem.bind,sv,ih]
    | store m a v k ih=>intro w;simp only [Sem.bind,sv,ih]
    | new o k ih=>intro w;simp only [Sem.bind,sv,ih]
    | shape r k ih=>intro w;simp only [Sem.bind,sv,ih]
    | freeze a n k ih=>intro w;simp only [Sem.bind,sv,ih]
    | frozen a k ih=>intro w;simp only [Sem.bind,sv,ih]
    | getObj r k ih=>intro w;simp only [Sem.bind,sv,ih]
    | setObj r o k ih=>intro w;simp only [Sem.bind,sv,ih]
    | choose q k ih=>intro w;simp only [Sem.bind,sv,ih]
    | sys c k ih=>intro w;rfl
    | program k ih=>intro w;simp only [Sem.bind,sv,ih]
    | mark m k ih=>intro w;simp only [Sem.bind,sv,ih]
    | halt h=>intro w;rfl
  exact Iff.of_eq (h x w)
theorem a3_ {α:Type} (a:α) {K:α→World→Prop} {w:World} : sv P (pure a:Sem α) K w↔K a w:=Iff.rfl
theorem nD_ {K:Program→World→Prop} {w:World} : sv P program K w↔K P w:=Iff.rfl
theorem r8_ {a:Addr} {K:Value→World→Prop} {w:World} : sv P (load a) K w↔LdC w a λv=>K v w:=Iff.rfl
theorem qM_ {a:Addr} {v:Value} {K:Unit→World→Prop} {w:World} : sv P (store a v) K w↔StC w a v λw=>K () w:=Iff.rfl
theorem fA_ {o:Obj} {K:Nat→World→Prop} {w:World} : sv P (newObj o) K w↔NewV w o K:=Iff.rfl
theorem hF_ {q:Question} {K:Nat→World→Prop} {w:World} : sv P (choose q) K w↔ChV w q K:=Iff.rfl
theorem eA_ {n:Nat} {K:Unit→World→Prop} {w:World} : sv P (askRoom n) K w↔K () w:=by unfold askRoom;split <;> exact Iff.rfl
theorem jd_ {α:Type} (c:Prop) [Decidable c] (x y:Sem α) {K:α→World→Prop} {w:World} : sv P (if c then x else y) K w↔if c then sv P x K w else sv P y K w:=by split <;> exact Iff.rfl
theorem ao_ {t:TypeId} {d:TypeDesc} (h:P.underlying t=some d) {K:TypeDesc→World→Prop} {w:World} : sv P (underlying t) K w↔K d w:=by
  show sv P (match P.underlying t with | some d=>pure d | none=>stuck "no such type") K w↔_
  rw [h];exact Iff.rfl
theorem bS_ {t:TypeId} {i:TypeInfo} (h:P.info? t=some i) {K:TypeInfo→World→Prop} {w:World} : sv P (typeInfo t) K w↔K i w:=by
  show sv P (match P.info? t with | some d=>pure d | none=>stuck "no such type") K w↔_
  rw [h];exact Iff.rfl
theorem b8_ {t:TypeId} {i:TypeInfo} (h:P.info? t=some i) {K:Nat→World→Prop} {w:World} : sv P (sizeOf t) K w↔K i.size w:=by
  unfold sizeOf;rw [aH_,bS_ h];exact Iff.rfl
theorem b7_ {t:TypeId} {i:TypeInfo} {z:Value} (h:P.info? t=some i) (hz:i.zero=some z) {K:Value→World→Prop} {w:World} : sv P (zeroValue t) K w↔K z w:=by
  unfold zeroValue;rw [aH_,bS_ h,hz];exact Iff.rfl
theorem gZ_ {b o:Nat} {K:Array Value→World→Prop} {w:World} : ∀(xs:List Value) (i:Nat) (acc:Array Value),
    (∀j,j<xs.length→w.cell? ⟨b,o+i+j,none⟩=xs[j]?)→K (acc++xs.toArray) w→sv P (loadCellsFrom ⟨b,o,none⟩ i xs.length acc) K w:=by
  intro xs
  induction xs with
  | nil=>intro i acc _ hK;simpa [loadCellsFrom,a3_] using hK
  | cons x xs ih=>
    intro i acc h hK
    simp only [List.length_cons,loadCellsFrom]
    rw [aH_,r8_]
    refine ⟨x,by rw [au_];simpa using h 0 (by simp),?_⟩
    refine ih (i+1) _ (λj hj=>?_) (by simpa using hK)
    have:=h (j+1) (by simpa using hj)
    rw [show o+(i+1)+j=o+i+(j+1) by omega]
    simpa using this
theorem b9_ {b o:Nat} {K:Array Value→World→Prop} {w:World} {xs:List Value} {n:Nat} (hn:n=xs.length) (h:i7_ w b o xs) (hK:K xs.toArray w) :
    sv P (loadCells ⟨b,o,none⟩ n) K w:=by
  subst hn
  refine gZ_ xs 0 #[] (λj hj=>?_) (by simpa using hK)
  rw [Nat.add_zero,h.cell (v:=xs[j]) (by simp [hj])]
  simp [hj]
theorem bH_ {b o:Nat} {T:TypeId} {K:Unit→World→Prop} : ∀(ys:List Value) (i:Nat) (cs:Array Value) (w:World),
    w.heap[b]? = some (.cells cs T (0,0))→o+i+ys.length≤cs.size→(∀y,y∈ys→oneC y=true)→
    (∀w' cs',w'.heap[b]? = some (.cells cs' T (0,0))→cs'.size=cs.size→(∀j,j<o+i∨o+i+ys.length≤j→cs'[j]? = cs[j]?)→(∀j,j<ys.length→cs'[o+i+j]? = ys[j]?)→
      w'.heap.size=w.heap.size→Chg (· = b) w w'→K () w')→
    sv P (storeCells ⟨b,o,none⟩ ys i) K w:=by
  intro ys
  induction ys with
  | nil=>
    intro i cs w hb _ _ hK
    exact hK w cs hb rfl (λj _=>rfl) (λj hj=>by simp at hj) rfl (.refl _ _)
  | cons y ys ih=>
    intro i cs w hb hl ho hK
    simp only [List.length_cons] at hl
    rw [storeCells,aH_,qM_,au_]
    refine stC hb (by omega) (ho y (by simp)) λw1 hb1 hs1 g1=>?_
    refine ih (i+1) _ w1 hb1 (by simp;omega) (λz hz=>ho z (by simp [hz])) λw2 cs2 hb2 hs2 hout hin hsz g2=>?_
    refine hK w2 cs2 hb2 (by simpa using hs2) (λj hj=>?_) (λj hj=>?_) (hsz.trans hs1) (g1.trans g2 λ_ _ h=>h)
    · simp only [List.length_cons] at hj
      rw [hout j (by omega),Array.getElem?_setIfInBounds_ne (by omega)]
    · cases j with
      | zero=>
        rw [hout _ (by omega)]
        have:o+i<cs.size:=by omega
        simp [this]
      | succ j=>
        have:=hin j (by simpa using hj)
        rw [show o+i+(j+1)=o+(i+1)+j by omega,this];simp
theorem lw_ (n:Nat):∀(r c:Nat),c<n→Builtin.growBy n r c≤2*n+1024
  | 0,c,h=>by simp [Builtin.growBy];omega
  | r+1,c,h=>by
    unfold Builtin.growBy
    rw [if_neg (by omega)]
    by_cases h2:c+(c+768) / 4<n
    · exact lw_ n r _ h2
    · cases r with
      | zero=>simp [Builtin.growBy];omega
      | succ r=>unfold Builtin.growBy;rw [if_pos (by omega)];omega
theorem gs_ {n c:Nat} (h:c<n):Builtin.nextslicecap n c≤2*n+1024:=by
  unfold Builtin.nextslicecap
  split
  · omega
  · split
    · omega
    · exact lw_ n 4 c h
theorem c9_ (z:Array Value) (n:Nat):(Builtin.zeroCells z n).size=n*z.size:=by simp [Builtin.zeroCells]
theorem oR_ {ts xt t e:TypeId} {i:TypeInfo} {z:Value} (hu:P.underlying ts=some (.slice e)) (hx:P.underlying xt=some (.slice e)) (hi:P.info? e=some i) (hz:i.zero=some z)
    (hzs:z.cells.size=i.size) (hby:i.bytes≠0) {w:World} {q q2:Option Addr} {l c l2 c2:Nat} {xs ys:List Value} {K:Value→World→Prop}
    (ho:Own e i.size w q c xs) (hl:xs.length=l*i.size) (hlc:l≤c) (hs:Sl w q2 ys) (hl2:ys.length=l2*i.size) (hone:∀y,y∈ys→oneC y=true)
    (hroom:(2*(l+l2)+1024)*i.bytes≤281474976710656)
    (hK:∀q' c' w',Own e i.size w' q' c' (xs++ys)→l+l2≤c'→Chg (am_ q) w w'→(∀a,q'=some a→q=some a∨a=⟨w.heap.size,0,Option.none⟩)→
      K (.slice q' (l+l2) c') w') :
    sv P (Builtin.append_ #[ts,xt] t ⟨[.slice q l c,.slice q2 l2 c2]⟩) K w:=by
  have ld:∀(w:World) (q:Option Addr) (n c:Nat) (xs:List Value) (K:Array Value→World→Prop),Sl w q xs→xs.length=n*i.size→K xs.toArray w→sv P (Builtin.firstCells i.size n (.slice q n c)) K w:=by
    intro w q n c xs K h hl hK
    rcases h with rfl | ⟨b,o,rfl,h⟩
    · cases q with
      | none=>exact hK
      | some a=>
        have:n*i.size=0:=by simpa using hl.symm
        simp only [Builtin.firstCells,this]
        exact hK
    · simp only [Builtin.firstCells]
      exact b9_ (by omega) h hK
  unfold Builtin.append_
  simp only [List.getElem?_toArray,List.getElem?_cons_zero,List.getElem?_cons_succ,aH_,ao_ hu,ao_ hx,b8_ hi,a3_,Bool.false_eq_true,if_false,Builtin.lenOf,
    jd_,bS_ hi,b7_ hi hz,Bool.not_false,if_true,false_or]
  have ld2:=λ(w:World) (K:Array Value→World→Prop) (h:Sl w q2 ys)=>ld w q2 l2 c2 ys K h hl2
  by_cases hin:l+l2≤c
  · rw [if_pos hin]
    refine ld2 _ _ hs ?_
    rcases ho with ⟨rfl,rfl,rfl⟩ | ⟨b,o,cs,rfl,hb,h1,h1',h2,h3⟩
    · have:l2=0:=by omega
      subst this
      have:ys=[]:=by simpa using hl2
      subst this
      have:l=0:=by omega
      subst this
      exact hK none 0 w (.nil _ _ _) (by omega) (.refl _ _) (λa h=>by cases h)
    · have hle:(l+l2)*i.size≤c*i.size:=Nat.mul_le_mul_right _ hin
      rw [Nat.add_mul] at hle
      simp only [aH_,a3_,au_]
      refine bH_ (o:=o+l*i.size) ys 0 cs w hb (by omega) hone λw' cs' hb' hs' hout hin' hsz g=>?_
      refine hK _ c w' (.inr ⟨b,o,cs',rfl,hb',by omega,h1',by simp;omega,λj hj=>?_⟩) hin (g.mono λk _ h=>⟨_,rfl,h⟩) (λa h=>.inl h)
      simp only [List.length_append] at hj
      by_cases hjl:j<xs.length
      · rw [hout (o+j) (by omega),h3 j hjl,List.getElem?_append_left hjl]
      · have:=hin' (j - xs.length) (by omega)
        rw [show o+l*i.size+0+(j - xs.length)=o+j by omega] at this
        rw [this,List.getElem?_append_right (by omega)]
  · rw [if_neg hin]
    have hcap:=gs_ (n:=l+l2) (c:=c) (by omega)
    have hb1:¬Builtin.nextslicecap (l+l2) c*i.bytes>2 ^ 48:=by
      have h1:Builtin.nextslicecap (l+l2) c*i.bytes≤(2*(l+l2)+1024)*i.bytes:=Nat.mul_le_mul_right _ hcap
      omega
    rw [if_neg (λh=>hby h.2),if_neg hb1,hF_]
    unfold ChV
    rw [if_neg (by simp [Question.forced])]
    simp only [eA_]
    have hcut:l+l2≤(Question.appendCap (l+l2) c e).cut (w.tape w.drawn (Question.appendCap (l+l2) c e)):=by
      simp only [Question.cut];omega
    have hsmall:l+l2≤9223372036854775807:=by
      have h1:(2*(l+l2)+1024)*1≤(2*(l+l2)+1024)*i.bytes:=Nat.mul_le_mul_left _ (by omega)
      omega
    have hcut2:(Question.appendCap (l+l2) c e).cut (w.tape w.drawn (Question.appendCap (l+l2) c e))≤9223372036854775807:=by
      simp only [Question.cut]
      have:w.tape w.drawn (Question.appendCap (l+l2) c e)%(2 ^ 63 - (l+l2))<2 ^ 63 - (l+l2):=Nat.mod_lt _ (by omega)
      omega
    generalize (Question.appendCap (l+l2) c e).cut (w.tape w.drawn (Question.appendCap (l+l2) c e))=n at hcut hcut2 ⊢
    refine ld _ _ _ _ xs _ (ho.sl.grow (Chg.drew w)) hl ?_
    refine ld2 _ _ (hs.grow (Chg.drew w)) ?_
    unfold newRow
    rw [aH_,fA_]
    refine newV λb w1 hb hb1 hs1 g1=>?_
    rw [a3_]
    have hb':b=w.heap.size:=hb
    have hlt:¬b<w.heap.size:=by omega
    refine hK (some ⟨b,0,none⟩) n w1 (.inr ⟨b,0,_,rfl,hb1,?_,hcut2,?_,λj hj=>?_⟩) hcut ((Chg.drew w).trans g1).chg ?_
    · simp only [Array.size_append,c9_,hzs,List.size_toArray,hl,hl2,Nat.zero_add]
      rw [← Nat.add_mul,← Nat.add_mul]
      congr 1;omega
    · simp only [List.length_append,hl,hl2,← Nat.add_mul]
      exact Nat.mul_le_mul_right _ hcut
    · simp only [Nat.zero_add]
      rw [Array.getElem?_append_left (by simpa using hj)]
      simp
    · rintro a h;cases h;rw [hb'];exact .inr rfl
theorem jV_ {ts xt t e:TypeId} {i:TypeInfo} (hu:P.underlying ts=some (.slice e)) (hx:P.underlying xt=some .string) (hi:P.info? e=some i) (hz:i.zero=some (.int .u8 0))
    (hk:i.size=1) (hby:i.bytes=1) {w:World} {q:Option Addr} {l c:Nat} {xs:List Value} {s:ByteArray} {K:Value→World→Prop}
    (ho:Own e 1 w q c xs) (hl:xs.length=l) (hlc:l≤c) (hroom:l+s.size≤70368744177664)
    (hK:∀q' c' w',Own e 1 w' q' c' (xs++s.data.toList.map λb=>.int .u8 b.toNat)→l+s.size≤c'→Chg (am_ q) w w'→(∀a,q'=some a→q=some a∨a=⟨w.heap.size,0,Option.none⟩)→
      K (.slice q' (l+s.size) c') w') :
    sv P (Builtin.append_ #[ts,xt] t ⟨[.slice q l c,.string s]⟩) K w:=by
  have ld:∀(w:World) (q:Option Addr) (n c:Nat) (xs:List Value) (K:Array Value→World→Prop),Sl w q xs→xs.length=n→K xs.toArray w→sv P (Builtin.firstCells i.size n (.slice q n c)) K w:=by
    intro w q n c xs K h hl hK
    rcases h with rfl | ⟨b,o,rfl,h⟩
    · cases q with
      | none=>exact hK
      | some a=>
        have:n*i.size=0:=by rw [hk];simpa using hl.symm
        simp only [Builtin.firstCells,this]
        exact hK
    · simp only [Builtin.firstCells]
      exact b9_ (by rw [hk];omega) h hK
  have ls:∀(w:World) (K:Array Value→World→Prop),K (s.data.toList.map λb=>.int .u8 b.toNat).toArray w→sv P (Builtin.firstCells i.size s.size (.string s)) K w:=by
    intro w K hK
    simp only [Builtin.firstCells,a3_]
    have e:(s.extract 0 s.size).data.map (λb=>(.int .u8 b.toNat:Value))=(s.data.toList.map λb=>.int .u8 b.toNat).toArray:=by
      have h1:s.extract 0 s.size=s:=by
        apply ByteArray.ext
        rw [ByteArray.data_extract]
        exact Array.extract_size
      rw [h1];apply Array.toList_inj.1;simp
    rw [e];exact hK
  have hsz:(s.data.toList.map λb=>(.int .u8 b.toNat:Value)).length=s.size:=by rw [List.length_map];exact Array.length_toList
  unfold Builtin.append_
  simp only [List.getElem?_toArray,List.getElem?_cons_zero,List.getElem?_cons_succ,aH_,ao_ hu,ao_ hx,b8_ hi,a3_,Bool.false_eq_true,if_false,Builtin.lenOf,
    jd_,bS_ hi,b7_ hi hz,Bool.not_false,if_true,false_or]
  by_cases hin:l+s.size≤c
  · rw [if_pos hin]
    refine ls _ _ ?_
    rcases ho with ⟨rfl,rfl,rfl⟩ | ⟨b,o,cs,rfl,hb,h1,h1',h2,h3⟩
    · have:s.size=0:=by omega
      rw [this] at hK hsz ⊢
      have h0:(s.data.toList.map λb=>(.int .u8 b.toNat:Value))=[]:=List.eq_nil_of_length_eq_zero hsz
      rw [h0] at hK
      have:l=0:=by simpa using hl.symm
      subst this
      exact hK none 0 w (.nil _ _ _) (by omega) (.refl _ _) (λa h=>by cases h)
    · simp only [aH_,a3_,au_]
      refine bH_ (o:=o+l*i.size) (s.data.toList.map λb=>.int .u8 b.toNat) 0 cs w hb (by rw [hsz,hk];omega) (λy hy=>by obtain ⟨b,_,rfl⟩:=List.mem_map.1 hy;rfl) λw' cs' hb' hs' hout hin' hsz' g=>?_
      rw [hk] at hout hin'
      refine hK _ c w' (.inr ⟨b,o,cs',rfl,hb',by omega,h1',by rw [List.length_append,hsz];omega,λj hj=>?_⟩) hin (g.mono λk _ h=>⟨_,rfl,h⟩) (λa h=>.inl h)
      rw [List.length_append,hsz] at hj
      by_cases hjl:j<xs.length
      · rw [hout (o+j) (by omega),h3 j hjl,List.getElem?_append_left hjl]
      · have:=hin' (j - xs.length) (by omega)
        rw [show o+l*1+0+(j - xs.length)=o+j by omega] at this
        rw [this,List.getElem?_append_right (by omega)]
  · rw [if_neg hin]
    have hcap:=gs_ (n:=l+s.size) (c:=c) (by omega)
    rw [hby,hk]
    rw [hk] at ld ls
    rw [if_neg (λh=>by simp at h),if_neg (by omega),hF_]
    unfold ChV
    rw [if_neg (by simp [Question.forced])]
    simp only [eA_]
    have hcut:l+s.size≤(Question.appendCap (l+s.size) c e).cut (w.tape w.drawn (Question.appendCap (l+s.size) c e)):=by
      simp only [Question.cut];omega
    have hcut2:(Question.appendCap (l+s.size) c e).cut (w.tape w.drawn (Question.appendCap (l+s.size) c e))≤9223372036854775807:=by
      simp only [Question.cut]
      have:w.tape w.drawn (Question.appendCap (l+s.size) c e)%(2 ^ 63 - (l+s.size))<2 ^ 63 - (l+s.size):=Nat.mod_lt _ (by omega)
      omega
    generalize (Question.appendCap (l+s.size) c e).cut (w.tape w.drawn (Question.appendCap (l+s.size) c e))=n at hcut hcut2 ⊢
    refine ld _ _ _ _ xs _ (ho.sl.grow (Chg.drew w)) hl ?_
    refine ls _ _ ?_
    unfold newRow
    rw [aH_,fA_]
    refine newV λb w1 hb hb1 hs1 g1=>?_
    rw [a3_]
    have hb':b=w.heap.size:=hb
    refine hK (some ⟨b,0,none⟩) n w1 (.inr ⟨b,0,_,rfl,hb1,?_,hcut2,?_,λj hj=>?_⟩) hcut ((Chg.drew w).trans g1).chg ?_
    · simp only [Array.size_append,c9_,List.size_toArray,hsz,hl,Nat.zero_add]
      have:(Value.cells (.int .u8 0)).size=1:=rfl
      rw [this];omega
    · rw [List.length_append,hsz];omega
    · simp only [Nat.zero_add]
      rw [Array.getElem?_append_left (by simpa using hj)]
      simp
    · rintro a h;cases h;rw [hb'];exact .inr rfl
theorem f6_ {ts xt t e:TypeId} {i:TypeInfo} {z:Value} {k by_:Nat} (hu:P.underlying ts=some (.slice e)) (hx:P.underlying xt=some (.slice e)) (hi:P.info? e=some i) (hz:i.zero=some z)
    (hk:i.size=k) (hb:i.bytes=by_) (hzs:z.cells.size=k) (hby:by_≠0) {w:World} {q q2:Option Addr} {l c l2 c2:Nat} {xs ys:List Value} {K:Value→World→Prop}
    (ho:Own e k w q c xs) (hl:xs.length=l*k) (hlc:l≤c) (hs:Sl w q2 ys) (hl2:ys.length=l2*k) (hone:∀y,y∈ys→oneC y=true)
    (hroom:(2*(l+l2)+1024)*by_≤281474976710656)
    (hK:∀q' c' w',Own e k w' q' c' (xs++ys)→l+l2≤c'→Chg (am_ q) w w'→(∀a,q'=some a→q=some a∨a=⟨w.heap.size,0,Option.none⟩)→
      K (.slice q' (l+l2) c') w') :
    sv P (Builtin.append_ #[ts,xt] t ⟨[.slice q l c,.slice q2 l2 c2]⟩) K w:=by
  subst hk;subst hb
  exact oR_ hu hx hi hz hzs hby ho hl hlc hs hl2 hone hroom hK
end
theorem Grow.own {a b c:World} {q:Option Addr} (g:Grow a b) (h:Chg (am_ q) b c) (ho:Off (λk=>k<a.heap.size) q):Grow a c:=
  Chg.trans g h λi hi=>by rintro ⟨x,rfl,rfl⟩;exact ho x rfl hi
theorem Off.next {n m:Nat} {q q':Option Addr} (ho:Off (λk=>k<n) q) (hq:∀a,q'=some a→q=some a∨a=⟨m,0,Option.none⟩) (hm:n≤m):Off (λk=>k<n) q':=by
  intro a ha hlt
  rcases hq a ha with h | h
  · exact ho a h hlt
  · subst h;simp at hlt;omega
theorem Off.none (S:Nat→Prop):Off S none:=λa h=>by cases h
theorem Off.fresh {b o n:Nat} (h:n≤b):Off (λk=>k<n) (some ⟨b,o,Option.none⟩):=λa ha hlt=>by cases ha;simp at hlt;omega
theorem Sl.one {w:World} {b:Nat} {v:Value} {T:TypeId} {fz:Nat × Nat} (h:w.heap[b]? = some (.cells #[v] T fz)):Sl w (some ⟨b,0,Option.none⟩) [v]:=
  .inr ⟨b,0,rfl,_,_,_,h,λi hi=>by simp at hi;subst hi;rfl⟩
end Go.Vc
namespace Go.Vc
open Go
structure Blk where
  b:Nat
  cs:Array Value
  T:TypeId
  wr:Bool
structure Fr (S:Nat→Prop) (w0 wp:World) (M:List Nat) (L:List Blk) (w:World):Prop where
  chg:Chg S w0 w
  stp:Chg (·∈M) wp w
  loc:∀x,x∈L→w.heap[x.b]? = some (.cells x.cs x.T (0,0))
  nodup:(L.map (·.b)).Nodup
  new:∀x,x∈L→x.wr=true→S x.b∨w0.heap.size≤x.b
abbrev Fs (S:Nat→Prop) (w0:World) (L:List Blk) (w:World):Prop:=Fr S w0 w [] L w
section
variable {S:Nat→Prop} {w0 wp w:World} {M:List Nat} {L:List Blk}
theorem Fr.init (S:Nat→Prop) (w:World):Fs S w [] w:=⟨.refl _ _,.refl _ _,(λx h=>by cases h),List.nodup_nil,(λx h=>by cases h)⟩
theorem Fr.entry {b:Nat} {cs:Array Value} {T:TypeId} {wr:Bool} (h:Fs S w L w) (hb:w.heap[b]? = some (.cells cs T (0,0))) (hn:∀x,x∈L→x.b≠b) (hw:wr=true→S b):Fs S w (⟨b,cs,T,wr⟩ :: L) w:=
  ⟨h.chg,h.stp,λx hx=>by
    rcases List.mem_cons.1 hx with rfl | hx
    · exact hb
    · exact h.loc x hx,by
    rw [List.map_cons,List.nodup_cons]
    exact ⟨λhm=>by obtain ⟨x,hx,he⟩:=List.mem_map.1 hm;exact hn x hx he,h.nodup⟩,λx hx hwx=>by
    rcases List.mem_cons.1 hx with rfl | hx
    · exact .inl (hw hwx)
    · exact h.new x hx hwx⟩
theorem Fr.blk (h:Fr S w0 wp M L w) (j:Nat) {x:Blk} (hj:L[j]? = some x):w.heap[x.b]? = some (.cells x.cs x.T (0,0)):=h.loc x (List.mem_of_getElem? hj)
theorem Fr.ld (h:Fr S w0 wp M L w) (j i:Nat) {x:Blk} {a:Addr} {v:Value} (hj:L[j]? = some x) (ha:a=⟨x.b,i,none⟩) (hv:x.cs[i]? = some v):w.cell? a=some v:=by
  subst ha;rw [aw_ (h.blk j hj),hv]
theorem Fr.lt (h:Fr S w0 wp M L w):∀x,x∈L→x.b<w.heap.size:=λx hx=>aj_ (h.loc x hx)
theorem Fr.reset (h:Fr S w0 wp M L w):Fs S w0 L w:=⟨h.chg,.refl _ _,h.loc,h.nodup,h.new⟩
theorem Fr.grow (h:Fr S w0 wp [] L w):Grow wp w:=h.stp.mono λi _ hi=>by cases hi
theorem Fr.sub (h:Fr S w0 wp M L w) {L':List Blk} (hs:L'.Sublist L):Fr S w0 wp M L' w:=
  ⟨h.chg,h.stp,λx hx=>h.loc x (hs.subset hx),h.nodup.sublist (hs.map _),λx hx=>h.new x (hs.subset hx)⟩
theorem Fr.step (h:Fr S w0 wp M L w) {w':World} {S':Nat→Prop} (g:Chg S' w w') (hn:∀x,x∈L→¬S' x.b) (hs:∀k,k<w0.heap.size→S' k→S k):Fs S w0 L w':=
  ⟨h.chg.trans g hs,.refl _ _,λx hx=>g.get (h.loc x hx) (hn x hx),h.nodup,h.new⟩
theorem Fr.after (h:Fr S w0 wp M L w) {w':World} (g:Grow w w'):Fs S w0 L w':=h.step g (λ_ _ h=>h) λ_ _ h=>h.elim
theorem Fr.more (h:Fr S w0 wp M L w) {w':World} (g:Grow w w'):Fr S w0 wp M L w':=
  ⟨h.chg.grow g,h.stp.grow g,λx hx=>g.get (h.loc x hx),h.nodup,h.new⟩
theorem Fr.drew (h:Fr S w0 wp M L w):Fr S w0 wp M L w.drew:=h.more (.drew w)
theorem Fr.unM {b:Nat} (hb:wp.heap.size≤b) (h:Fr S w0 wp (b :: M) L w):Fr S w0 wp M L w:=
  ⟨h.chg,⟨h.stp.os,h.stp.tape,h.stp.output,h.stp.size,λk hk hn=>h.stp.block k hk λe=>by
    rcases List.mem_cons.1 e with e | e
    · omega
    · exact hn e⟩,h.loc,h.nodup,h.new⟩
def Lo (S:Nat→Prop) (w0:World) (L:List Blk) (w:World):Prop:=∃wp M,Fr S w0 wp M L w
theorem Fr.lo (h:Fr S w0 wp M L w) {L':List Blk} (hs:L'.Sublist L):Lo S w0 L' w:=⟨wp,M,h.sub hs⟩
theorem Lo.ld (h:Lo S w0 L w) (j i:Nat) {x:Blk} {a:Addr} {v:Value} (hj:L[j]? = some x) (ha:a=⟨x.b,i,none⟩) (hv:x.cs[i]? = some v):w.cell? a=some v:=by
  obtain ⟨wp,M,h⟩:=h;exact h.ld j i hj ha hv
theorem l__ {α:Type} : ∀ {L:List α} {j:Nat} {x y:α},x∈L.set j y→x=y∨∃i,i≠j∧L[i]? = some x
  | [],j,x,y,h=>by simp at h
  | a :: L,0,x,y,h=>by
    rcases List.mem_cons.1 h with h | h
    · exact .inl h
    · obtain ⟨i,hi⟩:=List.getElem?_of_mem h
      exact .inr ⟨i+1,by omega,by simpa using hi⟩
  | a :: L,j+1,x,y,h=>by
    rcases List.mem_cons.1 h with h | h
    · exact .inr ⟨0,by omega,by simp [h]⟩
    · rcases l__ h with h | ⟨i,hi,he⟩
      · exact .inl h
      · exact .inr ⟨i+1,by omega,by simpa using he⟩
theorem Fr.st (h:Fr S w0 wp M L w) (j i:Nat) {x:Blk} {a:Addr} {v:Value} {K:World→Prop} (hj:L[j]? = some x) (ha:a=⟨x.b,i,none⟩) (hw:x.wr=true) (hi':Nat.blt i x.cs.size=true) (hv:oneC v=true)
    (k:∀w',Fr S w0 wp (x.b :: M) (L.set j ⟨x.b,x.cs.setIfInBounds i v,x.T,true⟩) w'→K w'):StC w a v K:=by
  subst ha
  have hi:i<x.cs.size:=by
    have:=Nat.le_of_ble_eq_true (n:=i+1) (m:=x.cs.size) hi'
    omega
  have hx:=List.mem_of_getElem? hj
  refine stC (h.blk j hj) hi hv λw' hb' hs g=>k w' ⟨h.chg.trans g λi hi e=>?_,?_,λy hy=>?_,?_,λy hy hwy=>?_⟩
  · subst e
    rcases h.new x hx hw with h' | h'
    · exact h'
    · omega
  · exact (h.stp.mono λi _ e=>List.mem_cons_of_mem _ e).trans g λi _ e=>by subst e;exact List.mem_cons_self
  · rcases l__ hy with rfl | ⟨i',hi',he⟩
    · exact hb'
    · have hy':=List.mem_of_getElem? he
      refine g.get (h.loc y hy') λe=>?_
      have hnd:=h.nodup
      have h1:(L.map (·.b))[i']? = some y.b:=by simp [he]
      have h2:(L.map (·.b))[j]? = some x.b:=by simp [hj]
      rw [e] at h1
      have hl1:i'<(L.map (·.b)).length:=(List.getElem?_eq_some_iff.1 h1).1
      exact hi' ((List.getElem?_inj hl1 hnd).1 (h1.trans h2.symm))
  · have:(L.set j ⟨x.b,x.cs.setIfInBounds i v,x.T,true⟩).map (·.b)=L.map (·.b):=by
      rw [List.map_set]
      apply List.ext_getElem?
      intro n
      rw [List.getElem?_set]
      split
      · rename_i e;subst e
        simp [hj]
        exact (List.getElem?_eq_some_iff.1 hj).1
      · rfl
    rw [this];exact h.nodup
  · rcases l__ hy with rfl | ⟨i',hi',he⟩
    · exact h.new x hx hw
    · exact h.new y (List.mem_of_getElem? he) hwy
end
end Go.Vc
namespace Go.Vc
open Go
inductive Cel where
  | v (x:Value)
  | k (b:Bool)
  | p (i b:Nat) (lit:Bool) (o:Nat)
  | q (i b:Nat) (lit:Bool) (o l c:Nat)
def Cel.den:Cel→Value
  | .v x=>x
  | .k b=>.bool b
  | .p _ b _ o=>.pointer (some ⟨b,o,none⟩)
  | .q _ b _ o l c=>.slice (some ⟨b,o,none⟩) l c
def ax_:List Cel→List Value
  | []=>[]
  | x :: l=>x.den :: ax_ l
inductive SV where
  | c (x:Cel)
  | a (l:List Cel)
def SV.den:SV→Value
  | .c x=>x.den
  | .a l=>.agg ⟨ax_ l⟩
noncomputable def denE (l:List SV):List Value:=List.rec (motive:=λ_=>List Value) [] (λs _ ih=>s.den :: ih) l
theorem cQ_ (s:SV) (l:List SV):denE (s :: l)=s.den :: denE l:=rfl
inductive Cs where
  | l (cs:List Cel)
  | r (A:Array Value)
  | x
def Cs.arr:Cs→Option (Array Value)
  | .l cs=>some ⟨ax_ cs⟩
  | .r A=>some A
  | .x=>none
structure Bk where
  b:Nat
  cs:Cs
  T:TypeId
  wr:Bool
def LH:List Bk→List Blk
  | []=>[]
  | ⟨b,c,T,w⟩ :: H=>(match c.arr with | some A=>⟨b,A,T,w⟩ :: LH H | none=>LH H)
structure Sy where
  env:List SV
  H:List Bk
  M:List Nat
  wp:World
  dy:Bool
noncomputable def nthS (l:List SV):Nat→SV:=List.rec (motive:=λ_=>Nat→SV) (λ_=>.c (.v undef)) (λv _ ih i=>Nat.rec (motive:=λ_=>SV) v (λn _=>ih n) i) l
theorem hn_ (i:Nat):nthS [] i=.c (.v undef):=rfl
theorem fN_ (v:SV) (vs:List SV):nthS (v :: vs) 0=v:=rfl
theorem fO_ (v:SV) (vs:List SV) (n:Nat):nthS (v :: vs) (n+1)=nthS vs n:=rfl
noncomputable def putS (l:List SV):Nat→SV→List SV:=List.rec (motive:=λ_=>Nat→SV→List SV) (λ_ _=>[]) (λv vs ih i x=>Nat.rec (motive:=λ_=>List SV) (x :: vs) (λn _=>v :: ih n x) i) l
theorem hm_ (i:Nat) (x:SV):putS [] i x=[]:=rfl
theorem d9_ (v:SV) (vs:List SV) (x:SV):putS (v :: vs) 0 x=x :: vs:=rfl
theorem dr_ (v:SV) (vs:List SV) (n:Nat) (x:SV):putS (v :: vs) (n+1) x=v :: putS vs n x:=rfl
noncomputable def iW_ (env:List SV):Option Nat→SV→List SV
  | none,_=>env
  | some d,x=>putS env d x
def litV (v:Value):SV:=match v with | .bool b=>.c (.k b) | v=>.c (.v v)
def id_ (b:Bool) (v:Value):SV:=match b with | true=>litV v | false=>.c (.v v)
noncomputable def ev3 (env:List SV):Operand→SV
  | .tmp t=>nthS env t
  | .const v=>litV v
  | .global g=>.c (.v (.pointer (some ⟨g,0,none⟩)))
  | .func f=>.c (.v (.func (.func f) #[] #[]))
def np_:Operand→Bool
  | .const _=>true
  | _=>false
def cvs:List Value→List Cel
  | []=>[]
  | v :: l=>.v v :: cvs l
def cellsOf:SV→Option (List Cel)
  | .a l=>some l
  | .c (.v (.agg ⟨l⟩))=>some (cvs l)
  | _=>none
def nthC:List Cel→Nat→Option Cel
  | [],_=>none
  | v :: _,0=>some v
  | _ :: vs,n+1=>nthC vs n
def putC:List Cel→Nat→Cel→List Cel
  | [],_,_=>[]
  | _ :: vs,0,x=>x :: vs
  | v :: vs,n+1,x=>v :: putC vs n x
def over:List Cel→List Cel→List Cel
  | l,[]=>l
  | [],_=>[]
  | _ :: l,x :: xs=>x :: over l xs
def spl:List Cel→Nat→List Cel→List Cel
  | l,0,xs=>over l xs
  | [],_,_=>[]
  | y :: l,n+1,xs=>y :: spl l n xs
def cutC:List Cel→Nat→Nat→List Cel
  | _,_,0=>[]
  | [],_,_=>[]
  | x :: l,0,n+1=>x :: cutC l 0 n
  | _ :: l,o+1,n+1=>cutC l o (n+1)
def lenC:List Cel→Nat
  | []=>0
  | _ :: l=>lenC l+1
def nthH:List Bk→Nat→Option Bk
  | [],_=>none
  | v :: _,0=>some v
  | _ :: vs,n+1=>nthH vs n
def setH:List Bk→Nat→Cs→List Bk
  | [],_,_=>[]
  | ⟨b,_,T,w⟩ :: H,0,c=>⟨b,c,T,w⟩ :: H
  | x :: H,n+1,c=>x :: setH H n c
def lenH:List Bk→Nat
  | []=>0
  | _ :: l=>lenH l+1
def fC (x:Cel) (K:Cel→Prop):Prop:=
  match x with
  | .v x=>K (.v x)
  | .k b=>K (.k b)
  | .p i b l o=>K (.p i b l o)
  | .q i b l o n c=>K (.q i b l o n c)
def fL:List Cel→(List Cel→Prop)→Prop
  | [],K=>K []
  | x :: l,K=>fC x λx=>fL l λl=>K (x :: l)
def fS (s:SV) (K:SV→Prop):Prop:=
  match s with
  | .c x=>fC x λx=>K (.c x)
  | .a l=>fL l λl=>K (.a l)
noncomputable def fE (l:List SV):(List SV→Prop)→Prop:=List.rec (motive:=λ_=>(List SV→Prop)→Prop) (λK=>K []) (λx _ ih K=>ih λl=>K (x :: l)) l
theorem sx_ (x:SV) (l:List SV) (K:List SV→Prop):fE (x :: l) K=fE l λl=>K (x :: l):=rfl
noncomputable def fP (l:List SV):Nat→SV→(List SV→Prop)→Prop:=List.rec (motive:=λ_=>Nat→SV→(List SV→Prop)→Prop) (λ_ _ K=>K []) (λv vs ih i x K=>Nat.rec (motive:=λ_=>Prop) (K (x :: vs)) (λn _=>ih n x λl=>K (v :: l)) i) l
theorem sw_ (v:SV) (vs:List SV) (n:Nat) (x:SV) (K:List SV→Prop):fP (v :: vs) (n+1) x K=fP vs n x λl=>K (v :: l):=rfl
noncomputable def fPD (env:List SV) (d:Option Nat) (x:SV) (K:List SV→Prop):Prop:=match d with
  | none=>K env
  | some d=>fP env d x K
def fCs (c:Cs) (K:Cs→Prop):Prop:=
  match c with
  | .l cs=>fL cs λcs=>K (.l cs)
  | .r A=>K (.r A)
  | .x=>K .x
def fH:List Bk→(List Bk→Prop)→Prop
  | [],K=>K []
  | ⟨b,c,T,w⟩ :: l,K=>fCs c λc=>fH l λl=>K (⟨b,c,T,w⟩ :: l)
def nS (σ:Sy) (K:Sy→Prop):Prop:=match σ with | ⟨e,H,M,wp,dy⟩=>K ⟨e,H,M,wp,dy⟩
def Sy.withEnv (σ:Sy) (e:List SV):Sy:=match σ with | ⟨_,H,M,wp,dy⟩=>⟨e,H,M,wp,dy⟩
def Sy.st (σ:Sy) (H:List Bk) (b:Nat):Sy:=match σ with | ⟨e,_,M,wp,_⟩=>⟨e,H,b :: M,wp,true⟩
def Sy.nw (σ:Sy) (H:List Bk):Sy:=match σ with | ⟨e,_,M,wp,_⟩=>⟨e,H,M,wp,true⟩
def Sy.seen (σ:Sy) (H:List Bk) (w:World):Sy:=match σ with | ⟨e,_,_,_,_⟩=>⟨e,H,[],w,false⟩
def Sy.tG_ (σ:Sy) (H:List Bk):Sy:=match σ with | ⟨e,_,M,wp,dy⟩=>⟨e,H,M,wp,dy⟩
section
variable (P:Program)
def spl3 (isb:Bool) (x:Cel) (K:SV→Prop):Prop:=
  match isb with
  | false=>K (.c x)
  | true=>match x with
    | .v (.bool b)=>(b=true→K (.c (.k true)))∧(b=false→K (.c (.k false)))
    | x=>K (.c x)
def isBT (t:TypeId):Bool:=match P.underlying t with | some .bool=>true | _=>false
def ckT (t:TypeId):Ck:=(flat P 12 t).headD .any
def ldL (t:TypeId) (cs:List Cel) (o:Nat) (K:SV→Prop):Prop:=
  match known P t,aggT P t with
  | true,false=>(match nthC cs o with | some x=>spl3 (isBT P t) x K | none=>False)
  | true,true=>(match Nat.ble (o+szOf P t) (lenC cs) with | true=>K (.a (cutC cs o (szOf P t))) | false=>False)
  | false,_=>False
def ldRC (A:Array Value) (o:Nat):List Ck→(List Value→Prop)→Prop
  | [],K=>K []
  | c :: cs,K=>tel1 c λv=>A[o]? = some v∧ldRC A (o+1) cs λr=>K (v :: r)
def ldR (t:TypeId) (A:Array Value) (o:Nat) (K:SV→Prop):Prop:=
  match known P t,aggT P t with
  | true,false=>tel1 (ckT P t) λv=>A[o]? = some v∧spl3 (isBT P t) (.v v) K
  | true,true=>(match Nat.beq (flat P 12 t).length (szOf P t) with | true=>ldRC A o (flat P 12 t) λvs=>K (.c (.v (.agg ⟨vs⟩))) | false=>False)
  | false,_=>False
def one3 (c:Ck) (x:Cel) (K:Prop):Prop:=
  match x with
  | .v v=>one1 c v K
  | _=>K
def si_:List Ck→List Cel→Prop→Prop
  | [],[],K=>K
  | c :: cs,x :: xs,K=>one3 c x (si_ cs xs K)
  | _,_,_=>False
def mu_ (place:Nat→Option (TypeId × Nat)) (cells:List Cel):List (Nat × SV)→(List Cel→Prop)→Prop
  | [],K=>K cells
  | (i,s) :: rest,K=>
    match place i with
    | none=>False
    | some (ft,off)=>
      match known P ft,aggT P ft with
      | true,true=>(match cellsOf s with
        | some cs=>(match Nat.beq (lenC cs) (szOf P ft) && Nat.ble (off+lenC cs) (lenC cells) with | true=>fL (spl cells off cs) λcells=>mu_ place cells rest K | false=>False)
        | none=>False)
      | true,false=>(match s with
        | .c y=>(match Nat.beq (szOf P ft) 1 && Nat.ble (off+1) (lenC cells) with | true=>one3 (ckT P ft) y (fL (putC cells off y) λcells=>mu_ place cells rest K) | false=>False)
        | .a _=>False)
      | false,_=>False
def litC (v:Value):Cel:=match v with | .bool b=>.k b | v=>.v v
def lr_:List Value→List Cel
  | []=>[]
  | v :: l=>litC v :: lr_ l
noncomputable def evps (env:List SV):List (Nat × Operand)→List (Nat × SV)
  | []=>[]
  | (i,o) :: r=>(i,ev3 env o) :: evps env r
def p9_ (env:List SV) (t:TypeId) (parts:Array (Nat × Operand)) (K:SV→Prop):Prop:=
  match zeroOf P t,P.underlying t with
  | some z,some (.struct fs)=>
    (match fs.toList.all (λf=>known P f.type) with
     | true=>mu_ P (λi=>(fs[i]?).map λf=>(f.type,f.offset)) (lr_ z.cells.toList) (evps env parts.toList) λcs=>K (.a cs)
     | false=>False)
  | some z,some (.array _ e)=>
    (match known P e with
     | true=>mu_ P (λi=>some (e,i*szOf P e)) (lr_ z.cells.toList) (evps env parts.toList) λcs=>K (.a cs)
     | false=>False)
  | _,_=>False
def rW_ (s:TypeId) (cs:List Cel) (f:Nat) (K:SV→Prop):Prop:=
  match P.underlying s with
  | some (.struct fs)=>(match fs[f]? with
    | some fd=>ldL P fd.type cs fd.offset K
    | none=>False)
  | _=>False
def loC (env:List SV) (y:Nat):Option Operand→(Nat→Prop)→Prop
  | none,K=>K 0
  | some o,K=>match ev3 env o with
    | .c (.v (.int _ h))=>0≤h∧h≤(y:Int)∧K h.toNat
    | _=>False
def hiC (env:List SV) (len y:Nat):Option Operand→(Nat→Prop)→Prop
  | none,K=>K len
  | some o,K=>match ev3 env o with
    | .c (.v (.int _ h))=>0≤h∧h≤(y:Int)∧K h.toNat
    | _=>False
def hk_ (lo:Option Operand) (cap l o sz:Nat):Nat:=match lo with | none=>o | some _=>if cap=l then o else o+l*sz
def sil3 (R:Addr→Value→Prop) (rd:Nat→Bool) (env:List SV) (H:List Bk) (o:Oper) (K:SV→Prop):Prop:=
  match o.op with
  | .move x | .assign x=>K (ev3 env x)
  | .pick c a b=>(match ev3 env c with
    | .c (.k true)=>K (ev3 env a)
    | .c (.k false)=>K (ev3 env b)
    | _=>False)
  | .nilCheck x=>(match ev3 env x with
    | .c (.p i b l a)=>K (.c (.p i b l a))
    | _=>opS P R (denE env) o λv=>K (.c (.v v)))
  | .fieldAddr s x f=>(match ev3 env x with
    | .c (.p i b l a)=>(match P.underlying s with
      | some (.struct fs)=>(match fs[f]? with
        | some fd=>(match known P fd.type && !Nat.beq (szOf P fd.type) 0 with | true=>K (.c (.p i b l (a+fd.offset))) | false=>False)
        | none=>False)
      | _=>False)
    | _=>opS P R (denE env) o λv=>K (.c (.v v)))
  | .field s x f=>(match ev3 env x with
    | .a cs=>rW_ P s cs f K
    | _=>opS P R (denE env) o λv=>K (id_ (eu_ P o) v))
  | .index t x i=>(match ev3 env x,np_ i,ev3 env i,P.underlying t with
    | .a cs,true,.c (.v (.int _ n)),some (.array l e)=>(match n with
      | .ofNat n=>(match Nat.blt n l && known P e with | true=>ldL P e cs (n*szOf P e) K | false=>False)
      | _=>False)
    | _,_,_,_=>opS P R (denE env) o λv=>K (id_ (eu_ P o) v))
  | .indexAddr t x i=>(match ev3 env x,ev3 env i,P.underlying t with
    | .c (.q b n lit a l _),.c (.v (.int _ j)),some (.slice e)=>
      (match known P e with | true=>0≤j∧j<l∧K (.c (.p b n (lit && np_ i) (a+j.toNat*szOf P e))) | false=>False)
    | .c (.p b n lit a),.c (.v (.int _ j)),some (.array l e)=>
      (match known P e with | true=>0≤j∧j<l∧K (.c (.p b n (lit && np_ i) (a+j.toNat*szOf P e))) | false=>False)
    | _,_,_=>opS P R (denE env) o λv=>K (.c (.v v)))
  | .slice t x lo hi none=>(match ev3 env x,P.underlying t with
    | .c (.q b n lit a l c),some (.slice e)=>
      (match known P e with | true=>hiC env l c hi λh=>loC env h lo λg=>K (.c (.q b n (lit && lo.isNone) (hk_ lo c g a (szOf P e)) (h - g) (c - g))) | false=>False)
    | .c (.p b n lit a),some (.array l e)=>
      (match known P e with | true=>hiC env l l hi λh=>loC env h lo λg=>K (.c (.q b n (lit && (lo.all np_)) (hk_ lo l g a (szOf P e)) (h - g) (l - g))) | false=>False)
    | _,_=>opS P R (denE env) o λv=>K (.c (.v v)))
  | .load t a=>(match ev3 env a with
    | .c (.p i b lit o')=>(match nthH H i,rd i with
      | some ⟨_,.l cs,_,_⟩,true=>(match lit with
        | true=>ldL P t cs o' K
        | false=>ldR P t ⟨ax_ cs⟩ o' K)
      | some ⟨_,.r A,_,_⟩,true=>ldR P t A o' K
      | _,_=>opS P R (denE env) o λv=>K (id_ (eu_ P o) v))
    | _=>opS P R (denE env) o λv=>K (id_ (eu_ P o) v))
  | .build t parts=>p9_ P env t parts K
  | .binOp op t x y _=>(match h9_ P t y,ev3 env x,y,op with
    | true,.c (.p _ _ _ _),.const (.pointer none),.eql=>K (.c (.k false))
    | true,.c (.p _ _ _ _),.const (.pointer none),.neq=>K (.c (.k true))
    | true,.c (.q _ _ _ _ _ _),.const (.slice none _ _),.eql=>K (.c (.k false))
    | true,.c (.q _ _ _ _ _ _),.const (.slice none _ _),.neq=>K (.c (.k true))
    | _,_,_,_=>opS P R (denE env) o λv=>K (litV v))
  | .unOp _ _ _=>opS P R (denE env) o λv=>K (litV v)
  | .extract _ _=>opS P R (denE env) o λv=>K (id_ (isBT P o.type) v)
  | _=>opS P R (denE env) o λv=>K (id_ (eu_ P o) v)
noncomputable def asks (env:List SV) (H:List Bk) (o:Oper):Bool:=
  match o.op with
  | .load _ a=>(match ev3 env a with
    | .c (.p i _ _ _)=>(match nthH H i with | some ⟨_,.x,_,_⟩=>true | some _=>false | none=>true)
    | _=>true)
  | _=>false
def exT3 (okf:Ctx) (o:Oper) (s:SV) (K:SV→Prop):Prop:=
  match okf.ext.contains (o.dst.getD 0) with
  | true=>(match s with
    | .c (.v v)=>tyB (kdOf P o.type) v λv=>K (id_ (isBT P o.type) v)
    | s=>K s)
  | false=>K s
variable (okf:Ctx) (S:Nat→Prop) (w0:World) (nE:Nat)
def vis (σ:Sy) (K:World→Sy→Prop):Prop:=
  match σ.dy with
  | false=>K σ.wp σ
  | true=>∀w,Fr S w0 σ.wp σ.M (LH σ.H) w→nS (σ.seen σ.H w) (K w)
def new3 (σ:Sy) (T:TypeId) (cs:List Cel) (K:SV→Sy→Prop) (f:Nat→SV):Prop:=
  fL cs λcs=>∀r,σ.wp.heap.size≤r→fH (σ.H++[⟨r,.l cs,T,true⟩]) λH=>nS (σ.nw H) (K (f r))
def rep (n:Nat) (l:List Ck):List Ck:=match n with | 0=>[] | n+1=>l++rep n l
def hav3:List Nat→List Bk→(List Bk→Prop)→Prop
  | [],H,K=>K H
  | i :: is,H,K=>
    match nthH H i with
    | some ⟨_,.l cs,T,true⟩=>
      (match Nat.beq ((lenC cs / (flat P 12 T).length)*(flat P 12 T).length) (lenC cs) with
       | true=>tel (rep (lenC cs / (flat P 12 T).length) (flat P 12 T)) λvs=>hav3 is (setH H i (.l (cvs vs))) K
       | false=>False)
    | some ⟨_,.r _,_,true⟩=>∃A,hav3 is (setH H i (.r A)) K
    | _=>False
def gen3 (hv:List Nat) (σ:Sy) (o:Oper) (K:SV→Sy→Prop):Prop:=
  vis S w0 σ λw σ1=>opI P okf (denE σ1.env) o (λv w'=>hav3 P hv σ1.H λH'=>Fs S w0 (LH H') w'∧
    nS (σ1.seen H' w') (K (id_ (isBT P o.type) v))) w
def unl (lk:Nat→Bool):List Nat→Bool
  | []=>true
  | i :: is=>!lk i && unl lk is
def ns3 (lk:Nat→Bool) (hv:List Nat) (σ:Sy) (o:Oper) (K:SV→Sy→Prop):Prop:=
  match o.op with
  | .store t a x=>(match ev3 σ.env a with
    | .c (.p i b lit off)=>(match nthH σ.H i,lk i with
      | some ⟨_,.l cs,_,true⟩,false=>(match lit,known P t,aggT P t with
        | true,true,false=>(match ev3 σ.env x with
          | .c y=>(match Nat.beq (szOf P t) 1 && Nat.blt off (lenC cs) with
            | true=>one3 (ckT P t) y (fL (putC cs off y) λcs=>fH (setH σ.H i (.l cs)) λH=>nS (σ.st H b) (K (.c (.v undef))))
            | false=>False)
          | .a _=>False)
        | true,true,true=>(match cellsOf (ev3 σ.env x) with
          | some ys=>(match Nat.beq (lenC ys) (szOf P t) && Nat.ble (off+lenC ys) (lenC cs) with
            | true=>si_ (flat P 12 t) ys (fL (spl cs off ys) λcs=>fH (setH σ.H i (.l cs)) λH=>nS (σ.st H b) (K (.c (.v undef))))
            | false=>False)
          | none=>False)
        | false,true,false=>(match ev3 σ.env x with
          | .c y=>(match Nat.beq (szOf P t) 1 with
            | true=>off<lenC cs∧one3 (ckT P t) y (fH (setH σ.H i (.r ((⟨ax_ cs⟩:Array Value).setIfInBounds off y.den))) λH=>nS (σ.st H b) (K (.c (.v undef))))
            | false=>False)
          | .a _=>False)
        | _,_,_=>False)
      | some ⟨_,.r A,_,true⟩,false=>(match known P t,aggT P t with
        | true,false=>(match ev3 σ.env x with
          | .c y=>(match Nat.beq (szOf P t) 1 with
            | true=>off<A.size∧one3 (ckT P t) y (fH (setH σ.H i (.r (A.setIfInBounds off y.den))) λH=>nS (σ.st H b) (K (.c (.v undef))))
            | false=>False)
          | .a _=>False)
        | _,_=>False)
      | some ⟨_,.x,_,_⟩,_=>gen3 P okf S w0 [] σ o K
      | _,_=>False)
    | _=>gen3 P okf S w0 [] σ o K)
  | .alloc t=>(match zeroOf P t with
    | some z=>new3 σ t (lr_ z.cells.toList) K λr=>.c (.p (lenH σ.H) r true 0)
    | none=>False)
  | .box t x=>(match aggT P t with
    | true=>(match cellsOf (ev3 σ.env x) with
      | some cs=>new3 σ t cs K λr=>.c (.p (lenH σ.H) r true 0)
      | none=>False)
    | false=>(match ev3 σ.env x with
      | .c y=>one3 (ckT P t) y (new3 σ t [y] K λr=>.c (.p (lenH σ.H) r true 0))
      | .a _=>False))
  | .buildSlice t len parts=>(match P.underlying t with
    | some (.slice e)=>(match known P e,zeroOf P e with
      | true,some z=>(match Nat.ble (len*szOf P e) 16777216 && !Nat.beq (len*szOf P e) 0 with
        | true=>mu_ P (λi=>some (e,i*szOf P e)) (lr_ ((Array.range (len*szOf P e)).map (z.cells[· % z.cells.size]!)).toList) (evps σ.env parts.toList) λcs=>
            new3 σ e cs K λr=>.c (.q (lenH σ.H) r true 0 len len)
        | false=>(match Nat.beq (len*szOf P e) 0 && Nat.beq parts.size 0 with
          | true=>new3 σ e [] K λr=>.c (.q (lenH σ.H) r true 0 len len)
          | false=>False))
      | _,_=>False)
    | _=>False)
  | _=>(match unl lk hv with | true=>gen3 P okf S w0 hv σ o K | false=>False)
def refC:Cel→List Nat→List Nat
  | .p i _ _ _,l=>i :: l
  | .q i _ _ _ _ _,l=>i :: l
  | _,l=>l
def sd_:List Cel→List Nat→List Nat
  | [],l=>l
  | x :: xs,l=>refC x (sd_ xs l)
def refS:SV→List Nat→List Nat
  | .c x,l=>refC x l
  | .a xs,l=>sd_ xs l
def wrIn (H:List Bk) (i:Nat):Bool:=match nthH H i with | some ⟨_,.l _,_,true⟩=>true | some ⟨_,.r _,_,true⟩=>true | _=>false
noncomputable def hvOf (l:List Nat) (env:List SV) (H:List Bk) (o:Oper):List Nat:=
  match l with
  | [999]=>(match o.op with
    | .call c=>((c.args.toList.foldr (λx l=>refS (ev3 env x) l) []).filter (wrIn H)).eraseDups
    | _=>[])
  | l=>l
def pj_ (ops:Array Oper) (lk:Nat→Bool) (hvs:List (Nat × List Nat)) (i:Nat) (σ:Sy) (K:Sy→Prop):Prop:=
  match ops[i]? with
  | none=>K σ
  | some o=>match Region.wanted o (yielded ops ⟨denE σ.env⟩) with
    | true=>(match o7_ P o.op with
      | true=>(match asks σ.env σ.H o with
        | true=>vis S w0 σ λw σ1=>sil3 P (λa v=>w.cell? a=some v) (λ_=>true) σ1.env σ1.H o λs=>exT3 P okf o s λs=>fS s λs=>fPD σ1.env o.dst s λe=>nS (σ1.withEnv e) K
        | false=>sil3 P (λ_ _=>False) (λ_=>true) σ.env σ.H o λs=>exT3 P okf o s λs=>fS s λs=>fPD σ.env o.dst s λe=>nS (σ.withEnv e) K)
      | false=>ns3 P okf S w0 lk (hvOf ((hvs.lookup i).getD []) σ.env σ.H o) σ o λs σ1=>fS s λs=>fPD σ1.env o.dst s λe=>nS (σ1.withEnv e) K)
    | false=>fPD σ.env o.dst (.c (.v undef)) λe=>nS (σ.withEnv e) K
def ops3 (ops:Array Oper) (lk:Nat→Bool) (hvs:List (Nat × List Nat)):List Nat→Sy→(Sy→Prop)→Prop
  | [],σ,K=>K σ
  | i :: rest,σ,K=>pj_ P okf S w0 ops lk hvs i σ λσ=>ops3 ops lk hvs rest σ K
def qP_ (ops:Array Oper) (Su:World→Prop) (rd:Nat→Bool) (i:Nat) (σ:Sy) (K:Sy→Prop):Prop:=
  match ops[i]? with
  | none=>False
  | some o=>match Region.wanted o (yielded ops ⟨denE σ.env⟩) with
    | true=>sil3 P (λa v=>∀w,Su w→w.cell? a=some v) rd σ.env σ.H o λs=>exT3 P okf o s λs=>fS s λs=>fPD σ.env o.dst s λe=>nS (σ.withEnv e) K
    | false=>fPD σ.env o.dst (.c (.v undef)) λe=>nS (σ.withEnv e) K
def tm_ (user:Bool) (Su:World→Prop) (σ:Sy) (K:Sy→Prop):Prop:=
  match user with
  | true=>vis S w0 σ λw σ1=>Su w∧K σ1
  | false=>K σ
def loadAt (ops:Array Oper) (i:Nat):Bool:=match ops[i]? with
  | some o=>(match o.op with | .load ..=>true | _=>false)
  | none=>false
def turns (hvs:List (Nat × List Nat)):Bool:=hvs.any λx=>Nat.beq x.1 998
def fBl:List Bool→(List Bool→Prop)→Prop
  | [],K=>K []
  | b :: l,K=>match b with
    | true=>fBl l λl=>K (true :: l)
    | false=>fBl l λl=>K (false :: l)
def fB (a:Array Bool) (K:Array Bool→Prop):Prop:=fBl a.toList λl=>K ⟨l⟩
def silB (P:Program) (ops:Array Oper) (env:List Value) (listed:Array Bool) (i:Nat):Bool:=
  (match ops[i]? with
   | none=>false
   | some o=>!Region.wanted o (yielded ops env.toArray) || o7_ P o.op) && Region.free .any ops listed i
def any3 (ops:Array Oper) (user:Bool) (Su:World→Prop) (rd lk:Nat→Bool) (hvs:List (Nat × List Nat)):Nat→Array Bool→Sy→(Sy→Prop)→Prop
  | 0,listed,σ,K=>(match Region.ready .any ops listed with | []=>K σ | _=>False)
  | n+1,listed,σ,K=>
    match Region.ready .any ops listed with
    | []=>K σ
    | r :: rs=>match (r :: rs).find? (λi=>silB P ops (denE σ.env) listed i && !(turns hvs && loadAt ops i)) with
      | some i=>qP_ P okf ops Su rd i σ λσ=>fB (listed.setIfInBounds i true) λlisted=>any3 ops user Su rd lk hvs n listed σ K
      | none=>allR (r :: rs) λi=>pj_ P okf S w0 ops lk hvs i σ λσ=>match if_ ops i with
        | true=>fB (listed.setIfInBounds i true) λlisted=>any3 ops user Su rd lk hvs n listed σ K
        | false=>tm_ S w0 user Su σ λσ=>fB (listed.setIfInBounds i true) λlisted=>any3 ops user Su rd lk hvs n listed σ K
def pre3 (ops:Array Oper) (lk:Nat→Bool) (hvs:List (Nat × List Nat)):Nat→Nat→Array Bool→Sy→(Nat→Array Bool→Sy→Prop)→Prop
  | 0,n,listed,σ,K=>K n listed σ
  | m+1,n,listed,σ,K=>match n with
    | 0=>False
    | n+1=>match Region.ready .any ops listed with
      | []=>False
      | r :: rs=>match (r :: rs).find? (λi=>silB P ops (denE σ.env) listed i && !loadAt ops i) with
        | some i=>qP_ P okf ops (λ_=>True) (λ_=>false) i σ λσ=>fB (listed.setIfInBounds i true) λlisted=>pre3 ops lk hvs m n listed σ K
        | none=>allR (r :: rs) λi=>pj_ P okf S w0 ops lk hvs i σ λσ=>fB (listed.setIfInBounds i true) λlisted=>pre3 ops lk hvs m n listed σ K
def preN (hvs:List (Nat × List Nat)):Nat:=match hvs.lookup 997 with
  | some (m :: _)=>m
  | _=>0
structure RA where
  keep:Option (List Nat)
  user:Bool
  drop:List Nat
  hv:List (Nat × List Nat)
inductive An where
  | z
  | s (a b:An)
  | cut (live:List (Nat × Sk)) (gs:List Nat) (a b:An)
  | c (a b:An)
  | l (keep keep2:Option (List Nat)) (live:List (Nat × Sk)) (gs:List Nat) (b:An)
  | b (a:An)
  | r (x:RA)
def An.fst:An→An
  | .s x _ | .cut _ _ x _ | .c x _ | .b x | .l _ _ _ _ x=>x
  | _=>.z
def An.snd:An→An
  | .s _ x | .cut _ _ _ x | .c _ x=>x
  | _=>.z
def An.cuts:An→Option (List (Nat × Sk) × List Nat)
  | .cut x y _ _=>some (x,y)
  | _=>none
def An.live:An→List (Nat × Sk) × List Nat
  | .l _ _ x y _=>(x,y)
  | _=>([],[])
def An.kp:An→Option (List Nat)
  | .l x _ _ _ _=>x
  | _=>none
def An.kp2:An→Option (List Nat)
  | .l _ x _ _ _=>x
  | _=>none
def An.ra:An→RA
  | .r x=>x
  | _=>⟨none,true,[],[]⟩
noncomputable def lf_ (env:List SV):List Nat→List Nat
  | []=>[]
  | i :: is=>refS (nthS env i) (lf_ env is)
def fG_ (H:List Bk):List Nat→List Nat
  | []=>[]
  | i :: is=>match nthH H i with
    | some ⟨_,.l cs,_,_⟩=>i :: sd_ cs (fG_ H is)
    | _=>i :: fG_ H is
def dM_ (keep:List Nat) (nE:Nat) (lk:Nat→Bool):Nat→List Bk→List Bk
  | _,[]=>[]
  | i,⟨b,c,T,w⟩ :: H=>(match keep.contains i || Nat.blt i nE || lk i with | true=>⟨b,c,T,w⟩ | false=>⟨b,.x,T,w⟩) :: dM_ keep nE lk (i+1) H
def forget (keep:Option (List Nat)) (nE:Nat) (lk:Nat→Bool) (σ:Sy) (K:Sy→Prop):Prop:=
  match keep with
  | none=>K σ
  | some ks=>fH (dM_ (fG_ σ.H (fG_ σ.H (fG_ σ.H (lf_ σ.env ks)))) nE lk 0 σ.H) λH=>nS (σ.tG_ H) K
def blkV (H:List Bk) (i:Nat):Value:=match nthH H i with
  | some ⟨_,c,_,_⟩=>(match c.arr with | some A=>.agg A | none=>undef)
  | none=>undef
def csOf (k:Sk) (v:Value):Cs:=match k with
  | .a _=>(match v with | .agg ⟨l⟩=>.l (cvs l) | _=>.x)
  | .c _=>.r v.cells
def bo_ (H:List Bk):List (Nat × Sk)→Bool
  | []=>true
  | (i,_) :: gs=>(match nthH H i with | some ⟨_,.l _,_,_⟩=>true | some ⟨_,.r _,_,_⟩=>true | _=>false) && bo_ H gs
def lvOk (m:List Nat):List (Nat × Sk)→Bool
  | []=>true
  | (i,_) :: l=>m.contains i && lvOk m l
def ci_ (H:List Bk):List (Nat × Sk)→List Value→List Bk
  | [],_=>H
  | (i,k) :: gs,vs=>ci_ (setH H i (csOf k (vs.headD undef))) gs vs.tail
def svOf (k:Sk) (v:Value):SV:=match k with | .c .bool=>litV v | _=>.c (.v v)
noncomputable def bl_ (env:List SV):List (Nat × Sk)→List Value→List SV
  | [],_=>env
  | (i,k) :: is,vs=>bl_ (putS env i (svOf k (vs.headD undef))) is vs.tail
noncomputable def cm_ (env:List SV):List Nat→(Nat→Value)→List SV
  | [],_=>env
  | i :: is,D=>cm_ (putS env i (.c (.v (D i)))) is D
def aT_ (l g:List (Nat × Sk)):List Sk:=l.map (·.2)++g.map (·.2)
noncomputable def cN_ (σ:Sy) (l g:List (Nat × Sk)):List Value:=l.map (λx=>(nthS σ.env x.1).den)++g.map λx=>blkV σ.H x.1
def gsOk (H:List Bk) (lk:Nat→Bool):List (Nat × Sk)→Bool
  | []=>true
  | (i,k) :: gs=>!lk i && (match nthH H i with
    | some ⟨_,.l _,_,true⟩=>true
    | some ⟨_,.r _,_,true⟩=>(match k with | .c .any=>true | _=>false)
    | _=>false) && gsOk H lk gs
noncomputable def gsOf (env:List SV) (H:List Bk):List Nat→List Nat→List (Nat × Sk)
  | [],_=>[]
  | s :: ss,seen=>match (match nthS env (s%1000000) with | .c (.p i _ _ _)=>some i | .c (.q i _ _ _ _ _)=>some i | _=>none) with
    | some i=>(match seen.contains i,nthH H i,Nat.ble 1000000 s with
      | false,some ⟨_,.l cs,T,_⟩,false=>(i,.a (rep (lenC cs / (flat P 12 T).length) (flat P 12 T))) :: gsOf env H ss (i :: seen)
      | false,some ⟨_,.l _,_,_⟩,true=>(i,.c .any) :: gsOf env H ss (i :: seen)
      | false,some ⟨_,.r _,_,_⟩,_=>(i,.c .any) :: gsOf env H ss (i :: seen)
      | _,_,_=>gsOf env H ss seen)
    | none=>gsOf env H ss seen
def fKs:List Ck→(List Ck→Prop)→Prop
  | [],K=>K []
  | .int k :: l,K=>fKs l λl=>K (.int k :: l)
  | .bool :: l,K=>fKs l λl=>K (.bool :: l)
  | .str :: l,K=>fKs l λl=>K (.str :: l)
  | .ptr :: l,K=>fKs l λl=>K (.ptr :: l)
  | .sl :: l,K=>fKs l λl=>K (.sl :: l)
  | .mp :: l,K=>fKs l λl=>K (.mp :: l)
  | .any :: l,K=>fKs l λl=>K (.any :: l)
def fG:List (Nat × Sk)→(List (Nat × Sk)→Prop)→Prop
  | [],K=>K []
  | (i,.c k) :: l,K=>fG l λl=>K ((i,.c k) :: l)
  | (i,.a ks) :: l,K=>fKs ks λks=>fG l λl=>K ((i,.a ks) :: l)
def d1_ (l:List (Nat × Sk)) (vs:List Value):List Value:=vs.drop l.length
def lock (H:List Bk) (g:List (Nat × Sk)) (lk:Nat→Bool) (i:Nat):Bool:=lk i || (Nat.blt i (lenH H) && !(g.map (·.1)).contains i)
noncomputable def dc_ (env:List SV):List Nat→List Nat
  | []=>[]
  | s :: ss=>refS (nthS env s) (dc_ env ss)
def ic_ (H:List Bk) (drop:List Nat) (i:Nat):Bool:=Nat.blt i (lenH H) && !drop.contains i
def resK (H:List Bk) (env:List SV):List ResultVar→(List Value→Prop)→Prop
  | [],K=>K []
  | .tmp t :: rs,K=>resK H env rs λvs=>K ((nthS env t).den :: vs)
  | .cell a t :: rs,K=>(match nthS env a with
    | .c (.p i _ lit o)=>(match nthH H i with
      | some ⟨_,.l cs,_,_⟩=>(match lit with
        | true=>ldL P t cs o λs=>resK H env rs λvs=>K (s.den :: vs)
        | false=>ldR P t ⟨ax_ cs⟩ o λs=>resK H env rs λvs=>K (s.den :: vs))
      | some ⟨_,.r A,_,_⟩=>ldR P t A o λs=>resK H env rs λvs=>K (s.den :: vs)
      | _=>False)
    | _=>False)
def oneV:List Value→Value
  | [v]=>v
  | vs=>.tuple ⟨vs⟩
def s8_ (fn:Func) (K:Value→World→Prop):Exit→Sy→Prop
  | .normal,σ=>resK P σ.H σ.env fn.results.toList λvs=>forget (some []) nE (λ_=>false) σ λσ=>vis S w0 σ λw _=>K (oneV vs) w
  | .ret,σ=>resK P σ.H σ.env fn.results.toList λvs=>forget (some []) nE (λ_=>false) σ λσ=>vis S w0 σ λw _=>K (oneV vs) w
  | _,_=>False
def d7_ (N:Sy→Prop) (K:Exit→Sy→Prop):Exit→Sy→Prop
  | .normal,σ=>N σ
  | e,σ=>K e σ
def rA_ (id:Nat) (K:Exit→Sy→Prop):Exit→Sy→Prop
  | .exit i,σ=>(if i=id then K .normal σ else K (.exit i) σ)
  | e,σ=>K e σ
def vc3:Code→An→(Nat→Bool)→Sy→(Exit→Sy→Prop)→Prop
  | .skip,_,_,σ,K=>K .normal σ
  | .label _,_,_,σ,K=>K .normal σ
  | .exit id,_,_,σ,K=>K (.exit id) σ
  | .ret,_,_,σ,K=>K .ret σ
  | .region _ ops d,an,lk,σ,K=>
    forget an.ra.keep nE lk σ λσ=>
    (match d with
     | false=>ops3 P okf S w0 ops lk an.ra.hv (List.range ops.size) σ (K .normal)
     | true=>(match rY_ P ops with
       | true=>(match an.ra.user with
         | false=>any3 P okf S w0 ops false (λ_=>True) (ic_ σ.H (dc_ σ.env an.ra.drop)) (λi=>lk i || ic_ σ.H (dc_ σ.env an.ra.drop) i) an.ra.hv ops.size (Array.replicate ops.size false) (σ.nw σ.H) (K .normal)
         | true=>pre3 P okf S w0 ops lk an.ra.hv (preN an.ra.hv) ops.size (Array.replicate ops.size false) (σ.nw σ.H) λn listed σ=>vis S w0 σ λw σ=>∃Su:World→Prop,Su w∧
             any3 P okf S w0 ops true Su (ic_ σ.H (dc_ σ.env an.ra.drop)) (λi=>lk i || ic_ σ.H (dc_ σ.env an.ra.drop) i) an.ra.hv n listed σ (K .normal))
       | false=>False))
  | .seq a b,an,lk,σ,K=>
    (match an.cuts with
     | none=>vc3 a an.fst lk σ (d7_ (λσ=>vc3 b an.snd lk σ K) K)
     | some (live,gl)=>fG (gsOf P σ.env σ.H gl []) λgs=>
       (match gsOk σ.H lk gs && lvOk (writes a) live with
        | true=>∃J:CurT (aT_ live gs) (World→Prop),
           vc3 a an.fst (lock σ.H gs lk) σ (d7_ (λσ1=>match bo_ σ1.H gs with | true=>vis S w0 σ1 λw σ1=>atT (aT_ live gs) J (cN_ σ1 live gs) λp=>p w | false=>False) K)∧
           allT (aT_ live gs) J λvals p=>∀(D:Nat→Value) (w:World),p w→Fs S w0 (LH (ci_ σ.H gs (d1_ live vals))) w→
             fE (bl_ (cm_ σ.env (writes a) D) live vals) λe=>fH (ci_ σ.H gs (d1_ live vals)) λH=>vc3 b an.snd lk ⟨e,H,[],w,false⟩ K
        | false=>False))
  | .cond c a b,an,lk,σ,K=>
    (match ev3 σ.env c with
     | .c (.k true)=>vc3 a an.fst lk σ K
     | .c (.k false)=>vc3 b an.snd lk σ K
     | .c (.v (.bool true))=>vc3 a an.fst lk σ K
     | .c (.v (.bool false))=>vc3 b an.snd lk σ K
     | _=>False)
  | .block id a,an,lk,σ,K=>vc3 a an.fst lk σ (rA_ id K)
  | .scope a,an,lk,σ,K=>vc3 a an.fst lk σ (λe σ=>match e with | .goto _=>False | e=>K e σ)
  | .loop a,an,lk,σ,K=>
    forget an.kp nE lk σ λσ=>vis S w0 σ λw σ=>forget an.kp2 nE lk σ λσ=>
    fG (gsOf P σ.env σ.H an.live.2 []) λgs=>
    (match gsOk σ.H lk gs && lvOk (writes a) an.live.1 with
     | true=>∃I:CurT (aT_ an.live.1 gs) (Nat→World→Prop),
        (∃m,atT (aT_ an.live.1 gs) I (cN_ σ an.live.1 gs) λp=>p m w)∧
        allT (aT_ an.live.1 gs) I λvals p=>∀(D:Nat→Value) (m:Nat) (w:World),p m w→Fs S w0 (LH (ci_ σ.H gs (d1_ an.live.1 vals))) w→
          fE (bl_ (cm_ σ.env (writes a) D) an.live.1 vals) λe=>fH (ci_ σ.H gs (d1_ an.live.1 vals)) λH=>
          vc3 a an.fst (lock σ.H gs lk) ⟨e,H,[],w,false⟩
            (d7_ (λσ1=>match bo_ σ1.H gs with | true=>vis S w0 σ1 λw1 σ1=>∃m',m'<m∧atT (aT_ an.live.1 gs) I (cN_ σ1 an.live.1 gs) λp=>p m' w1 | false=>False) K)
     | false=>False)
  | _,_,_,_,_=>False
end
end Go.Vc
namespace Go.Vc
open Go
theorem dR_ (env:List SV) (n:Nat):(nthS env n).den=nth (denE env) n:=by
  induction env generalizing n with
  | nil=>rfl
  | cons v vs ih=>cases n with
    | zero=>rfl
    | succ n=>exact ih n
theorem kD_ (env:List SV) (n:Nat) (s:SV):denE (putS env n s)=put (denE env) n s.den:=by
  induction env generalizing n with
  | nil=>rfl
  | cons v vs ih=>cases n with
    | zero=>rfl
    | succ n=>show _ :: denE (putS vs n s)=_ :: put (denE vs) n s.den;rw [ih]
theorem cP_ (env:List SV) (d:Option Nat) (s:SV):denE (iW_ env d s)=putD (denE env) d s.den:=by
  cases d with
  | none=>rfl
  | some d=>exact kD_ env d s
theorem fY_ (env:List SV):(denE env).length=env.length:=by
  induction env with
  | nil=>rfl
  | cons v vs ih=>simp [cQ_,ih]
theorem ki_ (v:Value):(litV v).den=v:=by cases v <;> rfl
theorem aB_ (env:List SV) (o:Operand):(ev3 env o).den=ev (denE env) o:=by
  cases o with
  | tmp t=>exact dR_ env t
  | const v=>exact ki_ v
  | global g=>rfl
  | func f=>rfl
theorem pZ_ (l:List Value):ax_ (cvs l)=l:=by
  induction l with
  | nil=>rfl
  | cons v vs ih=>simp [cvs,ax_,ih,Cel.den]
theorem rb_ (v:Value):(litC v).den=v:=by cases v <;> rfl
theorem fU_ (l:List Value):ax_ (lr_ l)=l:=by
  induction l with
  | nil=>rfl
  | cons v vs ih=>simp [lr_,ax_,ih,rb_]
theorem fr_ {s:SV} {cs:List Cel} (h:cellsOf s=some cs):s.den=.agg ⟨ax_ cs⟩:=by
  cases s with
  | a l=>cases h;rfl
  | c x=>
    cases x with
    | v v=>
      cases v
      case agg A=>cases h;simp [SV.den,Cel.den,pZ_]
      all_goals exact absurd h (by simp [cellsOf])
    | _=>simp [cellsOf] at h
theorem em_ (l:List Cel):lenC l=l.length:=by
  induction l with
  | nil=>rfl
  | cons v vs ih=>simp [lenC,ih]
theorem bv_ (l:List Cel):(ax_ l).length=l.length:=by
  induction l with
  | nil=>rfl
  | cons v vs ih=>simp [ax_,ih]
theorem pX_ (l:List Cel) (i:Nat):(ax_ l)[i]? = (nthC l i).map Cel.den:=by
  induction l generalizing i with
  | nil=>rfl
  | cons v vs ih=>cases i with
    | zero=>rfl
    | succ i=>simpa [ax_,nthC] using ih i
theorem q1_ {l:List Cel} {i:Nat} {x:Cel} (h:nthC l i=some x):x∈l:=by
  induction l generalizing i with
  | nil=>cases h
  | cons v vs ih=>cases i with
    | zero=>cases h;exact List.mem_cons_self
    | succ i=>exact List.mem_cons_of_mem _ (ih h)
theorem lA_ (l:List Cel) (i:Nat) (x:Cel):ax_ (putC l i x)=(ax_ l).set i x.den:=by
  induction l generalizing i with
  | nil=>rfl
  | cons v vs ih=>cases i with
    | zero=>rfl
    | succ i=>simp [ax_,putC,ih]
theorem m__ {l:List Cel} {i:Nat} {x y:Cel} (h:y∈putC l i x):y=x∨y∈l:=by
  induction l generalizing i with
  | nil=>cases h
  | cons v vs ih=>cases i with
    | zero=>
      rcases List.mem_cons.1 h with h | h
      · exact .inl h
      · exact .inr (List.mem_cons_of_mem _ h)
    | succ i=>
      rcases List.mem_cons.1 h with h | h
      · exact .inr (h ▸ List.mem_cons_self)
      · rcases ih h with h | h
        · exact .inl h
        · exact .inr (List.mem_cons_of_mem _ h)
theorem qY_ {l xs:List Cel} {y:Cel} (h:y∈over l xs):y∈xs∨y∈l:=by
  induction xs generalizing l with
  | nil=>cases l <;> exact .inr h
  | cons x xs ih=>cases l with
    | nil=>cases h
    | cons v l=>
      rcases List.mem_cons.1 h with h | h
      · exact .inl (h ▸ List.mem_cons_self)
      · rcases ih h with h | h
        · exact .inl (List.mem_cons_of_mem _ h)
        · exact .inr (List.mem_cons_of_mem _ h)
theorem oZ_ {l xs:List Cel} {n:Nat} {y:Cel} (h:y∈spl l n xs):y∈xs∨y∈l:=by
  induction n generalizing l with
  | zero=>cases l <;> exact qY_ h
  | succ n ih=>cases l with
    | nil=>cases h
    | cons v l=>
      rcases List.mem_cons.1 h with h | h
      · exact .inr (h ▸ List.mem_cons_self)
      · rcases ih h with h | h
        · exact .inl h
        · exact .inr (List.mem_cons_of_mem _ h)
theorem md_ (off:Nat):∀(cs:List Value) (cells:List Value),off+cs.length≤cells.length→∀i:Nat,(hX_ cells off cs)[i]? = if off≤i∧i<off+cs.length then cs[i - off]? else cells[i]?:=by
  have put_get:∀(e:List Value) (i:Nat) (x:Value) (j:Nat),(put e i x)[j]? = if i=j∧i<e.length then some x else e[j]?:=by
    intro e
    induction e with
    | nil=>intro i x j;simp [put]
    | cons v vs ih=>
      intro i x j
      cases i with
      | zero=>cases j <;> simp [put]
      | succ i=>cases j with
        | zero=>simp [put]
        | succ j=>simp [put,ih]
  have plen:∀(e:List Value) (i:Nat) (x:Value),(put e i x).length=e.length:=by
    intro e
    induction e with
    | nil=>intro i x;rfl
    | cons v vs ih=>intro i x;cases i <;> simp [put,ih]
  have key:∀(cs:List Value) (k:Nat) (cells:List Value),off+k+cs.length≤cells.length→∀i:Nat,
      ((cs.zipIdx k).foldl (λl (c,j)=>put l (off+j) c) cells)[i]? = if off+k≤i∧i<off+k+cs.length then cs[i - (off+k)]? else cells[i]?:=by
    intro cs
    induction cs with
    | nil=>intro k cells h i;simp;omega
    | cons c cs ih=>
      intro k cells h i
      simp only [List.length_cons] at h
      simp only [List.zipIdx_cons,List.foldl_cons]
      rw [ih (k+1) _ (by rw [plen];omega) i,put_get]
      simp only [List.length_cons]
      by_cases h1:off+(k+1)≤i∧i<off+(k+1)+cs.length
      · rw [if_pos h1,if_pos (by omega)]
        rw [show i - (off+k)=i - (off+(k+1))+1 by omega]
        simp
      · rw [if_neg h1]
        by_cases h2:off+k=i
        · rw [if_pos ⟨h2,by omega⟩,if_pos (by omega)]
          subst h2;simp
        · rw [if_neg (λh=>h2 h.1),if_neg (by omega)]
  intro cs cells h i
  have:=key cs 0 cells (by omega) i
  simpa [hX_] using this
theorem qZ_ (l xs:List Cel) (h:xs.length≤l.length) (i:Nat):(ax_ (over l xs))[i]? = if i<xs.length then (ax_ xs)[i]? else (ax_ l)[i]?:=by
  induction xs generalizing l i with
  | nil=>cases l <;> simp [over]
  | cons x xs ih=>cases l with
    | nil=>simp at h
    | cons v l=>
      cases i with
      | zero=>simp [over,ax_]
      | succ i=>simpa [over,ax_] using ih l (by simpa using h) i
theorem o0_ (l xs:List Cel) (n:Nat) (h:n+xs.length≤l.length) (i:Nat):(ax_ (spl l n xs))[i]? = if n≤i∧i<n+xs.length then (ax_ xs)[i - n]? else (ax_ l)[i]?:=by
  induction n generalizing l i with
  | zero=>
    have:spl l 0 xs=over l xs:=by cases l <;> rfl
    rw [this,qZ_ l xs (by omega)]
    simp
  | succ n ih=>cases l with
    | nil=>simp at h
    | cons v l=>
      cases i with
      | zero=>simp [spl,ax_]
      | succ i=>
        have:=ih l (by simp at h;omega) i
        simp only [spl,ax_,List.getElem?_cons_succ]
        rw [this]
        by_cases h1:n≤i∧i<n+xs.length
        · rw [if_pos h1,if_pos (by omega),show i+1 - (n+1)=i - n by omega]
        · rw [if_neg h1,if_neg (by omega)]
theorem pW_ (l xs:List Cel) (n:Nat) (h:n+xs.length≤l.length):ax_ (spl l n xs)=hX_ (ax_ l) n (ax_ xs):=by
  apply List.ext_getElem?
  intro i
  rw [o0_ l xs n h,md_ n (ax_ xs) (ax_ l) (by simpa [bv_] using h)]
  simp [bv_]
theorem pY_ (l:List Cel) (o n:Nat):ax_ (cutC l o n)=((ax_ l).drop o).take n:=by
  induction l generalizing o n with
  | nil=>cases n <;> simp [cutC,ax_]
  | cons v l ih=>
    cases n with
    | zero=>cases o <;> simp [cutC,ax_]
    | succ n=>cases o with
      | zero=>simpa [cutC,ax_] using ih 0 n
      | succ o=>simpa [cutC,ax_] using ih o (n+1)
theorem rv_ {l:List Cel} {o n:Nat} {y:Cel} (h:y∈cutC l o n):y∈l:=by
  induction l generalizing o n with
  | nil=>cases n <;> cases h
  | cons v l ih=>
    cases n with
    | zero=>cases o <;> cases h
    | succ n=>cases o with
      | zero=>
        rcases List.mem_cons.1 h with h | h
        · exact h ▸ List.mem_cons_self
        · exact List.mem_cons_of_mem _ (ih h)
      | succ o=>exact List.mem_cons_of_mem _ (ih h)
theorem di_ (H:List Bk) (i:Nat):nthH H i=H[i]?:=by
  induction H generalizing i with
  | nil=>rfl
  | cons v vs ih=>cases i with
    | zero=>rfl
    | succ i=>simpa [nthH] using ih i
theorem fj_ (H:List Bk):lenH H=H.length:=by
  induction H with
  | nil=>rfl
  | cons v vs ih=>simp [lenH,ih]
theorem eC_ (H:List Bk) (i:Nat) (c:Cs) (j:Nat):nthH (setH H i c) j=if i=j then (nthH H j).map (λx=>⟨x.b,c,x.T,x.wr⟩) else nthH H j:=by
  induction H generalizing i j with
  | nil=>simp [setH,nthH]
  | cons v vs ih=>
    cases i with
    | zero=>cases j <;> simp [setH,nthH]
    | succ i=>cases j with
      | zero=>simp [setH,nthH]
      | succ j=>simp [setH,nthH,ih]
theorem qT_ (H:List Bk) (i:Nat) (c:Cs):(setH H i c).length=H.length:=by
  induction H generalizing i with
  | nil=>rfl
  | cons v vs ih=>cases i <;> simp [setH,ih]
theorem tw_ {x:Cel} {K:Cel→Prop} : fC x K↔K x:=by cases x <;> exact Iff.rfl
theorem mv_ {l:List Cel} {K:List Cel→Prop} : fL l K↔K l:=by
  induction l generalizing K with
  | nil=>exact Iff.rfl
  | cons x l ih=>simp only [fL,tw_,ih]
theorem rp_ {s:SV} {K:SV→Prop} : fS s K↔K s:=by
  cases s with
  | c x=>simp only [fS,tw_]
  | a l=>simp only [fS,mv_]
theorem pN_ {l:List SV} {K:List SV→Prop} : fE l K↔K l:=by
  induction l generalizing K with
  | nil=>exact Iff.rfl
  | cons x l ih=>simp only [sx_,ih]
theorem tS_ {l:List SV} {i:Nat} {x:SV} {K:List SV→Prop} : fP l i x K↔K (putS l i x):=by
  induction l generalizing i K with
  | nil=>exact Iff.rfl
  | cons v vs ih=>cases i with
    | zero=>exact Iff.rfl
    | succ n=>rw [sw_,ih,dr_]
theorem iw_ {env:List SV} {d:Option Nat} {x:SV} {K:List SV→Prop} : fPD env d x K↔K (iW_ env d x):=by
  cases d with
  | none=>exact Iff.rfl
  | some d=>exact tS_
theorem tv_ {c:Cs} {K:Cs→Prop} : fCs c K↔K c:=by
  cases c with
  | l cs=>simp only [fCs,mv_]
  | _=>exact Iff.rfl
theorem ix_ {l:List Bk} {K:List Bk→Prop} : fH l K↔K l:=by
  induction l generalizing K with
  | nil=>exact Iff.rfl
  | cons x l ih=>obtain ⟨b,c,T,w⟩:=x;simp only [fH,tv_,ih]
theorem tu_ {l:List Ck} {K:List Ck→Prop} : fKs l K↔K l:=by
  induction l generalizing K with
  | nil=>exact Iff.rfl
  | cons x l ih=>cases x <;> simp only [fKs,ih]
theorem pM_ {l:List (Nat × Sk)} {K:List (Nat × Sk)→Prop} : fG l K↔K l:=by
  induction l generalizing K with
  | nil=>exact Iff.rfl
  | cons x l ih=>
    obtain ⟨i,k⟩:=x
    cases k with
    | c k=>simp only [fG,ih]
    | a ks=>simp only [fG,tu_,ih]
def wfC (bs:List Nat):Cel→Prop
  | .p i b _ _=>bs[i]? = some b
  | .q i b _ _ _ _=>bs[i]? = some b
  | _=>True
def wfCs (bs:List Nat) (l:List Cel):Prop:=∀x,x∈l→wfC bs x
def wfS (bs:List Nat):SV→Prop
  | .c x=>wfC bs x
  | .a l=>wfCs bs l
def wfE (bs:List Nat) (env:List SV):Prop:=∀s,s∈env→wfS bs s
def bsH (H:List Bk):List Nat:=H.map (·.b)
def wfH (bs:List Nat) (H:List Bk):Prop:=∀i x cs,nthH H i=some x→x.cs=.l cs→wfCs bs cs
theorem dT_ (H:List Bk) (i:Nat):(bsH H)[i]? = (nthH H i).map (·.b):=by rw [di_];simp [bsH]
theorem ow_ {bs:List Nat} {env:List SV} (h:wfE bs env) (n:Nat):wfS bs (nthS env n):=by
  induction env generalizing n with
  | nil=>exact trivial
  | cons v vs ih=>cases n with
    | zero=>exact h _ List.mem_cons_self
    | succ n=>exact ih (λs hs=>h s (List.mem_cons_of_mem _ hs)) n
theorem lU_ {bs:List Nat} {env:List SV} (h:wfE bs env) (n:Nat) {s:SV} (hs:wfS bs s):wfE bs (putS env n s):=by
  induction env generalizing n with
  | nil=>exact h
  | cons v vs ih=>cases n with
    | zero=>
      intro x hx
      rcases List.mem_cons.1 hx with rfl | hx
      · exact hs
      · exact h x (List.mem_cons_of_mem _ hx)
    | succ n=>
      intro x hx
      rcases List.mem_cons.1 hx with rfl | hx
      · exact h _ List.mem_cons_self
      · exact ih (λs hs=>h s (List.mem_cons_of_mem _ hs)) n x hx
theorem qz_ {bs:List Nat} {env:List SV} (h:wfE bs env) (d:Option Nat) {s:SV} (hs:wfS bs s):wfE bs (iW_ env d s):=by
  cases d with
  | none=>exact h
  | some d=>exact lU_ h d hs
theorem jM_ (bs:List Nat) (v:Value):wfS bs (litV v):=by cases v <;> exact trivial
theorem bF_ {bs:List Nat} {env:List SV} (h:wfE bs env) (o:Operand):wfS bs (ev3 env o):=by
  cases o with
  | tmp t=>exact ow_ h t
  | const v=>exact jM_ bs v
  | _=>exact trivial
theorem jP_ (bs:List Nat) (l:List Value):wfCs bs (cvs l):=by
  induction l with
  | nil=>intro x hx;cases hx
  | cons v vs ih=>
    intro x hx
    rcases List.mem_cons.1 hx with rfl | hx
    · exact trivial
    · exact ih x hx
theorem hh_ (bs:List Nat) (l:List Value):wfCs bs (lr_ l):=by
  induction l with
  | nil=>intro x hx;cases hx
  | cons v vs ih=>
    intro x hx
    rcases List.mem_cons.1 hx with rfl | hx
    · cases v <;> exact trivial
    · exact ih x hx
theorem lV_ {bs:List Nat} {s:SV} {cs:List Cel} (h:cellsOf s=some cs) (hs:wfS bs s):wfCs bs cs:=by
  cases s with
  | a l=>cases h;exact hs
  | c x=>
    cases x with
    | v v=>
      cases v
      case agg A=>cases h;exact jP_ _ _
      all_goals exact absurd h (by simp [cellsOf])
    | _=>simp [cellsOf] at h
theorem mU_ {bs bs':List Nat} (h:∀(i b:Nat),bs[i]? = some b→bs'[i]? = some b) {x:Cel} (hx:wfC bs x):wfC bs' x:=by
  cases x with
  | p i b l o=>exact h _ _ hx
  | q i b l o n c=>exact h _ _ hx
  | _=>exact trivial
theorem hw_ {bs bs':List Nat} (h:∀(i b:Nat),bs[i]? = some b→bs'[i]? = some b) {l:List Cel} (hx:wfCs bs l):wfCs bs' l:=λx hm=>mU_ h (hx x hm)
theorem qy_ {bs bs':List Nat} (h:∀(i b:Nat),bs[i]? = some b→bs'[i]? = some b) {s:SV} (hs:wfS bs s):wfS bs' s:=by
  cases s with
  | c x=>exact mU_ h hs
  | a l=>exact hw_ h hs
theorem qA_ {bs bs':List Nat} (h:∀(i b:Nat),bs[i]? = some b→bs'[i]? = some b) {e:List SV} (hs:wfE bs e):wfE bs' e:=λs hm=>qy_ h (hs s hm)
section
variable {P:Program} {R:Addr→Value→Prop} {Q:World→Prop}
theorem k7_ {isb:Bool} {x:Cel} {K:SV→Prop} (h:spl3 isb x K) (bs:List Nat) (hx:wfC bs x):∃s,K s∧s.den=x.den∧wfS bs s:=by
  cases isb with
  | false=>exact ⟨_,h,rfl,hx⟩
  | true=>
    cases x with
    | v v=>
      cases v
      case bool b=>
        cases b
        · exact ⟨_,h.2 rfl,rfl,trivial⟩
        · exact ⟨_,h.1 rfl,rfl,trivial⟩
      all_goals exact ⟨_,h,rfl,hx⟩
    | _=>exact ⟨_,h,rfl,hx⟩
theorem kl_ {t:TypeId} {cs:List Cel} {o:Nat} {K:SV→Prop} (h:ldL P t cs o K) (bs:List Nat) (hcs:wfCs bs cs) :
    ∃s,K s∧wfS bs s∧(∀(b:Nat) (w:World) T,w.heap[b]? = some (.cells ⟨ax_ cs⟩ T (0,0))→(loadVar t ⟨b,o,none⟩).run P w=.ok s.den w)∧∀w,(part t ⟨ax_ cs⟩ o).run P w=.ok s.den w:=by
  unfold ldL at h
  split at h
  · rename_i hk ha
    split at h
    · rename_i x hx
      obtain ⟨s,hK,hd,hs⟩:=k7_ h bs (hcs _ (q1_ hx))
      have hg:(⟨ax_ cs⟩:Array Value)[o]? = some x.den:=by
        have:=pX_ cs o;rw [hx] at this;simpa using this
      refine ⟨s,hK,hs,λb w T hb=>?_,λw=>?_⟩
      · have hc:w.cell? ⟨b,o,none⟩=some x.den:=by rw [aw_ hb,hg]
        simp [loadVar,cB_ hk,ha,hc,hd]
      · rw [hl_ hk,ha,hg,hd];rfl
    · exact h.elim
  · rename_i hk ha
    split at h
    · rename_i hl
      have hl:=Nat.le_of_ble_eq_true hl
      rw [em_] at hl
      have hcut:ax_ (cutC cs o (szOf P t))=((ax_ cs).drop o).take (szOf P t):=pY_ cs o _
      have hlen:(ax_ (cutC cs o (szOf P t))).length=szOf P t:=by rw [hcut];simp [bv_];omega
      refine ⟨_,h,λx hx=>hcs x (rv_ hx),λb w T hb=>?_,λw=>?_⟩
      · have hrow:∀(n i:Nat) (acc:Array Value),i+n≤szOf P t→(loadCellsFrom ⟨b,o,none⟩ i n acc).run P w=.ok (acc++(((ax_ (cutC cs o (szOf P t))).drop i).take n).toArray) w:=by
          intro n
          induction n with
          | zero=>intro i acc _;simp [loadCellsFrom]
          | succ n ih=>
            intro i acc hi
            have hi':i<(ax_ (cutC cs o (szOf P t))).length:=by omega
            have hc:w.cell? ((⟨b,o,none⟩:Addr).add i)=some (ax_ (cutC cs o (szOf P t)))[i]:=by
              rw [au_,aw_ hb]
              have e1:(ax_ (cutC cs o (szOf P t)))[i]? = (ax_ cs)[o+i]?:=by
                rw [hcut,List.getElem?_take,if_pos (by omega),List.getElem?_drop]
              have e2:(ax_ (cutC cs o (szOf P t)))[i]? = some (ax_ (cutC cs o (szOf P t)))[i]:=List.getElem?_eq_getElem hi'
              rw [← e2,e1];simp
            simp only [loadCellsFrom,Sem.run_bind]
            have hl:(load ((⟨b,o,none⟩:Addr).add i)).run P w=.ok (ax_ (cutC cs o (szOf P t)))[i] w:=by simp [load,Sem.run,hc]
            rw [hl,Result.andThen_ok,ih (i+1) _ (by omega)]
            congr 1
            conv=>rhs;rw [List.drop_eq_getElem_cons hi',List.take_succ_cons]
            simp
        have:=hrow (szOf P t) 0 #[] (by omega)
        have e3:((ax_ (cutC cs o (szOf P t))).drop 0).take (szOf P t)=ax_ (cutC cs o (szOf P t)):=by
          rw [List.drop_zero,List.take_of_length_le (by omega)]
        rw [e3] at this
        simp [loadVar,cB_ hk,ha,run_sizeOf hk,loadCells,this,SV.den]
      · rw [hl_ hk,ha]
        simp only [if_true,SV.den]
        congr 2
        rw [hcut]
        apply Array.toList_inj.1
        simp
    · exact h.elim
  · exact h.elim
theorem re_ {A:Array Value} : ∀ {ks:List Ck} {o:Nat} {K:List Value→Prop},ldRC A o ks K→∃vs,K vs∧vs.length=ks.length∧∀i,i<ks.length→A[o+i]? = vs[i]?:=by
  intro ks
  induction ks with
  | nil=>intro o K h;exact ⟨[],h,rfl,λi hi=>by cases hi⟩
  | cons k ks ih=>
    intro o K h
    obtain ⟨v,hv,h⟩:=f5_ h
    obtain ⟨vs,hK,hl,hg⟩:=ih h
    refine ⟨v :: vs,hK,by simp [hl],λi hi=>?_⟩
    cases i with
    | zero=>simpa using hv
    | succ i=>have:=hg i (by simpa using hi);rw [show o+(i+1)=o+1+i by omega,this];simp
theorem kk_ {t:TypeId} {A:Array Value} {o:Nat} {K:SV→Prop} (h:ldR P t A o K) (bs:List Nat) :
    ∃s,K s∧wfS bs s∧∀(b:Nat) (w:World) T,w.heap[b]? = some (.cells A T (0,0))→(loadVar t ⟨b,o,none⟩).run P w=.ok s.den w:=by
  unfold ldR at h
  split at h
  · rename_i hk ha
    obtain ⟨v,hv,h⟩:=f5_ h
    obtain ⟨s,hK,hd,hs⟩:=k7_ h bs trivial
    refine ⟨s,hK,hs,λb w T hb=>?_⟩
    have hc:w.cell? ⟨b,o,none⟩=some v:=by rw [aw_ hb,hv]
    have hd':s.den=v:=hd
    simp [loadVar,cB_ hk,ha,hc,hd']
  · rename_i hk ha
    split at h
    · rename_i hl
      have hl:=Nat.eq_of_beq_eq_true hl
      obtain ⟨vs,hK,hlen,hg⟩:=re_ h
      refine ⟨_,hK,trivial,λb w T hb=>?_⟩
      have hrow:∀(n i:Nat) (acc:Array Value),i+n=szOf P t→(loadCellsFrom ⟨b,o,none⟩ i n acc).run P w=.ok (acc++(vs.drop i).toArray) w:=by
        intro n
        induction n with
        | zero=>intro i acc hi;simp [loadCellsFrom];omega
        | succ n ih=>
          intro i acc hi
          have hi':i<vs.length:=by omega
          have hc:w.cell? ((⟨b,o,none⟩:Addr).add i)=some vs[i]:=by
            rw [au_,aw_ hb,hg i (by omega)];exact List.getElem?_eq_getElem hi'
          simp only [loadCellsFrom,Sem.run_bind]
          have hl:(load ((⟨b,o,none⟩:Addr).add i)).run P w=.ok vs[i] w:=by simp [load,Sem.run,hc]
          rw [hl,Result.andThen_ok,ih (i+1) _ (by omega)]
          congr 1
          rw [List.drop_eq_getElem_cons hi']
          simp
      have:=hrow (szOf P t) 0 #[] (by omega)
      simp [loadVar,cB_ hk,ha,run_sizeOf hk,loadCells,SV.den,Cel.den]
      rw [this];simp
    · exact h.elim
  · exact h.elim
theorem dx_ {c:Ck} {x:Cel} {K:Prop} (h:one3 c x K):oneC x.den=true∧K:=by
  cases x with
  | v v=>exact h8_ h
  | _=>exact ⟨rfl,h⟩
theorem jk_ {c:Ck} {v:Value} {K:Prop} (h:oneC v=true) (k:K):one1 c v K:=by
  unfold one1;split
  · exact ⟨h,k⟩
  · rw [h];exact k
theorem jj_:∀ {cs:List Ck} {xs:List Cel} {K:Prop},si_ cs xs K→(∀x,x∈xs→oneC x.den=true)∧K
  | [],[],K,h=>⟨λx hx=>(by cases hx),h⟩
  | [],_ :: _,K,h=>h.elim
  | _ :: _,[],K,h=>h.elim
  | c :: cs,x :: xs,K,h=>by
    obtain ⟨h1,h2⟩:=dx_ h
    obtain ⟨h3,h4⟩:=jj_ h2
    refine ⟨λy hy=>?_,h4⟩
    rcases List.mem_cons.1 hy with rfl | hy
    · exact h1
    · exact h3 y hy
def pV_:List (Nat × SV)→List (Nat × Value)
  | []=>[]
  | (i,s) :: r=>(i,s.den) :: pV_ r
theorem kC_ (env:List SV) (ps:List (Nat × Operand)):pV_ (evps env ps)=ps.map λp=>(p.1,ev (denE env) p.2):=by
  induction ps with
  | nil=>rfl
  | cons p ps ih=>obtain ⟨i,o⟩:=p;simp [evps,pV_,ih,aB_]
theorem lT_ {bs:List Nat} {env:List SV} (h:wfE bs env) (ps:List (Nat × Operand)):∀x,x∈evps env ps→wfS bs x.2:=by
  induction ps with
  | nil=>intro x hx;cases hx
  | cons p ps ih=>
    obtain ⟨i,o⟩:=p
    intro x hx
    rcases List.mem_cons.1 hx with rfl | hx
    · exact bF_ h o
    · exact ih x hx
theorem fn_ {place:Nat→Option (TypeId × Nat)} (bs:List Nat):∀ {parts:List (Nat × SV)} {cells:List Cel} {K:List Cel→Prop},(∀x,x∈parts→wfS bs x.2)→wfCs bs cells→mu_ P place cells parts K→
    g__ P place (ax_ cells) (pV_ parts) λvs=>∃cs,vs=ax_ cs∧wfCs bs cs∧K cs:=by
  intro parts
  induction parts with
  | nil=>intro cells K _ hc h;exact ⟨cells,rfl,hc,h⟩
  | cons p parts ih=>
    obtain ⟨i,s⟩:=p
    intro cells K hp hc h
    have hs:wfS bs s:=hp (i,s) List.mem_cons_self
    have hp':∀x,x∈parts→wfS bs x.2:=λx hx=>hp x (List.mem_cons_of_mem _ hx)
    simp only [mu_] at h
    simp only [pV_,g__]
    split at h
    · exact h.elim
    · rename_i ft off hpl
      simp only [hpl]
      split at h
      · rename_i hk ha
        simp only [hk,ha]
        split at h
        · rename_i cs hcs
          split at h
          · rename_i hh
            simp only [Bool.and_eq_true] at hh
            have h1:=Nat.eq_of_beq_eq_true hh.1
            have h2:=Nat.le_of_ble_eq_true hh.2
            rw [em_] at h1 h2
            rw [em_] at h2
            rw [fr_ hcs]
            simp only [List.size_toArray,bv_]
            rw [if_pos ⟨h1,h2⟩]
            rw [mv_] at h
            have:=ih hp' (λx hx=>(oZ_ hx).elim (lV_ hcs hs x) (hc x)) h
            rwa [pW_ _ _ _ h2] at this
          · exact h.elim
        · exact h.elim
      · rename_i hk ha
        simp only [hk,ha]
        split at h
        · rename_i y
          split at h
          · rename_i hh
            simp only [Bool.and_eq_true] at hh
            have h1:=Nat.eq_of_beq_eq_true hh.1
            have h2:=Nat.le_of_ble_eq_true hh.2
            rw [em_] at h2
            rw [bv_]
            rw [if_pos ⟨h1,h2⟩]
            obtain ⟨h3,h⟩:=dx_ h
            rw [mv_] at h
            refine jk_ h3 ?_
            have:=ih hp' (λx hx=>(m__ hx).elim (λe=>e ▸ hs) (hc x)) h
            have e:ax_ (putC cells off y)=put (ax_ cells) off y.den:=by
              rw [lA_]
              have:∀(l:List Value) (n:Nat) (v:Value),l.set n v=put l n v:=by
                intro l
                induction l with
                | nil=>intro n v;rfl
                | cons a l ih=>intro n v;cases n <;> simp [put,ih]
              exact this _ _ _
            rwa [e] at this
          · exact h.elim
        · exact h.elim
      · exact h.elim
theorem jx_ {place:Nat→Option (TypeId × Nat)} : ∀ {parts:List (Nat × Value)} {cells:List Value} {K K':List Value→Prop},(∀v,K v→K' v)→g__ P place cells parts K→g__ P place cells parts K':=by
  intro parts
  induction parts with
  | nil=>intro cells K K' hk h;exact hk _ h
  | cons p parts ih=>
    obtain ⟨i,v⟩:=p
    intro cells K K' hk h
    simp only [g__] at h ⊢
    split at h
    · exact h.elim
    · rename_i ft off hpl
      try simp only [hpl]
      split at h
      · rename_i hkn ha
        try simp only [hkn,ha]
        split at h
        · split at h
          · rename_i hh;rw [if_pos hh];exact ih hk h
          · exact h.elim
        · exact h.elim
      · rename_i hkn ha
        try simp only [hkn,ha]
        split at h
        · rename_i hh
          rw [if_pos hh]
          obtain ⟨h1,h2⟩:=h8_ h
          exact jk_ h1 (ih hk h2)
        · exact h.elim
      · exact h.elim
theorem lD_ {env:List SV} {t:TypeId} {parts:Array (Nat × Operand)} {K:SV→Prop} (bs:List Nat) (hw:wfE bs env) (h:p9_ P env t parts K) :
    lC_ P (denE env) t parts λv=>∃s,v=s.den∧wfS bs s∧K s:=by
  unfold p9_ at h
  unfold lC_
  split at h
  · rename_i z fs hz hu
    simp only [hz,hu]
    split at h
    · rename_i hk
      rw [if_pos hk]
      have:=fn_ bs (lT_ hw _) (hh_ bs _) h
      rw [fU_,kC_] at this
      exact jx_ (λv ⟨cs,e,hc,hK⟩=>⟨.a cs,by rw [e];rfl,hc,hK⟩) this
    · exact h.elim
  · rename_i z n e hz hu
    simp only [hz,hu]
    split at h
    · rename_i hk
      rw [if_pos hk]
      have:=fn_ bs (lT_ hw _) (hh_ bs _) h
      rw [fU_,kC_] at this
      exact jx_ (λv ⟨cs,e,hc,hK⟩=>⟨.a cs,by rw [e];rfl,hc,hK⟩) this
    · exact h.elim
  · exact h.elim
end
end Go.Vc
namespace Go.Vc
open Go
section
variable {P:Program} {R:Addr→Value→Prop} {Q:World→Prop}
theorem ku_ (hR:∀a v,R a v→∀w,Q w→w.cell? a=some v) {env:List SV} {o:Oper} {K:SV→Prop} {bs:List Nat} {f:Value→SV} (hf:∀v,(f v).den=v∧wfS bs (f v))
    (h:opS P R (denE env) o λv=>K (f v)):∃s,K s∧wfS bs s∧∀w,Q w→(execOp (ev (denE env)) o).run P w=.ok (.value s.den) w:=by
  obtain ⟨v,hK,hr⟩:=ph_ hR h
  exact ⟨f v,hK,(hf v).2,λw hw=>by rw [(hf v).1];exact hr w hw⟩
theorem f_v (bs:List Nat) (v:Value):(SV.c (.v v)).den=v∧wfS bs (SV.c (.v v)):=⟨rfl,trivial⟩
theorem tt_ (bs:List Nat) (v:Value):(litV v).den=v∧wfS bs (litV v):=⟨ki_ v,jM_ bs v⟩
theorem f_if (bs:List Nat) (b:Bool) (v:Value):(id_ b v).den=v∧wfS bs (id_ b v):=by
  cases b
  · exact f_v bs v
  · exact tt_ bs v
theorem pE_ {env:List SV} {len y:Nat} {o:Option Operand} {K:Nat→Prop} (h:hiC env len y o K):hiS (denE env) len y o K:=by
  cases o with
  | none=>exact h
  | some o=>
    simp only [hiC] at h
    simp only [hiS,← aB_]
    split at h
    · rename_i k n he;rw [he];exact h
    · exact h.elim
theorem pu_ {env:List SV} {y:Nat} {o:Option Operand} {K:Nat→Prop} (h:loC env y o K):loS (denE env) y o K:=by
  cases o with
  | none=>exact h
  | some o=>
    simp only [loC] at h
    simp only [loS,← aB_]
    split at h
    · rename_i k n he;rw [he];exact h
    · exact h.elim
theorem ni_ {env:List Value} {len y:Nat} {o:Option Operand} {K K':Nat→Prop} (hk:∀n,K n→K' n) (h:hiS env len y o K):hiS env len y o K':=by
  cases o with
  | none=>exact hk _ h
  | some o=>
    simp only [hiS] at h ⊢
    split at h
    · exact ⟨h.1,h.2.1,hk _ h.2.2⟩
    · exact h.elim
theorem nf_ {env:List Value} {y:Nat} {o:Option Operand} {K K':Nat→Prop} (hk:∀n,(o=none→n=0)→K n→K' n) (h:loS env y o K):loS env y o K':=by
  cases o with
  | none=>exact hk _ (λ_=>rfl) h
  | some o=>
    simp only [loS] at h ⊢
    split at h
    · exact ⟨h.1,h.2.1,hk _ (λe=>by cases e) h.2.2⟩
    · exact h.elim
theorem hJ_ (lo:Option Operand) (b cap l o sz:Nat) (h:lo=none→l=0):(if cap=l then (⟨b,o,none⟩:Addr) else (⟨b,o,none⟩:Addr).add (l*sz))=⟨b,hk_ lo cap l o sz,none⟩:=by
  unfold hk_
  cases lo with
  | none=>rw [h rfl];simp [Addr.add]
  | some x=>
    simp only [au_]
    split <;> rfl
theorem ga_ (hR:∀a v,R a v→∀w,Q w→w.cell? a=some v) {rd:Nat→Bool} {env:List SV} {H:List Bk} {o:Oper} {K:SV→Prop} (hw:wfE (bsH H) env) (hH:wfH (bsH H) H)
    (hB:∀i x A,nthH H i=some x→rd i=true→x.cs.arr=some A→∀w,Q w→∃T,w.heap[x.b]? = some (.cells A T (0,0))) (h:sil3 P R rd env H o K) :
    ∃s,K s∧wfS (bsH H) s∧∀w,Q w→(execOp (ev (denE env)) o).run P w=.ok (.value s.den) w:=by
  have fv:=ku_ (P:=P) (env:=env) (o:=o) (K:=K) hR (f:=λv=>.c (.v v)) (λv=>f_v (bsH H) v)
  have fl:=ku_ (P:=P) (env:=env) (o:=o) (K:=K) hR (f:=litV) (λv=>tt_ (bsH H) v)
  have fi:=λb=>ku_ (P:=P) (env:=env) (o:=o) (K:=K) hR (f:=λv=>id_ b v) (λv=>f_if (bsH H) b v)
  unfold sil3 at h
  split at h
  · rename_i x ho;exact ⟨_,h,bF_ hw x,λw _=>by simp [execOp,ho,aB_]⟩
  · rename_i x ho;exact ⟨_,h,bF_ hw x,λw _=>by simp [execOp,ho,aB_]⟩
  · rename_i c a b ho
    split at h
    · rename_i hc
      have e:ev (denE env) c=.bool true:=by rw [← aB_,hc];rfl
      exact ⟨_,h,bF_ hw a,λw _=>by simp [execOp,ho,aB_,e,asBool]⟩
    · rename_i hc
      have e:ev (denE env) c=.bool false:=by rw [← aB_,hc];rfl
      exact ⟨_,h,bF_ hw b,λw _=>by simp [execOp,ho,aB_,e,asBool]⟩
    · exact h.elim
  · rename_i x ho
    split at h
    · rename_i i b l a hx
      have e:ev (denE env) x=.pointer (some ⟨b,a,none⟩):=by rw [← aB_,hx];rfl
      have hwf:=bF_ hw x;rw [hx] at hwf
      exact ⟨_,h,hwf,λw _=>by simp [execOp,ho,e,SV.den,Cel.den]⟩
    · exact fv h
  · rename_i s x f ho
    split at h
    · rename_i i b l a hx
      have e:ev (denE env) x=.pointer (some ⟨b,a,none⟩):=by rw [← aB_,hx];rfl
      have hwf:=bF_ hw x;rw [hx] at hwf
      split at h
      · rename_i fs hu
        split at h
        · rename_i fd hf
          split at h
          · rename_i hk
            simp only [Bool.and_eq_true,Bool.not_eq_true'] at hk
            have hz:szOf P fd.type≠0:=λe0=>by rw [e0] at hk;simp at hk
            refine ⟨_,h,hwf,λw _=>?_⟩
            simp [execOp,ho,e,Instr.fieldAt,run_underlying hu,hf,Instr.sureAddr,fieldPlace,run_sizeOf hk.1,hz,SV.den,Cel.den,au_]
          · exact h.elim
        · exact h.elim
      · exact h.elim
    · exact fv h
  · rename_i s x f ho
    split at h
    · rename_i cs hx
      have e:ev (denE env) x=.agg ⟨ax_ cs⟩:=by rw [← aB_,hx];rfl
      have hwf:=bF_ hw x;rw [hx] at hwf
      unfold rW_ at h
      split at h
      · rename_i fs hu
        split at h
        · rename_i fd hf
          obtain ⟨s',hK,hs,_,hr⟩:=kl_ h (bsH H) hwf
          refine ⟨s',hK,hs,λw _=>?_⟩
          simp [execOp,ho,e,Instr.field,run_underlying hu,hf,asAgg,hr w]
        · exact h.elim
      · exact h.elim
    · exact fi _ h
  · rename_i t x i ho
    split at h
    · rename_i cs k n l e hx hc hi hu
      have ex:ev (denE env) x=.agg ⟨ax_ cs⟩:=by rw [← aB_,hx];rfl
      have ei:ev (denE env) i=.int k n:=by rw [← aB_,hi];rfl
      have hwf:=bF_ hw x;rw [hx] at hwf
      split at h
      · rename_i n
        split at h
        · rename_i hn
          simp only [Bool.and_eq_true] at hn
          have hlt:n<l:=by
            have:=Nat.le_of_ble_eq_true (n:=n+1) (m:=l) hn.1
            omega
          obtain ⟨s',hK,hs,_,hr⟩:=kl_ h (bsH H) hwf
          refine ⟨s',hK,hs,λw _=>?_⟩
          have e1:(0:Int)≤Int.ofNat n∧Int.ofNat n<(l:Int):=⟨Int.natCast_nonneg n,by show (n:Int)<l;omega⟩
          have e2:(Int.ofNat n).toNat=n:=rfl
          simp only [execOp,ho,ex,ei,Instr.index,asIntOf,Sem.run_bind,Sem.run_pure,Result.andThen_ok,run_underlying hu,Sem.run_ite]
          rw [if_pos e1]
          simp [run_sizeOf hn.2,hr w]
        · exact h.elim
      · exact h.elim
    · exact fi _ h
  · rename_i t x i ho
    split at h
    · rename_i b n lit a l c k j e hx hi hu
      have ex:ev (denE env) x=.slice (some ⟨n,a,none⟩) l c:=by rw [← aB_,hx];rfl
      have ei:ev (denE env) i=.int k j:=by rw [← aB_,hi];rfl
      have hwf:=bF_ hw x;rw [hx] at hwf
      split at h
      · rename_i hk
        obtain ⟨h0,h1,h⟩:=h
        have:idxS P t (ev (denE env) x) (ev (denE env) i) λv=>v=.pointer (some ⟨n,a+j.toNat*szOf P e,none⟩):=by
          rw [ex,ei];unfold idxS;simp only [hu,if_pos hk]
          exact ⟨_,rfl,h0,h1,by rw [au_]⟩
        obtain ⟨v,rfl,hr⟩:=gy_ this
        exact ⟨_,h,hwf,λw _=>by simp [execOp,ho,hr w,SV.den,Cel.den]⟩
      · exact h.elim
    · rename_i b n lit a k j l e hx hi hu
      have ex:ev (denE env) x=.pointer (some ⟨n,a,none⟩):=by rw [← aB_,hx];rfl
      have ei:ev (denE env) i=.int k j:=by rw [← aB_,hi];rfl
      have hwf:=bF_ hw x;rw [hx] at hwf
      split at h
      · rename_i hk
        obtain ⟨h0,h1,h⟩:=h
        have:idxS P t (ev (denE env) x) (ev (denE env) i) λv=>v=.pointer (some ⟨n,a+j.toNat*szOf P e,none⟩):=by
          rw [ex,ei];unfold idxS;simp only [hu,if_pos hk]
          exact ⟨_,rfl,h0,h1,by rw [au_]⟩
        obtain ⟨v,rfl,hr⟩:=gy_ this
        exact ⟨_,h,hwf,λw _=>by simp [execOp,ho,hr w,SV.den,Cel.den]⟩
      · exact h.elim
    · exact fv h
  · rename_i t x lo hi ho
    split at h
    · rename_i b n lit a l c e hx hu
      have ex:ev (denE env) x=.slice (some ⟨n,a,none⟩) l c:=by rw [← aB_,hx];rfl
      have hwf:=bF_ hw x;rw [hx] at hwf
      split at h
      · rename_i hk
        have:slS P (denE env) t (ev (denE env) x) lo hi λv=>∃s,v=s.den∧wfS (bsH H) s∧K s:=by
          rw [ex];unfold slS;simp only [hu,if_pos hk]
          refine ni_ (λh' hh=>?_) (pE_ h)
          refine nf_ (λg hg hK=>?_) (pu_ hh)
          refine ⟨_,?_,?_,hK⟩
          · simp only [SV.den,Cel.den,Option.map_some]
            have:=hJ_ lo n c g a (szOf P e) hg
            rw [← this]
            split <;> rfl
          · exact (show (bsH H)[b]? = some n from hwf)
        obtain ⟨v,⟨s,rfl,hs,hK⟩,hr⟩:=hK_ this
        exact ⟨s,hK,hs,λw _=>by simp [execOp,ho,hr w]⟩
      · exact h.elim
    · rename_i b n lit a l e hx hu
      have ex:ev (denE env) x=.pointer (some ⟨n,a,none⟩):=by rw [← aB_,hx];rfl
      have hwf:=bF_ hw x;rw [hx] at hwf
      split at h
      · rename_i hk
        have:slS P (denE env) t (ev (denE env) x) lo hi λv=>∃s,v=s.den∧wfS (bsH H) s∧K s:=by
          rw [ex];unfold slS;simp only [hu,if_pos hk]
          refine ⟨_,rfl,?_⟩
          refine ni_ (λh' hh=>?_) (pE_ h)
          refine nf_ (λg hg hK=>?_) (pu_ hh)
          refine ⟨_,?_,?_,hK⟩
          · simp only [SV.den,Cel.den]
            rw [hJ_ lo n l g a (szOf P e) hg]
          · exact (show (bsH H)[b]? = some n from hwf)
        obtain ⟨v,⟨s,rfl,hs,hK⟩,hr⟩:=hK_ this
        exact ⟨s,hK,hs,λw _=>by simp [execOp,ho,hr w]⟩
      · exact h.elim
    · exact fv h
  · rename_i t a ho
    split at h
    · rename_i i b lit o' ha
      have ea:ev (denE env) a=.pointer (some ⟨b,o',none⟩):=by rw [← aB_,ha];rfl
      have hwf:=bF_ hw a;rw [ha] at hwf
      have hwf:(bsH H)[i]? = some b:=hwf
      rw [dT_] at hwf
      have run:∀s:SV,(∀(w:World) T A,(∀x,nthH H i=some x→x.cs.arr=some A)→w.heap[b]? = some (.cells A T (0,0))→(loadVar t ⟨b,o',none⟩).run P w=.ok s.den w)→
          ∀x A,nthH H i=some x→x.cs.arr=some A→rd i=true→∀w,Q w→(execOp (ev (denE env)) o).run P w=.ok (.value s.den) w:=by
        intro s hs x A hx hA hrd w hQ
        rw [hx] at hwf
        have hb:x.b=b:=by simpa using hwf
        obtain ⟨T,hT⟩:=hB i x A hx hrd hA w hQ
        rw [hb] at hT
        have:=hs w T A (λy hy=>by rw [hx] at hy;cases hy;exact hA) hT
        simp [execOp,ho,ea,Instr.loadAt,Instr.sureAddr,this]
      split at h
      · rename_i b' cs T' wr hx hrd
        have hcs:=hH i _ cs hx rfl
        split at h
        · obtain ⟨s,hK,hs,hr,_⟩:=kl_ h (bsH H) hcs
          refine ⟨s,hK,hs,run s (λw T A hA hT=>?_) _ _ hx rfl hrd⟩
          have:=hA _ hx;cases this;exact hr b w T hT
        · obtain ⟨s,hK,hs,hr⟩:=kk_ h (bsH H)
          refine ⟨s,hK,hs,run s (λw T A hA hT=>?_) _ _ hx rfl hrd⟩
          have:=hA _ hx;cases this;exact hr b w T hT
      · rename_i b' A' T' wr hx hrd
        obtain ⟨s,hK,hs,hr⟩:=kk_ h (bsH H)
        refine ⟨s,hK,hs,run s (λw T A hA hT=>?_) _ _ hx rfl hrd⟩
        have:=hA _ hx;cases this;exact hr b w T hT
      · exact fi _ h
    · exact fi _ h
  · rename_i t parts ho
    obtain ⟨v,⟨s,rfl,hs,hK⟩,hr⟩:=gW_ (lD_ (bsH H) hw h)
    refine ⟨s,hK,hs,λw _=>?_⟩
    have e:execOp (ev (denE env)) o=(do pure (.value (← Instr.build t (parts.map λ(i,x)=>(i,ev (denE env) x)))):Sem Next):=by simp only [execOp,ho]
    rw [e];exact de_ _ _ _ _ (hr w)
  · rename_i op t x y yt ho
    have nl:∀(bb:Bool),(op=.eql∧bb=false∨op=.neq∧bb=true)→h9_ P t y=true→K (.c (.k bb))→ef_ (ev (denE env) x) (ev (denE env) y) False True→
        ∃s,K s∧wfS (bsH H) s∧∀w,Q w→(execOp (ev (denE env)) o).run P w=.ok (.value s.den) w:=by
      intro bb hop hn hK ht
      have hm:∀ {A B A' B':Prop} {x y:Value},(A→A')→(B→B')→ef_ x y A B→ef_ x y A' B':=by
        intro A B A' B' x y ha hb h
        unfold ef_ at h ⊢
        split at h
        · exact ⟨λe=>ha (h.1 e),λt v e=>hb (h.2.1 t v e),h.2.2⟩
        · exact ⟨λe=>ha (h.1 e),λf a b e=>hb (h.2.1 f a b e),h.2.2⟩
        · split at h
          · exact ⟨λe=>ha (h.1 e),λa e=>hb (h.2 a e)⟩
          · exact h.elim
        · split at h
          · exact ⟨λe=>ha (h.1 e),λa e=>hb (h.2 a e)⟩
          · exact h.elim
        · split at h
          · exact ⟨λe=>ha (h.1 e),λa e=>hb (h.2 a e)⟩
          · exact h.elim
        · exact h.elim
      have:binS P R (denE env) o op t x y λv=>v=.bool bb:=by
        unfold binS
        simp only [hn]
        rcases hop with ⟨rfl,rfl⟩ | ⟨rfl,rfl⟩
        · exact hm (λh=>h.elim) (λ_=>rfl) ht
        · exact hm (λh=>h.elim) (λ_=>rfl) ht
      obtain ⟨v,rfl,hr⟩:=jE_ hR ho this
      exact ⟨_,hK,trivial,hr⟩
    split at h
    · rename_i hx hn
      obtain ⟨p,e⟩:∃p,ev (denE env) x=.pointer (some p):=⟨_,by rw [← aB_,hx];rfl⟩
      exact nl false (.inl ⟨rfl,rfl⟩) hn h (by rw [e];exact ⟨(λh=>by cases h),λ_ _=>trivial⟩)
    · rename_i hx hn
      obtain ⟨p,e⟩:∃p,ev (denE env) x=.pointer (some p):=⟨_,by rw [← aB_,hx];rfl⟩
      exact nl true (.inr ⟨rfl,rfl⟩) hn h (by rw [e];exact ⟨(λh=>by cases h),λ_ _=>trivial⟩)
    · rename_i hx hn
      obtain ⟨p,l,c,e⟩:∃p l c,ev (denE env) x=.slice (some p) l c:=⟨_,_,_,by rw [← aB_,hx];rfl⟩
      exact nl false (.inl ⟨rfl,rfl⟩) hn h (by rw [e];exact ⟨(λh=>by cases h),λ_ _=>trivial⟩)
    · rename_i hx hn
      obtain ⟨p,l,c,e⟩:∃p l c,ev (denE env) x=.slice (some p) l c:=⟨_,_,_,by rw [← aB_,hx];rfl⟩
      exact nl true (.inr ⟨rfl,rfl⟩) hn h (by rw [e];exact ⟨(λh=>by cases h),λ_ _=>trivial⟩)
    · exact fl h
  · exact fl h
  · rename_i x j ho
    exact fi _ h
  · exact fi _ h
end
end Go.Vc
