/- One part of the proof: PRef10, PRef2, PRef3, PRef4, PRef5, PTell, PRef11, PMerge2, PRef12, FLease1, FLaw5, POrder, PRef13, PStep, PStruct, PStruct2, PErr, PSeq, PWat, PWat2, FLaw6, PWat3, PEv1, PEv2. No condition beyond those that each theorem names. -/
import Derived.Test.YthilcgjhhhmgoaaGreatS5
set_option linter.unusedVariables false
set_option linter.unusedSimpArgs false
set_option linter.unusedSectionVars false
set_option maxHeartbeats 1000000
namespace Go.Proofs.YthilcgjhhhmgoaaGreat.X
open Go.Proofs.Tryz
def f7 (b:dV):List (ByteArray × dS):=b.keys.zip b.vals
def oA (b:dV):Prop:=KS b.keys∧b.keys.length=b.vals.length∧∀e∈b.vals,jW e.sessions
theorem WA {α β:Type}:∀(a:List α) (b:List β) (i:Nat),(a.zip b).take i=(a.take i).zip (b.take i)
 | _,_,0=>by simp
 | [],_,i+1=>by simp
 | x::a,[],i+1=>by simp
 | x::a,y::b,i+1=>by simp[WA a b i]
theorem P5 {α β:Type}:∀(a:List α) (b:List β) (i:Nat),(a.zip b).drop i=(a.drop i).zip (b.drop i)
 | _,_,0=>by simp
 | [],_,i+1=>by simp
 | x::a,[],i+1=>by simp
 | x::a,y::b,i+1=>by simp[P5 a b i]
theorem Uv {α β:Type} {a:List α} {b:List β} (h:a.length=b.length) (i j:Nat) (x:α) (y:β):(a.take i++x::a.drop j).zip (b.take i++y::b.drop j)=(a.zip b).take i++(x,y)::(a.zip b).drop j:=by
 rw[List.zip_append (by rw[aQD,aQD,h]),List.zip_cons_cons,←WA,←P5]
theorem aPQ {α β:Type} {a:List α} {b:List β} (h:a.length=b.length) (i:Nat):(a.eraseIdx i).zip (b.eraseIdx i)=(a.zip b).take i++(a.zip b).drop (i+1):=by
 rw[aSC,aSC,List.zip_append (by rw[aQD,aQD,h]),←WA,←P5]
theorem Iz {b:dV} (h:oA b) (u:ByteArray):(∀x∈(f7 b).take (cH b.keys u).1,iZ x.1 u=true)∧(∀x∈(f7 b).drop (cH b.keys u).1,iZ x.1 u=false):=by
 obtain⟨h1,h2⟩:=Y9 h.1 u;unfold f7;refine⟨fun x hx=>?_,fun x hx=>?_⟩
 ·rw[WA]at hx;obtain⟨i,hi⟩:=aRH (aSS hx).1;rw[aQ9]at hi;split at hi
  ·rename_i aW;exact h1 i _ hi aW
  cases hi
 rw[P5]at hx;obtain⟨i,hi⟩:=aRH (aSS hx).1;rw[aRM]at hi;exact h2 _ _ hi (aSH _ _)
theorem Iw {b:dV} (h:oA b) {u:ByteArray} (hf:(cH b.keys u).2=true):(f7 b).drop (cH b.keys u).1=(u,d9 b u)::(f7 b).drop ((cH b.keys u).1+1)∧(cH b.keys u).1<b.vals.length∧∀x∈(f7 b).drop ((cH b.keys u).1+1),iZ x.1 u=false∧x.1≠u:=by
 obtain⟨h1,h2⟩:=B7 hf
 have hv:(cH b.keys u).1<b.vals.length:=by rw[←h.2.1];exact h1
 have hz:(cH b.keys u).1<(b.keys.zip b.vals).length:=by
  rw[List.length_zip];omega
 refine⟨?_,hv,fun x hx=>?_⟩
 ·show (b.keys.zip b.vals).drop _=_::(b.keys.zip b.vals).drop _;rw[aS1 hz];congr 1;rw[List.getElem_zip]
  have e:b.keys[(cH b.keys u).1]=u:=by
   rw[aQA h1]at h2;exact aQB h2
  rw[e];congr 1;unfold d9 lL;rw[if_pos hf,aQA hv];rfl
 unfold f7 at hx;rw[P5]at hx;obtain⟨i,hi⟩:=aRH (aSS hx).1;rw[aRM]at hi;have hl:=h.1.lt h2 hi aTZ;exact⟨aMJ hl,fun e=>by rw[e,GN]at hl;cases hl⟩
theorem Iy {b:dV} (h:oA b) {u:ByteArray} (hf:(cH b.keys u).2=false):∀x∈f7 b,x.1≠u:=by
 intro x hx e;have hm:=(aSS (show (x.1,x.2)∈b.keys.zip b.vals from hx)).1;rw[e]at hm;rw[(KY h.1 u).2 hm]at hf;cases hf
theorem Fd {b:dV} (h:oA b) (u:ByteArray):(dT (f7 b) u).2=d9 b u:=by
 unfold dT
 cases hf:(cH b.keys u).2 with
 | true=>
  obtain⟨e,_,_⟩:=Iw h hf;have hl:=(Iz h u).1
  have:(f7 b).find? (fun x=>decide (x.1=u))=some (u,d9 b u):=by
   conv=>lhs;rw[←aSA (cH b.keys u).1 (f7 b),e,aTD]
   have hn:((f7 b).take (cH b.keys u).1).find? (fun x=>decide (x.1=u))=none:=aSQ.2 fun x hx e' => by
    have:=hl x hx;rw[bA e', GN]at this;exact Bool.noConfusion this
   rw[hn,Option.none_or];exact aSP (show decide ((u,d9 b u).1=u)=true from aQJ Z)
  rw[this];rfl
 | false=>
  rw[aSQ.2 fun x hx=>by
   have:=Iy h hf x hx
   simpa using this]
  show tA=_;unfold d9 lL;rw[if_neg (by rw[hf];decide)]
theorem RA (x0:ByteArray × dS):∀(A a:List (ByteArray × dS)) (p:Bool),(∀x∈A,iZ x.1 x0.1=true)→A.foldl (j3 x0) (a,p)=(a++A,p)
 | [],a,p,_=>by simp
 | x::A,a,p,h=>by
  have h1:=h x (aRK ..)
  have bR:x.1≠x0.1:=fun e=>by rw[e,GN]at h1;cases h1
  have e:j3 x0 (a,p) x=(a++[x],p):=by
   unfold j3;rw[h1,aQS bR];simp
  rw[aRG,e,RA x0 A _ p fun y hy=>h y (aRQ _ hy)];simp
theorem M6 (x0:ByteArray × dS):∀(A a:List (ByteArray × dS)),(∀x∈A,x.1≠x0.1)→A.foldl (j3 x0) (a,true)=(a++A,true)
 | [],a,_=>by simp
 | x::A,a,h=>by
  have h1:=h x (aRK ..)
  have e:j3 x0 (a,true) x=(a++[x],true):=by
   unfold j3;rw[aQS h1];simp
  rw[aRG,e,M6 x0 A _ fun y hy=>h y (aRQ _ hy)];simp
theorem Pz {b:dV} (h:oA b) (u:ByteArray) (ss:List bT) (now:Int):mS (f7 b) u ss now=(f7 (settle b u ss now).1,(settle b u ss now).2):=by
 unfold mS settle;rw[Fd h,aJM];simp only;obtain⟨hA,hB⟩:=Iz h u;congr 1
 ·cases hf:(cH b.keys u).2 with
  | true=>
   obtain⟨e,hv,hC⟩:=Iw h hf
   have ez:f7 b=(f7 b).take (cH b.keys u).1++(u,d9 b u)::(f7 b).drop ((cH b.keys u).1+1):=by rw[←e,aSA]
   generalize hi:(cH b.keys u).1=i at *;by_cases hs:ss=[]
   ·rw[if_pos hs,aQJ (by rw[hs];rfl)]
    have ef:(f7 b).foldl (j3 (u,⟨ss,dU ss now⟩)) ([],true)=((f7 b).take i++(f7 b).drop (i+1),true):=by
     conv=>lhs;rw[ez]
     rw[aRF,RA (u,⟨ss,dU ss now⟩) _ _ _ hA,aRG]
     have e1:j3 (u,⟨ss,dU ss now⟩) ([]++(f7 b).take i,true) (u,d9 b u)=((f7 b).take i,true):=by
      unfold j3;simp
     rw[e1,M6 _ _ _ fun x hx=>(hC x hx).2]
    rw[ef,if_pos rfl];unfold G9 gZ iN;rw[if_pos hf,if_pos hf,hi];exact (aPQ h.2.1 i).symm
   rw[if_neg hs,aQS (by cases ss with|nil=>exact absurd rfl hs|cons a l=>simp;omega)]
   have ef:(f7 b).foldl (j3 (u,⟨ss,dU ss now⟩)) ([],false)=((f7 b).take i++(u,⟨ss,dU ss now⟩)::(f7 b).drop (i+1),true):=by
    conv=>lhs;rw[ez]
    rw[aRF,RA (u,⟨ss,dU ss now⟩) _ _ _ hA,aRG]
    have e1:j3 (u,⟨ss,dU ss now⟩) ([]++(f7 b).take i,false) (u,d9 b u)=((f7 b).take i++[(u,⟨ss,dU ss now⟩)],true):=by
     unfold j3;simp[GN]
    rw[e1,M6 _ _ _ fun x hx=>(hC x hx).2];simp
   rw[ef,if_pos rfl];unfold FF gG hY f7;rw[if_pos hf,if_pos hf,hi,aTG,if_pos hv]
   have hk:i<b.keys.length:=by rw[h.2.1];exact hv
   have ek:b.keys=b.keys.take i++u::b.keys.drop (i+1):=by
    have h2:=(B7 hf).2;rw[hi,aQA hk]at h2;have:=aS1 hk;rw[aQB h2]at this;rw[←this,aSA]
   conv=>rhs;arg 1;rw[ek]
   exact (Uv h.2.1 i (i+1) u _).symm
  | false=>
   have l9:=Iy h hf;have ez:f7 b=(f7 b).take (cH b.keys u).1++(f7 b).drop (cH b.keys u).1:=(aSA _ _).symm;generalize hi:(cH b.keys u).1=i at *;by_cases hs:ss=[]
   ·rw[if_pos hs,aQJ (by rw[hs];rfl),M6 _ _ _ l9,if_pos rfl];unfold G9 gZ iN;rw[if_neg (by rw[hf];decide),if_neg (by rw[hf];decide)];rfl
   rw[if_neg hs,aQS (by cases ss with|nil=>exact absurd rfl hs|cons a l=>simp;omega)]
   have ew:FF b u ⟨ss,dU ss now⟩=⟨b.keys.take i++u::b.keys.drop i,b.vals.take i++⟨ss,dU ss now⟩::b.vals.drop i⟩:=by
    unfold FF gG hY;rw[if_neg (by rw[hf];decide),if_neg (by rw[hf];decide),hi]
   rw[ew];show _=(b.keys.take i++u::b.keys.drop i).zip (b.vals.take i++_::b.vals.drop i);rw[Uv h.2.1 i i u]
   have ef:(f7 b).foldl (j3 (u,⟨ss,dU ss now⟩)) ([],false)=((f7 b).drop i).foldl (j3 (u,⟨ss,dU ss now⟩)) ((f7 b).take i,false):=by
    conv=>lhs;rw[ez]
    rw[aRF,RA (u,⟨ss,dU ss now⟩) _ _ _ hA,aRB]
   rw[ef];have Cj:∀x∈(f7 b).drop i,x.1≠u:=fun x hx=>l9 x (aSR hx);show _=(f7 b).take i++_::(f7 b).drop i
   cases hd:(f7 b).drop i with
   | nil=>rfl
   | cons x B=>
    rw[hd]at hB Cj
    have e1:j3 (u,⟨ss,dU ss now⟩) ((f7 b).take i,false) x=((f7 b).take i++[(u,⟨ss,dU ss now⟩)]++[x],true):=by
     unfold j3;rw[hB x (aRK ..),aQS (Cj x (aRK ..))];simp
    rw[aRG,e1,M6 _ _ _ fun y hy=>Cj y (aRQ _ hy),if_pos rfl];simp
 by_cases he:dU ss now=(d9 b u).told
 ·rw[if_pos he,aQJ he];rfl
 rw[if_neg he,aQS he];rfl
theorem aH4 {β:Type} {ks:List ByteArray} {vs:List β} {u:ByteArray} {v x:β} (h:x∈hY ks vs u v):x=v∨x∈vs:=by
 unfold hY at h;split at h
 ·exact LV h
 rcases aQX.1 h with h|h
 ·exact .inr (List.mem_of_mem_take h)
 rcases aRO.1 h with h|h
 ·exact .inl h
 exact .inr (aSR h)
theorem oA.settle {b:dV} (h:oA b) (u:ByteArray) {ss:List bT} (hs:jW ss) (now:Int):oA (settle b u ss now).1:=by
 refine⟨Gh h.1 u ss now,?_,fun e he=>?_⟩
 ·unfold X.settle;simp only;split
  ·exact Pc h.2.1
  exact Ho h.2.1
 unfold X.settle at he;simp only at he;split at he
 ·have he:e∈iN b.keys b.vals u:=he;unfold iN at he;split at he
  ·exact h.2.2 e (aTW he)
  exact h.2.2 e he
 rcases aH4 he with rfl|he
 ·exact hs
 exact h.2.2 e he
theorem oA.get {b:dV} (h:oA b) (u:ByteArray):jW (d9 b u).sessions:=by
 unfold d9 lL;split
 ·cases e:b.vals[(cH b.keys u).1]? with
  | none=>exact aQ4
  | some x=>exact h.2.2 x (aQL e)
 exact aQ4
theorem W4:oA uE:=⟨aQ4,rfl,fun e he=>by cases he⟩
theorem Ra {b:dV} (h:oA b) (x:dE) (now most:Int):nD (f7 b) x now most=(f7 (f6 b x now most).1,(f6 b x now most).2.1,(f6 b x now most).2.2)∧oA (f6 b x now most).1:=by
 have hg:=h.get x.user;unfold nD f6;rw[aJ7 now most (by rw[Fd h];exact hg),Fd h,Pz h];exact⟨Z,h.settle _ ((hg.filter _).op _ _ _) _⟩
theorem Qr (now:Int):∀(M:List (ByteArray × dS)) (b:dV) (cs:List gB),oA b→(∀x∈M,jW x.2.sessions)→M.foldl (wS now) (f7 b,cs)=(f7 (M.foldl (zP now) (b,cs)).1,(M.foldl (zP now) (b,cs)).2)∧oA (M.foldl (zP now) (b,cs)).1
 | [],b,cs,h,_=>⟨rfl,h⟩
 | x::M,b,cs,h,hM=>by
  have hx:=hM x (aRK ..)
  have e:wS now (f7 b,cs) x=(f7 (zP now (b,cs) x).1,(zP now (b,cs) x).2):=by
   unfold wS zP;rw[Pz h]
  rw[aRG,aRG,e];exact Qr now M _ _ (h.settle _ (hx.filter _) _) fun y hy=>hM y (aRQ _ hy)
theorem Qs {b:dV} (h:oA b) (now:Int):pI (f7 b) now=(f7 (f5 b now).1,(f5 b now).2)∧oA (f5 b now).1:=
 Qr now (f7 b) b [] h fun x hx=>h.2.2 _ (aSS (show (x.1,x.2)∈b.keys.zip b.vals from hx)).2
theorem aEC (h c:Int):IntKind.u64.wrap (IntKind.u64.wrap (J8 .u64 h (IntKind.u64.wrap c)*2^min (40:Int).toNat IntKind.u64.bits)+IntKind.u64.wrap (J8 .u64 h (IntKind.u64.wrap c)*435))=EC h c:=by
 unfold EC;generalize J8 .u64 h (IntKind.u64.wrap c)=x;have e:∀y:Int,IntKind.u64.wrap y=y%18446744073709551616:=fun y=>rfl;rw[e,e,e,e,show (2:Int)^min (40:Int).toNat IntKind.u64.bits=1099511627776 from rfl];omega
def pL {α:Type} (f:Nat→α) (k:Nat) (x:α):Nat→α:=fun i=>if i=k then x else f i
structure bW where
 room:Int
 pairs:List (Int × ByteArray)
 q:Nat→List cI
 lost:Nat→Bool
def C4 (who:Int) (u:ByteArray) (p:Int × ByteArray):Bool:=decide (p.1=who)&&decide (p.2=u)
def iJ (l:List (Int × ByteArray)) (who:Int) (u:ByteArray):Bool:=l.any (C4 who u)
theorem aJ5 {l:List (Int × ByteArray)} {k:Nat} {who:Int} {u:ByteArray} (h:k<l.length):iJ (l.take (k+1)) who u=(iJ (l.take k) who u||C4 who u l[k]):=by
 unfold iJ;rw[aQY h,List.any_append];simp
theorem aJ4 {l:List (Int × ByteArray)} {k:Nat} {who:Int} {u:ByteArray} (h:k<l.length) (e:C4 who u l[k]=true):iJ l who u=true:=aRX.2 ⟨_,aQN h,e⟩
def LZ (who:Int) (p:Int × ByteArray):Bool:=decide (p.1=who)
def j4 (l:List (Int × ByteArray)) (who:Int):Int:=((l.filter (LZ who)).length:Int)
theorem aI5 {l:List (Int × ByteArray)} {k:Nat} {who:Int} (h:k<l.length):j4 (l.take (k+1)) who=j4 (l.take k) who+if LZ who l[k]=true then 1 else 0:=by
 unfold j4;rw[JK h,aQE];split<;>simp
theorem Fc (l:List (Int × ByteArray)) (who:Int):0≤j4 l who∧j4 l who≤(l.length:Int):=by
 unfold j4;have:=aRA (LZ who) l;omega
def oT (f:bW) (who:Int) (u:ByteArray):bW:=if (decide (0≤who)&&(decide (who<8)&&!iJ f.pairs who u))=true then { f with pairs:=f.pairs++[(who,u)] } else f
def vL (who:Int) (u:ByteArray) (p:Int × ByteArray):Bool:=!decide (p.1=who)||!decide (p.2=u)
def zD (f:bW) (who:Int) (u:ByteArray):bW:={ f with pairs:=f.pairs.filter (vL who u) }
def C5 (c:gB) (seq:Int) (f:bW) (w:Nat):bW:=
 if iJ f.pairs (w:Int) c.user=true then (if f.room≤((f.q w).length:Int) then { f with lost:=pL f.lost w true } else { f with q:=pL f.q w (f.q w++[kJ c seq]) }) else f
def uK (c:gB) (seq:Int) (f:bW) (w:Nat):bW:=((List.range 8).take w).foldl (C5 c seq) f
theorem PN (c:gB) (seq:Int) (f:bW) {w:Nat} (h:w<8):uK c seq f (w+1)=C5 c seq (uK c seq f w) w:=by
 unfold uK;rw[aQY aU7,aRF,List.getElem_range];rfl
def C6 (seq:Int) (f:bW) (c:gB):bW:=uK c seq f 8
def rY (f:bW) (l:List gB) (seq:Int):bW:=l.foldl (C6 seq) f
theorem aJX (c:gB) (seq:Int) (f:bW) (w:Nat):(C5 c seq f w).pairs=f.pairs∧(C5 c seq f w).room=f.room∧∀v,((C5 c seq f w).q v).length≤(f.q v).length+if v=w then 1 else 0:=by
 unfold C5;split
 ·split
  ·exact⟨Z,Z,fun v=>aSH _ _⟩
  refine⟨Z,Z,fun v=>?_⟩;show (pL f.q w (f.q w++[kJ c seq]) v).length≤_;unfold pL;split
  ·rename_i e;subst e;simp
  exact aSH _ _
 exact⟨Z,Z,fun v=>aSH _ _⟩
theorem L9 (c:gB) (seq:Int) (f:bW):∀w,w≤8→(uK c seq f w).pairs=f.pairs∧(uK c seq f w).room=f.room∧∀v,((uK c seq f w).q v).length≤(f.q v).length+if v<w then 1 else 0
 | 0,_=>⟨rfl,rfl,fun v=>aSH _ _⟩
 | w+1,h=>by
  obtain⟨a1,a2,a3⟩:=L9 c seq f w aTZ;obtain⟨b1,b2,b3⟩:=aJX c seq (uK c seq f w) w;rw[PN c seq f aTZ];refine⟨b1.trans a1,b2.trans a2,fun v=>?_⟩;have h1:=a3 v;have h2:=b3 v;by_cases e:v<w
  ·rw[if_pos e]at h1;rw[if_neg aTZ]at h2;rw[if_pos aTZ];omega
  ·rw[if_neg e]at h1;split at h2
   ·rw[if_pos aTZ];omega
   ·rw[if_neg aTZ];omega
def BG (f:bW) (w:Nat):bW:={ f with q:=pL f.q w [],lost:=pL f.lost w false }
def CA (R:List (List cI)) (i:Nat):Int:=match R[i]? with
 | some (e::_)=>e.seq
 | _=>0
def PJ (R:List (List cI)) (i:Nat):Int:=match R[i]? with
 | some l=>(l.length:Int)
 | none=>0
def C7 (R:List (List cI)) (b:Option Nat) (i:Nat):Bool:=decide (0<PJ R i)&&(match b with
 | none=>true
 | some j=>decide (CA R i≤CA R j))
def JE (R:List (List cI)) (b:Option Nat) (i:Nat):Option Nat:=if C7 R b i=true then some i else b
def n8 (R:List (List cI)):Nat→Option Nat
 | 0=>none
 | m+1=>JE R (n8 R m) (R.length-1-m)
def JD (a:List (List cI) × List cI):List (List cI) × List cI:=match n8 a.1 a.1.length with
 | some j=>match a.1[j]? with
  | some (e::l)=>(a.1.set j l,a.2++[e])
  | _=>a
 | none=>a
def jS (L:List (List cI)):Nat→List (List cI) × List cI
 | 0=>(L,[])
 | n+1=>JD (jS L n)
def mR (R:List (List cI)):Nat:=(R.map List.length).sum
def pY (L:List (List cI)):List cI:=(jS L (mR L)).2
theorem VJ {R:List (List cI)}:∀{m j:Nat},m≤R.length→n8 R m=some j→∃e l,R[j]?=some (e::l)
 | 0,j,_,h=>by cases h
 | m+1,j,hm,h=>by
  unfold n8 JE at h;split at h
  ·rename_i ht;obtain rfl:=aQB h;unfold C7 PJ at ht;simp only[aQV,decide_eq_true_eq]at ht;have h0:=ht.1;rw[aQA (show R.length-1-m<R.length by omega)]at h0 ⊢
   cases e:R[R.length-1-m]'aTZ with
   | nil=>rw[e]at h0;simp at h0
   | cons a l=>exact⟨a,l,rfl⟩
  ·exact VJ aTZ h
theorem Ex:∀{R:List (List cI)} {j:Nat} {e:cI} {l:List cI},R[j]?=some (e::l)→mR (R.set j l)+1=mR R
 | [],j,e,l,h=>by simp at h
 | a::R,0,e,l,h=>by
  obtain rfl:a=e::l:=by simpa using h
  simp[mR];omega
 | a::R,j+1,e,l,h=>by
  have:=Ex (R:=R) (j:=j) aU7;simp[mR]at this ⊢;omega
theorem Ro (L:List (List cI)):∀n,(jS L n).1.length=L.length
 | 0=>rfl
 | n+1=>by
  have ih:=Ro L n;unfold jS JD;split
  ·split
   ·rw[aQZ];exact ih
   ·exact ih
  ·exact ih
theorem Rr {L:List (List cI)} {n:Nat} (h:n8 (jS L n).1 (jS L n).1.length=none):∀k,jS L (n+k)=jS L n
 | 0=>rfl
 | k+1=>by
  show JD (jS L (n+k))=_;rw[Rr h k];unfold JD;rw[h]
theorem Rp {L:List (List cI)} {n j:Nat} {e:cI} {l:List cI} (h:n8 (jS L n).1 (jS L n).1.length=some j) (he:(jS L n).1[j]?=some (e::l)):jS L (n+1)=((jS L n).1.set j l,(jS L n).2++[e]):=by
 show JD (jS L n)=_;unfold JD;rw[h];simp only;rw[he]
theorem Ql {L:List (List cI)} {n:Nat} (hn:mR (jS L n).1+n=mR L) (h:n8 (jS L n).1 (jS L n).1.length=none):pY L=(jS L n).2:=by
 unfold pY;rw[show mR L=n+mR (jS L n).1 by omega,Rr h]
structure cX where
 c:cY
 time:mZ
 books:List (List (ByteArray × dS))
 feeds:List bW
def n7 (x:mZ):mZ:=⟨x.now,d8 x.seq 1,x.closed⟩
def nY (room:Int):bW:=⟨room,[],fun _=>[],fun _=>false⟩
def PL (c:cY):cX:=⟨c,⟨c.start,0,false⟩,List.replicate c.stripes.toNat [],List.replicate c.stripes.toNat (nY c.queue)⟩
def VE (tb:cX) (by_:Int):cX:={ tb with time:=⟨d8 tb.time.now by_,tb.time.seq,tb.time.closed⟩ }
def qV (tb:cX) (s:Int):cX:=
 if s<0∨(tb.books.length:Int)≤s then tb
 else { tb with time:=n7 tb.time,books:=tb.books.set s.toNat (pI (tb.books.getD s.toNat []) tb.time.now).1,feeds:=tb.feeds.modify s.toNat fun f=>rY f (pI (tb.books.getD s.toNat []) tb.time.now).2 (d8 tb.time.seq 1) }
def pG (e:Int):sA:=⟨e,[],[],false⟩
def oP (tb:cX) (u:ByteArray):Nat:=(eZ u tb.c.stripes).toNat
def pJ (l:List bW) (who:Nat):Int:=l.foldl (fun n f=>n+j4 f.pairs (who:Int)) 0
def LX:bW:=nY 0
def EU (tb:cX) (x:dE):cX × sA:=
 let w:=nD (tb.books.getD (oP tb x.user) []) x tb.time.now tb.c.sessions
 ({ tb with time:=n7 tb.time,books:=tb.books.set (oP tb x.user) w.1,feeds:=tb.feeds.modify (oP tb x.user) fun f=>rY f w.2.1 (d8 tb.time.seq 1) },pG w.2.2)
def f9 (tb:cX) (u:ByteArray):q7:=pH (tb.books.getD (oP tb u) []) u tb.time.now
def zE (tb:cX) (who:Nat) (u:ByteArray):cX × sA:=
 if iJ (tb.feeds.getD (oP tb u) LX).pairs (who:Int) u=false∧tb.c.watches≤pJ tb.feeds who then (tb,pG 4)
 else ({ tb with feeds:=tb.feeds.modify (oP tb u) fun f=>oT f (who:Int) u },pG 0)
def fW (tb:cX) (who:Nat) (x:dE):cX × sA:=
 if dH x=true then (tb,pG 1)
 else if x.kind=8 then ({ tb with feeds:=tb.feeds.map fun f=>BG f who },⟨0,[],pY (tb.feeds.map fun f=>f.q who),tb.feeds.any fun f=>f.lost who⟩)
 else if x.kind<4 then (if tb.time.closed=true then ({ tb with time:=n7 tb.time },pG 5) else EU tb x)
 else if tb.time.closed=true then (tb,pG 5)
 else if x.kind=4 then (tb,⟨0,[f9 tb x.user],[],false⟩)
 else if x.kind=5 then (tb,⟨0,x.users.map (f9 tb),[],false⟩)
 else if x.kind=6 then zE tb who x.user
 else if x.kind=7 then ({ tb with feeds:=tb.feeds.modify (oP tb x.user) fun f=>zD f (who:Int) x.user },pG 0)
 else if x.kind=9 then ({ tb with time:=⟨tb.time.now,tb.time.seq,true⟩ },pG 0)
 else (tb,pG 0)
def kQ (tb:cX) (x:bL):cX:=if x.who=9 then VE tb x.by_ else if x.who=8 then qV tb x.stripe else (fW tb x.who.toNat x.op).1
def rX (c:cY) (l:List bL) (o:List Nat) (k:Nat):cX:=(o.take k).foldl (fun tb i=>match l[i]? with
 | some x=>kQ tb x
 | none=>tb) { PL { c with queue:=1 } with feeds:=List.replicate c.stripes.toNat (nY 901) }
theorem Hg (f:eN) (c:gB) (seq:Int) (q:Nat→iD) (w:Nat):∀k,k≤8→r7 f c seq q k w=if w<k∧kK f (w:Int) c.user=true then pK (q w) (kJ c seq) else q w
 | 0,_=>by
  rw[if_neg aTZ];rfl
 | k+1,hk=>by
  rw[Hh f c seq q aTZ];unfold JL;have ih:=Hg f c seq q w k aTZ;split
  ·rename_i hf;unfold tE;split
   ·rename_i e;subst e;rw[if_neg aTZ]at ih;rw[if_pos ⟨by omega,hf⟩,ih]
   ·rename_i e;rw[ih];by_cases h:w<k∧kK f (w:Int) c.user=true
    ·rw[if_pos h,if_pos ⟨by omega,h.2⟩]
    ·rw[if_neg h,if_neg (fun h' => h ⟨by omega,h'.2⟩)]
  ·rename_i hf;rw[ih];by_cases h:w<k∧kK f (w:Int) c.user=true
   ·rw[if_pos h,if_pos ⟨by omega,h.2⟩]
   ·rw[if_neg h,if_neg (fun h' => by
     by_cases e:w=k
     ·subst e;exact hf h'.2
     ·exact h ⟨by omega,h'.2⟩)]
theorem aLB {r:iD} {x e:cI} (h:e∈(pK r x).l):e∈r.l∨e=x:=by
 unfold pK at h;split at h
 ·exact .inl h
 rcases aQX.1 h with h|h
 ·exact .inl h
 exact .inr (aQR.1 h)
def mG (u v:cI):Prop:=u.seq<v.seq∨(u.seq=v.seq∧u.user≠v.user)
theorem aLD {r:iD} {x:cI} (h:r.l.Pairwise mG) (hx:∀e∈r.l,mG e x):(pK r x).l.Pairwise mG:=by
 unfold pK;split
 ·exact h
 exact aRR.2 ⟨h,aS6 _ _,fun a ha b hb=>by rw[aQR.1 hb];exact hx a ha⟩
structure TQ (f:eN) (N:Int) (q:Nat→iD) (done:List gB):Prop where
 pw:∀w,w<8→(q w).l.Pairwise mG
 mem:∀w,w<8→∀e∈(q w).l,e∈(f.q w).l∨∃c∈done,e=kJ c N∧kK f (w:Int) c.user=true
theorem TQ.one {f:eN} {N:Int} {q:Nat→iD} {done:List gB} {c:gB} (t:TQ f N q done) (aW:∀w,w<8→∀e∈(f.q w).l,e.seq<N) (hn:∀d∈done,d.user≠c.user):TQ f N (vS f N q c) (done++[c]):=by
 have kU:∀w,w<8→vS f N q c w=if kK f (w:Int) c.user=true then pK (q w) (kJ c N) else q w:=fun w hw=>by
  unfold vS;rw[Hg f c N q w 8 (aP9 _)];by_cases h:kK f (w:Int) c.user=true
  ·rw[if_pos ⟨hw,h⟩,if_pos h]
  rw[if_neg (fun h' => h h'.2),if_neg h]
 have old:∀w,w<8→∀e∈(q w).l,e∈(f.q w).l∨∃d∈done++[c],e=kJ d N∧kK f (w:Int) d.user=true:=fun w hw e he=>by
  rcases t.mem w hw e he with h|⟨d,hd,h⟩
  ·exact .inl h
  exact .inr ⟨d,aTE _ hd,h⟩
 refine⟨fun w hw=>?_,fun w hw e he=>?_⟩
 ·rw[kU w hw];split
  ·refine aLD (t.pw w hw) fun e he=>?_;rcases t.mem w hw e he with h|⟨d,hd,rfl,_⟩
   ·exact .inl (aW w hw e h)
   exact .inr ⟨Z,hn d hd⟩
  exact t.pw w hw
 rw[kU w hw]at he;split at he
 ·rename_i hf;rcases aLB he with he|rfl
  ·exact old w hw e he
  exact .inr ⟨c,aTR _ (aQR.2 Z),Z,hf⟩
 exact old w hw e he
theorem TQ.all {f:eN} {N:Int} (aW:∀w,w<8→∀e∈(f.q w).l,e.seq<N):∀(l done:List gB) (q:Nat→iD),(done++l).Pairwise (fun a b=>a.user≠b.user)→TQ f N q done→TQ f N (l.foldl (vS f N) q) (done++l)
 | [],done,q,_,t=>by
  rw[aR3];exact t
 | c::l,done,q,hp,t=>by
  have e:done++c::l=(done++[c])++l:=by simp
  rw[e]at hp ⊢;refine TQ.all aW l (done++[c]) _ hp (t.one aW fun d hd=>?_);have:=(aRR.1 (aRR.1 hp).1).2.2 d hd c (aQR.2 Z);exact this
theorem aOT {f:eN} {N:Int} (aW:∀w,w<8→∀e∈(f.q w).l,e.seq<N) (O0:∀w,w<8→(f.q w).l.Pairwise mG) {l:List gB} (hp:l.Pairwise (fun a b=>a.user≠b.user)):TQ f N (l2 f l N).q l:=by
 have:=TQ.all aW l [] f.q (by simpa using hp) ⟨O0,fun w hw e he=>.inl he⟩;simpa[l2]using this
def MQ (c:gB):Prop:=c.old≠c.new
theorem Gj (b:dV) (u:ByteArray) (l:List bT) (now:Int):∀c∈(settle b u l now).2,c.user=u∧MQ c:=fun c hc=>by
 unfold settle at hc;simp only at hc;split at hc
 ·cases hc
 ·rename_i bR;rw[aQR.1 hc];exact⟨Z,fun e=>bR e.symm⟩
theorem Sr (b:dV) (u:ByteArray) (l:List bT) (now:Int):(settle b u l now).2.Pairwise (fun a b=>a.user≠b.user):=by
 unfold settle;simp only;split
 ·exact aQ4
 exact aS6 _ _
theorem St {b:dV} {u:ByteArray} {l:List bT} {now:Int} {x:ByteArray} (h:x∈(settle b u l now).1.keys):x∈b.keys∨x=u:=by
 unfold settle at h;simp only at h;split at h
 ·exact .inl (aH0 h)
 exact aH3 h
theorem Wu (b:dV) (x:dE) (now most:Int):(∀c∈(f6 b x now most).2.1,c.user=x.user∧MQ c)∧(f6 b x now most).2.1.Pairwise (fun a b=>a.user≠b.user)∧∀u∈(f6 b x now most).1.keys,u∈b.keys∨u=x.user:=
 ⟨Gj _ _ _ _,Sr _ _ _ _,fun u hu=>St hu⟩
theorem Tg {b:dV} (h:KS b.keys) (hl:b.keys.length=b.vals.length) (now:Int):∀i,i≤b.keys.length→(∀c∈(oU b now i).2,MQ c∧c.user∈b.keys.take i)∧(oU b now i).2.Pairwise (fun a b=>a.user≠b.user)∧∀u∈(oU b now i).1.keys,u∈b.keys
 | 0,_=>⟨fun c hc=>(by cases hc),aQ4,fun u hu=>hu⟩
 | i+1,hi=>by
  obtain⟨a1,a2,a3⟩:=Tg h hl now i aTZ;rw[Gw aTZ aTZ];have lH:b.keys[i]∈b.keys:=aQN _;have pD:b.keys.take (i+1)=b.keys.take i++[b.keys[i]]:=aQY aTZ;unfold zP;refine⟨fun c hc=>?_,?_,fun u hu=>?_⟩
  ·rcases aQX.1 hc with hc|hc
   ·obtain⟨c1,c2⟩:=a1 c hc;exact⟨c1,by rw[pD];exact aTE _ c2⟩
   ·obtain⟨c1,c2⟩:=Gj _ _ _ _ c hc;exact⟨c2,by rw[pD,c1];exact aTR _ (aQR.2 Z)⟩
  ·refine aRR.2 ⟨a2,Sr _ _ _ _,fun c hc d hd=>?_⟩;obtain⟨_,c2⟩:=a1 c hc;obtain⟨d1,_⟩:=Gj _ _ _ _ d hd;rw[d1];intro e;rw[e]at c2;obtain⟨j,hj⟩:=uD c2;rw[aQ9]at hj;split at hj
   ·rename_i xM;have:=h.inj hj (aQA (show i<b.keys.length by omega));omega
   ·cases hj
  ·rcases St hu with hu|rfl
   ·exact a3 u hu
   ·exact lH
theorem Wr {b:dV} (h:KS b.keys) (hl:b.keys.length=b.vals.length) (now:Int):(∀c∈(f5 b now).2,MQ c∧c.user∈b.keys)∧(f5 b now).2.Pairwise (fun a b=>a.user≠b.user)∧∀u∈(f5 b now).1.keys,u∈b.keys:=by
 obtain⟨a1,a2,a3⟩:=Tg h hl now b.keys.length (aP9 _);rw[PY now (aP9 _)]at a1 a2 a3;rw[aQU]at a1;exact⟨a1,a2,a3⟩
def zZ (m:Int):Prop:=0≤m∧m<4294967296
theorem aG5 {m:Int} {w:Nat} (h:zZ m) (hw:w<8):Dw m (w:Int)=m.toNat.testBit w:=by
 obtain⟨n,rfl⟩:=aRS h.1
 have hn:n<4294967296:=by have:=h.2;omega
 unfold Dw Og M4
 have e1:min (w:Int).toNat IntKind.u32.bits=w:=by
  show min w 32=w;omega
 rw[e1,aQP]
 have e2:((n:Int).fdiv (2^w))=((n / 2^w:Nat):Int):=by
  have e3:((2:Int)^w)=((2^w:Nat):Int):=by simp
  rw[Int.fdiv_eq_ediv_of_nonneg _ (by rw[e3];exact aRD _),e3];rfl
 rw[e2]
 have e4:(BitVec.ofInt IntKind.u32.bits ((n / 2^w:Nat):Int) &&& BitVec.ofInt IntKind.u32.bits 1).toNat=(n / 2^w)%2:=by
  show (BitVec.ofInt 32 ((n / 2^w:Nat):Int) &&& 1#32).toNat=_;rw[BitVec.toNat_and,BitVec.ofInt_natCast,BitVec.toNat_ofNat];show (n / 2^w%4294967296) &&& 1=_;have:n / 2^w<4294967296:=aR1 (Nat.div_le_self _ _) hn;rw[Nat.mod_eq_of_lt this,Nat.and_one_is_mod]
 rw[e4,Nat.testBit_eq_decide_div_mod_eq];have h2:n / 2^w%2<2:=Nat.mod_lt _ aT0
 have e5:IntKind.u32.wrap ((n / 2^w%2:Nat):Int)=((n / 2^w%2:Nat):Int):=by
  generalize n / 2^w%2=z at h2;rcases z with _|_|z
  ·rfl
  ·rfl
  omega
 rw[e5];rw[decide_eq_decide];omega
theorem Up (x:BitVec 32):IntKind.u32.wrap (x.toNat:Int)=(x.toNat:Int):=by
 have:=x.isLt;show ((x.toNat:Int)%4294967296)=_;omega
theorem Nv (x:BitVec 32):zZ (x.toNat:Int):=by
 have:=x.isLt;unfold zZ;omega
theorem Nw {w:Nat} (hw:w<8):UW (w:Int)=((2^w:Nat):Int):=by
 unfold UW
 have e1:min (w:Int).toNat IntKind.u32.bits=w:=by
  show min w 32=w;omega
 rw[e1]
 match w,hw with
 | 0,_=>rfl
 | 1,_=>rfl
 | 2,_=>rfl
 | 3,_=>rfl
 | 4,_=>rfl
 | 5,_=>rfl
 | 6,_=>rfl
 | 7,_=>rfl
 | w+8,h=>exact absurd h aTZ
theorem Pn {w v:Nat} (hw:w<8):(BitVec.ofInt 32 ((2^w:Nat):Int)).getLsbD v=decide (w=v):=by
 rw[BitVec.ofInt_natCast,BitVec.getLsbD_ofNat,Nat.testBit_two_pow];by_cases e:w=v
 ·subst e;simp;omega
 simp[e]
theorem aG8 {m:Int} {w:Nat} (h:zZ m) (hw:w<8):zZ (C1 m (w:Int))∧∀v,v<8→(C1 m (w:Int)).toNat.testBit v=(m.toNat.testBit v||decide (w=v)):=by
 obtain⟨n,rfl⟩:=aRS h.1
 have hn:n<4294967296:=by have:=h.2;omega
 have e:C1 (n:Int) (w:Int)=((BitVec.ofInt 32 (n:Int) ||| BitVec.ofInt 32 ((2^w:Nat):Int)).toNat:Int):=by
  unfold C1 Q1;rw[Nw hw];exact Up _
 rw[e];refine⟨Nv _,fun v hv=>?_⟩;rw[aQP,aQP];show (BitVec.ofInt 32 (n:Int) ||| BitVec.ofInt 32 ((2^w:Nat):Int)).getLsbD v=_;rw[BitVec.getLsbD_or,Pn hw,BitVec.ofInt_natCast,BitVec.getLsbD_ofNat];have:decide (v<32)=true:=aQJ aTZ;rw[this,aR4]
theorem Nx {m:Int} {w:Nat} (h:zZ m) (hw:w<8):zZ (vJ m (w:Int))∧∀v,v<8→(vJ m (w:Int)).toNat.testBit v=(m.toNat.testBit v&&!decide (w=v)):=by
 obtain⟨n,rfl⟩:=aRS h.1
 have hn:n<4294967296:=by have:=h.2;omega
 have e:vJ (n:Int) (w:Int)=((BitVec.ofInt 32 (n:Int) &&& ~~~(BitVec.ofInt 32 ((2^w:Nat):Int))).toNat:Int):=by
  unfold vJ BS;rw[Nw hw];exact Up _
 rw[e];refine⟨Nv _,fun v hv=>?_⟩;rw[aQP,aQP];show (BitVec.ofInt 32 (n:Int) &&& ~~~(BitVec.ofInt 32 ((2^w:Nat):Int))).getLsbD v=_;rw[BitVec.getLsbD_and,BitVec.getLsbD_not,Pn hw,BitVec.ofInt_natCast,BitVec.getLsbD_ofNat];have:decide (v<32)=true:=aQJ aTZ;rw[this,aR4,aR4]
structure kI (f:eN):Prop where
 ks:KS f.ks
 len:f.ks.length=f.vs.length
 m:∀u,zZ (jJ f u)
theorem R7 {f:eN} (g:kI f) (u:ByteArray) (m:Int) (q:Nat→iD) (u' : ByteArray):jJ ⟨gG f.ks u,hY f.ks f.vs u m,q⟩ u' = if u' = u then m else jJ f u' := by
 unfold jJ;dsimp only;rw[aHY g.ks g.len];split<;>rfl
theorem La {f:eN} (g:kI f) (u:ByteArray) (q:Nat→iD) (u' : ByteArray):jJ ⟨gZ f.ks u,iN f.ks f.vs u,q⟩ u' = if u' = u then 0 else jJ f u' := by
 unfold jJ;dsimp only;rw[aHX g.ks g.len];split<;>rfl
theorem O8:zZ 0:=by unfold zZ;omega
theorem kI.q {f:eN} (g:kI f) (q:Nat→iD):kI { f with q:=q }:=⟨g.ks,g.len,g.m⟩
theorem KK {f:eN} (g:kI f) {w:Nat} (hw:w<8) (u:ByteArray):kK f (w:Int) u=(jJ f u).toNat.testBit w:=by
 unfold kK wQ;rw[aQJ aTZ,aR4,aG5 (g.m u) hw]
theorem Ns {w:Nat} (hw:w<8):wQ (w:Int)=true:=aQJ aTZ
theorem Lc {f:eN} (g:kI f) {w:Nat} (hw:w<8) (u:ByteArray):kI (oD f (w:Int) u)∧∀v:Nat,v<8→∀u', kK (oD f (w:Int) u) (v:Int) u' = (kK f (v:Int) u' || (decide (w=v)&&decide (u' = u))):=by
 have e:oD f (w:Int) u={ f with ks:=gG f.ks u,vs:=hY f.ks f.vs u (C1 (jJ f u) (w:Int)) }:=by
  unfold oD;rw[if_neg (by rw[Ns hw];decide)]
 obtain⟨b1,b2⟩:=aG8 (g.m u) hw
 have gi:kI (oD f (w:Int) u):=by
  rw[e];refine⟨U3 g.ks u,Ho g.len,fun u' => ?_⟩;rw[R7 g];split
  ·exact b1
  exact g.m u'
 refine⟨gi,fun v hv u' => ?_⟩;rw[KK gi hv,KK g hv,e,R7 g];by_cases hu:u' = u
 ·subst hu;rw[if_pos rfl,b2 v hv,aQJ (rfl:u' = u'),aSL]
 rw[if_neg hu,aQS hu,aSY,aSZ]
theorem Lb {f:eN} (g:kI f) {w:Nat} (hw:w<8) (u:ByteArray):kI (m6 f (w:Int) u)∧∀v:Nat,v<8→∀u', kK (m6 f (w:Int) u) (v:Int) u' = (kK f (v:Int) u' && !(decide (w=v)&&decide (u' = u))):=by
 obtain⟨b1,b2⟩:=Nx (g.m u) hw
 have key:∀f' : eN,kI f' → (∀u', jJ f' u' = if u' = u then vJ (jJ f u) (w:Int) else jJ f u')→∀v:Nat,v<8→∀u', kK f' (v:Int) u' = (kK f (v:Int) u' && !(decide (w=v)&&decide (u' = u))):=fun f' gi hm v hv u' => by
  rw[KK gi hv,KK g hv,hm];by_cases hu:u' = u
  ·subst hu;rw[if_pos rfl,b2 v hv,aQJ (rfl:u' = u'),aSL]
  rw[if_neg hu,aQS hu,aSY,Bool.not_false,aSL]
 unfold m6;split
 ·rename_i h0;rcases h0 with h0|h0
  ·rw[Ns hw]at h0;cases h0
  have ez:vJ 0 (w:Int)=0:=by
   have:=Nx O8 hw
   match w,hw with
   | 0,_=>rfl
   | 1,_=>rfl
   | 2,_=>rfl
   | 3,_=>rfl
   | 4,_=>rfl
   | 5,_=>rfl
   | 6,_=>rfl
   | 7,_=>rfl
   | w+8,h=>exact absurd h aTZ
  refine⟨g,key f g fun u' => ?_⟩;split
  ·rename_i e;rw[e,h0,ez]
  rfl
 split
 ·rename_i hz
  have gi:kI { f with ks:=gZ f.ks u,vs:=iN f.ks f.vs u }:=⟨Eg g.ks u,Pc g.len,fun u' => by
   rw[La g];split
   ·exact O8
   exact g.m u'⟩
  refine⟨gi,key _ gi fun u' => ?_⟩;rw[La g,hz]
 have gi:kI { f with ks:=gG f.ks u,vs:=hY f.ks f.vs u (vJ (jJ f u) (w:Int)) }:=⟨U3 g.ks u,Ho g.len,fun u' => by
  rw[R7 g];split
  ·exact b1
  exact g.m u'⟩
 refine⟨gi,key _ gi fun u' => ?_⟩;rw[R7 g]
theorem kI.tell {f:eN} (g:kI f) (l:List gB) (seq:Int):kI (l2 f l seq):=g.q _
theorem kI.drain {f:eN} (g:kI f) (w:Nat):kI (xA f w):=g.q _
structure QN (f:eN) (F:bW):Prop where
 room:F.room=901
 wt:∀w:Nat,w<8→∀u,iJ F.pairs (w:Int) u=kK f (w:Int) u
 nd:F.pairs.Pairwise fun a b=>a≠b
def MX (q:Nat→iD) (F:bW):Prop:=∀w,w<8→(q w).lost=false→F.q w=(q w).l
structure r9 (f:eN) (F:bW):Prop where
 p:QN f F
 q:MX f.q F
theorem Fi (c:gB) (seq:Int) (F:bW) (v:Nat):∀k,k≤8→(uK c seq F k).q v=if v<k∧iJ F.pairs (v:Int) c.user=true∧¬F.room≤((F.q v).length:Int) then F.q v++[kJ c seq] else F.q v
 | 0,_=>by
  rw[if_neg aTZ];rfl
 | k+1,hk=>by
  have ih:=Fi c seq F v k aTZ;obtain⟨e1,e2,_⟩:=L9 c seq F k aTZ;rw[PN c seq F aTZ];unfold C5;rw[e1,e2];by_cases hv:v=k
  ·subst hv;rw[if_neg aTZ]at ih;rw[ih];by_cases h1:iJ F.pairs (v:Int) c.user=true
   ·rw[if_pos h1];by_cases h2:F.room≤((F.q v).length:Int)
    ·rw[if_pos h2,if_neg (fun h=>h.2.2 h2)];exact ih
    ·rw[if_neg h2,if_pos ⟨by omega,h1,h2⟩];show pL _ v _ v=_;unfold pL;rw[if_pos rfl]
   ·rw[if_neg h1,if_neg (fun h=>h1 h.2.1)];exact ih
  ·have:(if v<k+1∧iJ F.pairs (v:Int) c.user=true∧¬F.room≤((F.q v).length:Int) then F.q v++[kJ c seq] else F.q v)=(if v<k∧iJ F.pairs (v:Int) c.user=true∧¬F.room≤((F.q v).length:Int) then F.q v++[kJ c seq] else F.q v):=by
    by_cases h:v<k∧iJ F.pairs (v:Int) c.user=true∧¬F.room≤((F.q v).length:Int)
    ·rw[if_pos h,if_pos ⟨by omega,h.2⟩]
    ·rw[if_neg h,if_neg (fun h' => h ⟨by omega,h'.2⟩)]
   rw[this,←ih];split
   ·split
    ·rfl
    ·show pL _ k _ v=_;unfold pL;rw[if_neg hv]
   ·rfl
theorem aOS (f:eN) (seq:Int) (q:Nat→iD) (c:gB) {v:Nat} (hv:v<8):vS f seq q c v=if kK f (v:Int) c.user=true then pK (q v) (kJ c seq) else q v:=by
 unfold vS;rw[Hg f c seq q v 8 (aP9 _)];by_cases h:kK f (v:Int) c.user=true
 ·rw[if_pos ⟨hv,h⟩,if_pos h]
 rw[if_neg (fun h' => h h'.2),if_neg h]
theorem aOR {f:eN} {seq:Int} {q:Nat→iD} {room:Int} (h:QI q room) (c:gB):QI (vS f seq q c) room:=by
 unfold vS r7;exact QP _ (fun q w h=>QI.one h w) _ _ h
theorem Uh {f:eN} {seq room:Int} (hr:room≤16):∀(l:List gB) (q:Nat→iD) (F:bW),QN f F→MX q F→QI q room→QN f (rY F l seq)∧MX (l.foldl (vS f seq) q) (rY F l seq)
 | [],q,F,p,h,_=>⟨p,h⟩
 | c::l,q,F,p,h,hq=>by
  obtain⟨e1,e2,_⟩:=L9 c seq F 8 (aP9 _)
  have p' : QN f (C6 seq F c):=⟨e2.trans p.room,fun w hw u=>by rw[show (C6 seq F c).pairs=F.pairs from e1];exact p.wt w hw u,by rw[show (C6 seq F c).pairs=F.pairs from e1];exact p.nd⟩
  refine Uh hr l _ _ p' (fun w hw hl=>?_) (aOR hq c);rw[aOS f seq q c hw]at hl ⊢;have hF:(C6 seq F c).q w=_:=Fi c seq F w 8 (aP9 _);rw[hF,p.wt w hw,p.room];split at hl
  ·rename_i yZ;rw[if_pos yZ];unfold pK at hl ⊢;split at hl
   ·cases hl
   ·rename_i UC;rw[if_neg UC];have hl:(q w).lost=false:=hl;have:=hq w;rw[h w hw hl,if_pos ⟨hw,yZ,by omega⟩]
  ·rename_i yZ;rw[if_neg yZ,if_neg (fun h' => yZ h'.2.1)];exact h w hw hl
theorem r9.tell {f:eN} {F:bW} (g:r9 f F) {room:Int} (hr:room≤16) (hq:QI f.q room) (l:List gB) (seq:Int):r9 (l2 f l seq) (rY F l seq):=by
 obtain⟨a,b⟩:=Uh (f:=f) (seq:=seq) hr l f.q F g.p g.q hq;exact⟨⟨a.room,a.wt,a.nd⟩,b⟩
theorem r9.drain {f:eN} {F:bW} (g:r9 f F) (w:Nat):r9 (xA f w) (BG F w):=by
 refine⟨⟨g.p.room,g.p.wt,g.p.nd⟩,fun v hv hl=>?_⟩;have hl:(tE f.q w (MC (f.q w)) v).lost=false:=hl;show pL F.q w [] v=(tE f.q w (MC (f.q w)) v).l;unfold pL;unfold tE at hl ⊢;split
 ·rfl
 rename_i e;rw[if_neg e]at hl;exact g.q v hv hl
theorem VF (F:bW) {w:Nat} (hw:w<8) (u:ByteArray):oT F (w:Int) u=if iJ F.pairs (w:Int) u=true then F else { F with pairs:=F.pairs++[((w:Int),u)] }:=by
 unfold oT;rw[aQJ (show (0:Int)≤(w:Int) by omega),aQJ (show (w:Int)<8 by omega)];cases iJ F.pairs (w:Int) u<;>rfl
theorem Pd {w:Int} {u:ByteArray} {p:Int × ByteArray}:C4 w u p=true↔p=(w,u):=by
 unfold C4;obtain⟨a,b⟩:=p;simp
theorem uM {l:List (Int × ByteArray)} {w:Int} {u:ByteArray}:iJ l w u=true↔(w,u)∈l:=by
 unfold iJ;rw[aRX];constructor
 ·rintro⟨x,hx,he⟩;rw[Pd.1 he]at hx;exact hx
 exact fun h=>⟨_,h,Pd.2 Z⟩
theorem IZ {w:Int} {u:ByteArray} {p:Int × ByteArray}:vL w u p=true↔p≠(w,u):=by
 unfold vL;obtain⟨a,b⟩:=p;simp;by_cases h:a=w<;>simp[h]
theorem BT {a b:Bool} (h:a=true↔b=true):a=b:=Bool.eq_iff_iff.2 h
theorem r9.watch {f:eN} {F:bW} (g:r9 f F) (gi:kI f) {w:Nat} (hw:w<8) (u:ByteArray):r9 (oD f (w:Int) u) (oT F (w:Int) u):=by
 have hq:MX (oD f (w:Int) u).q F:=by
  rw[YN];exact g.q
 obtain⟨_,hf⟩:=Lc gi hw u;rw[VF F hw];split
 ·rename_i hh;refine⟨⟨g.p.room,fun v hv u' => ?_,g.p.nd⟩,hq⟩;rw[hf v hv u', g.p.wt v hv u'];by_cases e:w=v∧u' = u
  ·obtain⟨rfl,rfl⟩:=e;rw[←g.p.wt w hw,hh];rfl
  have:(decide (w=v)&&decide (u' = u))=false:=by simpa using e
  rw[this,aSZ]
 rename_i hh;refine⟨⟨g.p.room,fun v hv u' => ?_,?_⟩,hq⟩
 ·rw[hf v hv u', ←g.p.wt v hv u'];refine BT ?_;rw[uM,aRW,uM,aQV,decide_eq_true_eq,decide_eq_true_eq];show _∈F.pairs++_↔_;rw[aQX,aQR,aSX];constructor;rotate_left
  all_goals
   rintro (h|⟨h1,h2⟩)
   ·exact .inl h
   ·exact .inr ⟨by omega,h2⟩
 refine aRR.2 ⟨g.p.nd,aS6 _ _,fun a ha b hb=>?_⟩;rw[aQR.1 hb];rintro rfl;exact hh (uM.2 ha)
theorem r9.unwatch {f:eN} {F:bW} (g:r9 f F) (gi:kI f) {w:Nat} (hw:w<8) (u:ByteArray):r9 (m6 f (w:Int) u) (zD F (w:Int) u):=by
 have hq:MX (m6 f (w:Int) u).q F:=by
  rw[YM];exact g.q
 obtain⟨_,hf⟩:=Lb gi hw u;refine⟨⟨g.p.room,fun v hv u' => ?_,g.p.nd.sublist List.filter_sublist⟩,hq⟩;rw[hf v hv u', ←g.p.wt v hv u'];refine BT ?_;rw[uM,aQV,uM,aR2];show _∈F.pairs.filter _↔_;rw[List.mem_filter,IZ];refine and_congr_right fun _=>?_;rw[ne_eq,aSX];constructor
 ·intro h;by_cases e:w=v∧u' = u
  ·exact absurd ⟨by omega,e.2⟩ h
  simpa using e
 rintro h ⟨h1,h2⟩
 have:w=v:=by omega
 subst this;subst h2;simp at h
theorem PF {w:Int} {p:Int × ByteArray}:LZ w p=true↔p.1=w:=decide_eq_true_iff
theorem Qb (l:List (Int × ByteArray)) (w:Int) (p:Int × ByteArray):j4 (l++[p]) w=j4 l w+if p.1=w then 1 else 0:=by
 unfold j4;rw[aSM,aQE];by_cases e:p.1=w
 ·rw[aSN (PF.2 e),if_pos e];simp
 rw[aSD (fun h=>e (PF.1 h)),if_neg e];simp
theorem Qc:∀{l:List (Int × ByteArray)},(l.Pairwise fun a b=>a≠b)→∀(w:Int) (u:ByteArray) (v:Int),j4 (l.filter (vL w u)) v=j4 l v-if v=w∧iJ l w u=true then 1 else 0
 | [],_,w,u,v=>by
  rw[if_neg (fun h=>by have:=h.2;cases this)];rfl
 | p::l,h,w,u,v=>by
  obtain⟨h1,h2⟩:=aTF.1 h;have ih:=Qc h2 w u v
  have hc:∀(q:Int × ByteArray) (m:List (Int × ByteArray)),j4 (q::m) v=j4 m v+if q.1=v then 1 else 0:=fun q m=>by
   unfold j4;by_cases e:q.1=v
   ·rw[aSN (PF.2 e),if_pos e,aQH];omega
   ·rw[aSD (fun h=>e (PF.1 h)),if_neg e];omega
  by_cases e:p=(w,u)
  ·subst e;have hn:l.filter (vL w u)=l:=aTN.2 fun x hx=>IZ.2 fun hh=>h1 x hx hh.symm;rw[aSD (fun hh=>IZ.1 hh rfl),hn,hc];have hw:iJ ((w,u)::l) w u=true:=uM.2 (aRK ..);by_cases ev:v=w
   ·subst ev;rw[if_pos rfl,if_pos ⟨rfl,hw⟩];omega
   ·rw[if_neg (fun hh=>ev hh.symm),if_neg (fun hh=>ev hh.1)];omega
  ·rw[aSN (IZ.2 e),hc,hc,ih];have:iJ (p::l) w u=iJ l w u:=BT (by rw[uM,uM,aRO];exact⟨fun hh=>hh.elim (fun h' => absurd h'.symm e) id,.inr⟩);rw[this];omega
theorem UV {l:List (List cI)} {a:List Nat}:∀{n j:Nat} {e:cI},nB l a n=some j→oN l a j=some e→∀i e', i<n→oN l a i=some e' → e.seq≤e'.seq
 | 0,j,e,h,_=>by cases h
 | n+1,j,e,h,he=>by
  rw[IX]at h;intro i e' hi lG;unfold EP at h
  cases hn:oN l a n with
  | none=>
   rw[hn]at h
   have lH:i≠n:=by
    rintro rfl;rw[hn]at lG;cases lG
   exact UV h he i e' aTZ lG
  | some f=>
   rw[hn]at h
   cases hb:nB l a n with
   | none=>
    rw[hb]at h;obtain rfl:=aQB h;rw[hn]at he;obtain rfl:=aQB he;by_cases lH:i=n
    ·subst lH;rw[hn]at lG;obtain rfl:=aQB lG;exact aQK _
    ·exact absurd lG (by rw[mBest_none hb i aTZ];exact nofun)
   | some k=>
    rw[hb]at h;obtain⟨_,g,hg⟩:=EO hb;simp only[hg]at h;split at h
    ·rename_i aW;obtain rfl:=aQB h;rw[hn]at he;obtain rfl:=aQB he;by_cases lH:i=n
     ·subst lH;rw[hn]at lG;obtain rfl:=aQB lG;exact aQK _
     ·have:=UV hb hg i e' aTZ lG;omega
    ·rename_i dA;obtain rfl:=aQB h;rw[hg]at he;obtain rfl:=aQB he;by_cases lH:i=n
     ·subst lH;rw[hn]at lG;obtain rfl:=aQB lG;omega
     ·exact UV hb hg i e' aTZ lG
where
 mBest_none {l:List (List cI)} {a:List Nat}:∀{n:Nat},nB l a n=none→∀i,i<n→oN l a i=none
 | 0,_,i,hi=>absurd hi (aQW _)
 | n+1,h,i,hi=>by
  rw[IX]at h;unfold EP at h
  cases hn:oN l a n with
  | none=>
   rw[hn]at h;by_cases e:i=n
   ·subst e;exact hn
   ·exact mBest_none h i aTZ
  | some f=>
   rw[hn]at h
   cases hb:nB l a n with
   | none=>
    rw[hb]at h;cases h
   | some k=>
    rw[hb]at h;obtain⟨_,g,hg⟩:=EO hb;simp only[hg]at h;split at h<;>cases h
theorem mG.le {u v:cI} (h:mG u v):u.seq≤v.seq:=by
 rcases h with h|h
 ·omega
 exact Int.le_of_eq h.1
def wR (l:List (List cI)) (a:List Nat) (j:Nat):List cI:=(l.getD j []).drop (a.getD j 0)
theorem Dx {l:List (List cI)} {a:List Nat} {j:Nat} {e:cI} (h:oN l a j=some e):wR l a j=e::(l.getD j []).drop (a.getD j 0+1):=by
 obtain⟨aW,he⟩:=aQG.1 h;unfold wR;rw[aS1 aW,he]
theorem Od {l:List (List cI)} {a:List Nat} {j:Nat} (hj:j<a.length) (i:Nat):wR l (a.set j (a.getD j 0+1)) i=if i=j then (l.getD j []).drop (a.getD j 0+1) else wR l a i:=by
 unfold wR;split
 ·rename_i e;subst e;rw[aQQ (l:=a.set i _),aQ8 hj];rfl
 rename_i e;rw[aQQ (l:=a.set j _),aRN (fun h=>e h.symm),←aQQ]
theorem Oa {l:List (List cI)} (hp:∀j,(l.getD j []).Pairwise mG) (hd:∀i j,i≠j→∀e∈l.getD i [],∀f∈l.getD j [],e.user≠f.user):∀(f:Nat) (a:List Nat) (o:List cI),a.length=l.length→o.Pairwise mG→(∀u∈o,∀j,∀e∈wR l a j,mG u e)→(xR f l a o).Pairwise mG
 | 0,a,o,_,h1,_=>h1
 | f+1,a,o,hl,h1,h2=>by
  cases hb:nB l a l.length with
  | none=>
   rw[UX hb];exact h1
  | some j=>
   obtain⟨hj,e,he⟩:=EO hb;rw[UY hb he];have F5:=Dx he
   have TZ:e∈wR l a j:=by
    rw[F5];exact aRK ..
   have xK:e∈l.getD j []:=aSR TZ;refine Oa hp hd f _ _ (by rw[aQZ];exact hl) ?_ ?_
   ·exact aRR.2 ⟨h1,aS6 _ _,fun u hu v hv=>by
     rw[aQR.1 hv]
     exact h2 u hu j e TZ⟩
   ·intro u hu i v hv;rw[Od aTZ]at hv;rcases aQX.1 hu with hu|hu
    ·refine h2 u hu i v ?_;split at hv
     ·rename_i e';subst e';rw[F5];exact aRQ _ hv
     ·exact hv
    ·rw[aQR.1 hu];have pj:(wR l a j).Pairwise mG:=(hp j).sublist (List.drop_sublist _ _);rw[F5]at pj;split at hv
     ·exact (aTF.1 pj).1 v hv
     ·rename_i xL;have LS:v∈l.getD i []:=aSR hv;have bR:=hd j i (fun h=>xL h.symm) e xK v LS
      have rN:e.seq≤v.seq:=by
       have IK:i<l.length:=by
        rcases aSU i l.length with h|h
        ·exact h
        ·rw[aQQ,aRJ h]at LS;cases LS
       cases hh:oN l a i with
       | none=>
        have:(l.getD i []).length≤a.getD i 0:=List.getElem?_eq_none_iff.1 hh;unfold wR at hv;rw[List.drop_eq_nil_iff.2 this]at hv;cases hv
       | some g=>
        have h3:=UV hb he i g IK hh;have pi:(wR l a i).Pairwise mG:=(hp i).sublist (List.drop_sublist _ _);have OQ:=Dx hh;rw[OQ]at pi hv;rcases aRO.1 hv with rfl|hv
        ·exact h3
        ·have:=((aTF.1 pi).1 v hv).le;omega
      rcases Int.lt_or_eq_of_le rN with h|h
      ·exact .inl h
      ·exact .inr ⟨h,bR⟩
theorem Nz {l:List (List cI)}:∀(f:Nat) (a:List Nat) (o:List cI) {e:cI},e∈xR f l a o→e∈o∨∃j,e∈l.getD j []
 | 0,a,o,e,h=>.inl h
 | f+1,a,o,e,h=>by
  cases hb:nB l a l.length with
  | none=>
   rw[UX hb]at h;exact .inl h
  | some j=>
   obtain⟨hj,e', he⟩:=EO hb;rw[UY hb he]at h;rcases Nz f _ _ h with h|h
   ·rcases aQX.1 h with h|h
    ·exact .inl h
    ·rw[aQR.1 h];exact .inr ⟨j,aQL he⟩
   ·exact .inr h
theorem aCZ {l:List (List cI)} (hp:∀j,(l.getD j []).Pairwise mG) (hd:∀i j,i≠j→∀e∈l.getD i [],∀f∈l.getD j [],e.user≠f.user):(tM l).Pairwise mG:=
 Oa hp hd _ _ _ aT4 aQ4 (fun u hu=>by cases hu)
theorem aCY {l:List (List cI)} {e:cI} (h:e∈tM l):∃j,e∈l.getD j []:=by
 rcases Nz _ _ _ h with h|h
 ·cases h
 exact h
def JT (hd:Nat→Option cI) (m n:Nat):Option Nat→Prop
 | none=>∀i,m≤i→i<n→hd i=none
 | some j=>m≤j∧j<n∧∃e,hd j=some e∧∀i e', m≤i→i<n→hd i=some e' → e.seq≤e'.seq∧(i<j→e.seq<e'.seq)
theorem JT.one {hd:Nat→Option cI} {m n:Nat}:∀{o o' : Option Nat},JT hd m n o→JT hd m n o' → o=o'
 | none,none,_,_=>rfl
 | none,some j,h,⟨h1,h2,e,h3,_⟩=>by rw[h j h1 h2]at h3;cases h3
 | some j,none,⟨h1,h2,e,h3,_⟩,h=>by rw[h j h1 h2]at h3;cases h3
 | some j,some k,⟨h1,h2,e,h3,h4⟩,⟨g1,g2,f,g3,g4⟩=>by
  have a:=h4 k f g1 g2 g3;have b:=g4 j e h1 h2 h3;rcases aTT j k with h|h|h
  ·have:=b.2 h;omega
  ·rw[h]
  ·have:=a.2 h;omega
theorem Ip {l:List (List cI)} {a:List Nat}:∀n,JT (oN l a) 0 n (nB l a n)
 | 0=>fun i _ h=>absurd h (aQW _)
 | n+1=>by
  have ih:=Ip (l:=l) (a:=a) n;rw[IX];unfold EP
  cases hn:oN l a n with
  | none=>
   simp only
   cases hb:nB l a n with
   | none=>
    rw[hb]at ih;intro i h0 hi;by_cases e:i=n
    ·rw[e];exact hn
    ·exact ih i h0 aTZ
   | some j=>
    rw[hb]at ih;obtain⟨h1,h2,e,h3,h4⟩:=ih;refine⟨h1,by omega,e,h3,fun i e' h0 hi he=>?_⟩;by_cases ein:i=n
    ·rw[ein,hn]at he;cases he
    ·exact h4 i e' h0 aTZ he
  | some e=>
   simp only
   cases hb:nB l a n with
   | none=>
    rw[hb]at ih;refine⟨aQC _,by omega,e,hn,fun i e' h0 hi he=>?_⟩;by_cases ein:i=n
    ·rw[ein,hn]at he;obtain rfl:=aQB he;exact⟨aQK _,fun h=>by omega⟩
    ·rw[ih i h0 aTZ]at he;cases he
   | some j=>
    rw[hb]at ih;obtain⟨h1,h2,f,h3,h4⟩:=ih;simp only[h3];split
    ·rename_i aW;refine⟨aQC _,by omega,e,hn,fun i e' h0 hi he=>?_⟩;by_cases ein:i=n
     ·rw[ein,hn]at he;obtain rfl:=aQB he;exact⟨aQK _,fun h=>by omega⟩
     ·have:=(h4 i e' h0 aTZ he).1;exact⟨by omega,fun _=>by omega⟩
    ·rename_i dA;refine⟨h1,by omega,f,h3,fun i e' h0 hi he=>?_⟩;by_cases ein:i=n
     ·rw[ein,hn]at he;obtain rfl:=aQB he;exact⟨by omega,fun h=>by omega⟩
     ·exact h4 i e' h0 aTZ he
theorem Mz (R:List (List cI)) (i:Nat):(R.getD i []).head?=match R[i]? with
 | some (e::_)=>some e
 | _=>none:=by
 rw[aQQ]
 cases R[i]? with
 | none=>rfl
 | some l=>cases l<;>rfl
theorem Iq {R:List (List cI)}:∀m,m≤R.length→JT (fun i=>(R.getD i []).head?) (R.length-m) R.length (n8 R m)
 | 0,_=>fun i h0 hi=>by omega
 | m+1,hm=>by
  have ih:=Iq (R:=R) m aTZ;show JT _ _ _ (JE R (n8 R m) (R.length-1-m));generalize hn:R.length-1-m=n
  have fL:n<R.length:=by omega
  have e1:R.length-(m+1)=n:=by omega
  have e2:R.length-m=n+1:=by omega
  rw[e1];rw[e2]at ih;unfold JE C7 PJ;have hh:=Mz R n;rw[aQA fL]at hh ⊢;simp only at hh ⊢
  cases hl:R[n] with
  | nil=>
   rw[hl]at hh;have hh:(R.getD n []).head?=none:=hh;simp only[aQO];rw[if_neg aT4]
   cases hb:n8 R m with
   | none=>
    rw[hb]at ih;intro i h0 hi;by_cases e:i=n
    ·rw[e];exact hh
    ·exact ih i aTZ hi
   | some j=>
    rw[hb]at ih;obtain⟨h1,h2,e,h3,h4⟩:=ih;refine⟨by omega,h2,e,h3,fun i e' h0 hi he=>?_⟩;by_cases ein:i=n
    ·rw[ein]at he;have he:(R.getD n []).head?=some e' := he;rw[hh]at he;cases he
    ·exact h4 i e' aTZ hi he
  | cons e tl=>
   rw[hl]at hh;have hh:(R.getD n []).head?=some e:=hh
   have hs:CA R n=e.seq:=by
    unfold CA;rw[aQA fL,hl]
   have UA:decide ((0:Int)<(((e::tl).length:Nat):Int))=true:=aQJ (by rw[aQH];omega);rw[UA,aR4]
   cases hb:n8 R m with
   | none=>
    rw[hb]at ih;simp only;rw[if_pos trivial];refine⟨aP9 _,fL,e,hh,fun i e' h0 hi he=>?_⟩;by_cases ein:i=n
    ·rw[ein]at he;have he:(R.getD n []).head?=some e' := he;rw[hh]at he;obtain rfl:=aQB he;exact⟨aQK _,fun h=>by omega⟩
    ·have:=ih i aTZ hi;rw[this]at he;cases he
   | some j=>
    rw[hb]at ih;obtain⟨h1,h2,f,h3,h4⟩:=ih
    have hsj:CA R j=f.seq:=by
     have h3:(R.getD j []).head?=some f:=h3;rw[Mz]at h3;unfold CA
     cases hRj:R[j]? with
     | none=>
      rw[hRj]at h3;cases h3
     | some l=>
      rw[hRj]at h3
      cases l with
      | nil=>cases h3
      | cons e' t' =>
       obtain rfl:=aQB h3;rfl
    simp only[hs,hsj];by_cases rN:e.seq≤f.seq
    ·rw[if_pos (aQJ rN)];refine⟨aP9 _,fL,e,hh,fun i e' h0 hi he=>?_⟩;by_cases ein:i=n
     ·rw[ein]at he;have he:(R.getD n []).head?=some e' := he;rw[hh]at he;obtain rfl:=aQB he;exact⟨aQK _,fun h=>by omega⟩
     ·have:=(h4 i e' aTZ hi he).1;exact⟨by omega,fun h=>by omega⟩
    ·rw[if_neg (by simpa using rN)];refine⟨by omega,h2,f,h3,fun i e' h0 hi he=>?_⟩;by_cases ein:i=n
     ·rw[ein]at he;have he:(R.getD n []).head?=some e' := he;rw[hh]at he;obtain rfl:=aQB he;exact⟨by omega,fun h=>by omega⟩
     ·exact h4 i e' aTZ hi he
def If (l:List (List cI)) (a:List Nat) (R:List (List cI)):Prop:=a.length=l.length∧R.length=l.length∧∀i,R.getD i []=wR l a i
theorem aG2 {l:List (List cI)} {a:List Nat} {R:List (List cI)} (h:If l a R):nB l a l.length=n8 R R.length:=by
 have b1:=Ip (l:=l) (a:=a) l.length;have b2:=Iq (R:=R) R.length (aP9 _);rw[aSJ,h.2.1]at b2;rw[h.2.1]
 have e:(fun i=>(R.getD i []).head?)=oN l a:=by
  funext i;rw[h.2.2 i];unfold wR oN;rw[List.head?_drop]
 rw[e]at b2;exact b1.one b2
theorem Oj {l:List (List cI)}:∀(f n:Nat) (a:List Nat),If l a (jS l n).1→mR (jS l n).1+n=mR l→mR (jS l n).1<f→xR f l a (jS l n).2=pY l
 | 0,n,a,_,_,h=>absurd h (aQW _)
 | f+1,n,a,hL,hn,hf=>by
  have hb:=aG2 hL
  cases hs:n8 (jS l n).1 (jS l n).1.length with
  | none=>
   rw[hs]at hb;rw[UX hb];exact (Ql hn hs).symm
  | some j=>
   rw[hs]at hb;obtain⟨e,tl,he⟩:=VJ (aP9 _) hs;have F5:=hL.2.2 j;rw[aQQ,he]at F5;have F5:e::tl=wR l a j:=F5;obtain⟨hj,e', AM⟩:=EO hb;have h2:=Dx AM;rw[←F5]at h2;obtain⟨rfl,rfl⟩:=List.cons.inj h2;rw[UY hb AM];have hg:=Rp hs he;have hq:=Ex he;have h3:=Oj f (n+1) (a.set j (a.getD j 0+1)) ?_ (by rw[hg];simp only;omega) (by rw[hg];simp only;omega)
   ·rw[hg]at h3;exact h3
   ·rw[hg];refine⟨by rw[aQZ];exact hL.1,by simp only[aQZ];exact hL.2.1,fun i=>?_⟩;rw[Od (by rw[hL.1];exact hj)];simp only;split
    ·rename_i ei;subst ei;rw[aQQ,aQ8 (aQG.1 he).1];rfl
    ·rename_i ei;rw[aQQ,aRN (fun h=>ei h.symm),←aQQ];exact hL.2.2 i
theorem Of:∀l:List (List cI),sZ l (List.replicate l.length 0)=mR l
 | []=>rfl
 | x::l=>by
  rw[aQH,List.replicate_succ];unfold sZ;rw[Of l];simp[mR]
theorem aCW (l:List (List cI)):tM l=pY l:=by
 unfold tM y6;rw[Of];refine Oj (mR l+1) 0 _ ⟨by simp,Z,fun i=>?_⟩ (by show mR l+0=_;omega) (by show mR l<_;omega);unfold wR;show l.getD i []=_
 have:(List.replicate l.length 0).getD i 0=0:=by
  rw[aQQ,aSE];split<;>rfl
 rw[this];rfl
def jL:Kn (ByteArray × dS) where
 k:=5
 R:=fun t x c=>∃u,c=.string x.1::u::kP x.2.told∧Sl t dL u x.2.sessions
 len:=by rintro t x c ⟨v,rfl,_⟩;rfl
 one:=by
  rintro t x c ⟨v,rfl,h⟩ u hu;simp at hu
  rcases hu with rfl|rfl|rfl|rfl|rfl<;>first|rfl|exact h.cell
 stp:=by
  rintro T t t' x c s hT ⟨v,rfl,h⟩;exact⟨v,Z,h.step s hT⟩
theorem aGU (t:TW):(fG jL).R t [] [.slice none 0 0]:=⟨_,rfl,Sl.nil _ _ none 0⟩
def pl (l:List bL) (i:Nat):Int:=match l[i]? with
 | some x=>x.placed
 | none=>-1
theorem GH {l:List bL} {i:Nat} (h:i<l.length):pl l i=l[i].placed:=by
 unfold pl;rw[aQA h]
def y7 (l:List bL) (u:List Bool) (b:Option Nat) (i:Nat):Bool:=decide (0≤pl l i)&&!(u.getD i false)&&(match b with
 | none=>true
 | some j=>decide (pl l i≤pl l j))
def I1 (l:List bL) (u:List Bool) (b:Option Nat) (i:Nat):Option Nat:=if y7 l u b i=true then some i else b
def mC (l:List bL) (u:List Bool):Nat→Option Nat
 | 0=>none
 | m+1=>I1 l u (mC l u m) (l.length-1-m)
def gJ (l:List bL):Nat→List Bool × List Nat
 | 0=>(List.replicate l.length false,[])
 | n+1=>match mC l (gJ l n).1 l.length with
  | none=>gJ l n
  | some j=>((gJ l n).1.set j true,(gJ l n).2++[j])
def fV (l:List bL):List Nat:=(gJ l l.length).2
theorem PC {l:List bL} {u:List Bool}:∀{m j:Nat},m≤l.length→mC l u m=some j→j<l.length
 | 0,j,_,h=>by cases h
 | m+1,j,hm,h=>by
  unfold mC I1 at h;split at h
  ·obtain rfl:=aQB h;omega
  ·exact PC aTZ h
theorem U2 (l:List bL):∀n,(gJ l n).1.length=l.length∧(gJ l n).2.length≤n
 | 0=>⟨by simp[gJ],aP9 _⟩
 | n+1=>by
  have ih:=U2 l n;unfold gJ;split
  ·exact⟨ih.1,by omega⟩
  ·refine⟨by rw[aQZ];exact ih.1,?_⟩;simp only[aQE,aQH,aQO];omega
abbrev bC (u:List Bool):List Value:=u.map fun (x:Bool)=>Value.bool x
theorem Wn {u:List Bool} {i:Nat} (h:i<u.length):(bC u)[i]?=some (.bool (u.getD i false)):=by
 rw[aR7,rD (aQA h),aQA h];rfl
theorem Wo {u:List Bool} {j:Nat} {x:Bool} (h:j<u.length):put (bC u) j [.bool x]=bC (u.set j x):=by
 rw[Ev aU7];simp only[bC,List.map_set]
abbrev iL (o:List Nat):List Int:=o.map fun (x:Nat)=>(x:Int)
theorem Fm (a b:Int) (t:TW) (h0:0≤a) (h1:a≤18446744073709551615) (h2:0≤b) (h3:b≤18446744073709551615):aL 25 [U a,U b] t No (fun v _=>v=U (d8 a b)):=by
 refine bG func25 Z ntmps25<|aD<|WL.a Z<|aB<|aD<|WL.m Z<|aA (aN Z Z (Ht aTZ aTZ))<|WL.a Z<|aB<|WC.seq ?_;refine aD<|WL.m Z<|WL.m Z<|aA (aN Z Z BO.lt)<|aB ?_;refine bD Z (fun lR=>?_) (fun lR=>?_)
 ·have hc:=bA lR;exact aD<|WL.a Z<|aB<|WC.ret<|WQ.tr<|WQ.ret Z (.tmp Z .nil) (by unfold d8;rw[if_pos aTZ];rfl)
 have hc:=aY lR;exact WC.skip<|WQ.n<|aD<|WL.m Z<|WL.m Z<|aA (aN Z Z (P7 aTZ aTZ))<|WL.a Z<|aB<|WC.ret<|WQ.ret Z (.tmp Z .nil) (by unfold d8;rw[if_neg aTZ];rfl)
theorem aK4 {b:Nat} {g:bB} (c:cY) (x:mZ) (bv fv:Value) (by_:Int) (t:TW) (hb:Bk t b (kR c++lW x++[bv,fv]) 46 g) (h0:0≤x.now) (h1:x.now≤18446744073709551615) (h2:0≤by_) (h3:by_≤18446744073709551615):aL 13 [Y b,U by_] t (fun z=>z=g) (fun _ t' => Bk t' b (kR c++lW { x with now:=d8 x.now by_ }++[bv,fv]) 46 g):=by
 refine bG func13 Z ntmps13<|WC.rg<|WL.m Z<|WL.m Z<|aA (aT Z)<|WL.q 7 Z yK<|WL.q 7 Z AA<|WL.r (aF Z gT (hb.cell Z))<|WL.m Z<|aI (Ef.call Z X9 (Fm _ _ _ h0 h1 h2 h3) aT2) ?_;rintro _ t1 ⟨s1,rfl⟩;have hb:=hb.n s1;refine aA (aT Z)<|WL.q 7 Z yK<|WL.q 7 Z AA<|WL.e0 (Ef.T [U (d8 x.now by_)] Z Z hb oV (.inr Z)) ?_;rintro _ t2 ⟨u2,s2,eX⟩;have hb:Bk t2 b [O c.stripes,O c.sessions,O c.queue,O c.watches,O c.retries,U c.epochs,U c.start,U (d8 x.now by_),U x.seq,.bool x.closed,bv,fv] _ _:=eX;clear eX;exact WL.nil<|WQ.end_ Z .nil (hb)
theorem aK6 {v:Value} {l:List bL} (t:TW) (hl:Sl t gF v l) (hn:l.length≤900000):aL 11 [v] t No (fun r t' => Sl t' (fS .i64) r (iL (fV l))):=by
 obtain⟨Al,cl,rfl,_⟩:=hl.form;have hz:t.w.heap.size≤t.w.heap.size:=aP9 _;refine bG func11 Z ntmps11<|aD<|WL.a Z<|aB<|aD<|WL.a Z<|aB<|aD<|WL.m Z<|aA (dC Z underlying35) ?_;refine aI (QB (.loc 10) (m:=l.length) Gq el4 Z Z Z aTZ aT0) ?_;rintro _ t1 ⟨b10,rfl,s1,hU0,n10,m10⟩;obtain⟨hl,hz⟩:=Q2 (hl.n s1) (aP8 hz s1.size)
 have hU:Bk t1 b10 (bC (gJ l 0).1) 4 (.loc 10):=by simpa[bC,gJ]using hU0
 refine WL.a Z<|aB<|WC.seq<|aD<|WL.a Z<|aB<|WC.block<|WC.loop (σ:=Nat × Value) (fun p t' => Sl t' gF (.slice Al l.length cl) l∧t.w.heap.size≤t'.w.heap.size∧p.1≤l.length∧Bk t' b10 (bC (gJ l p.1).1) 4 (.loc 10)∧aZ t' (.loc 63) t.w.heap.size 3 (fS .i64) p.2 (iL (gJ l p.1).2)∧True) (fun p=>[(0,.slice Al l.length cl),(3,p.2),(4,.slice (some ⟨b10,0,none⟩) l.length l.length),(5,O (p.1:Int))]) (fun p=>l.length-p.1) (0,.slice none 0 0) ⟨Z,Z,Z,Z,trivial⟩ ⟨hl,hz,aQC _,hU,aZ.nil _ _ _ _ _,trivial⟩ ?_;rintro⟨n,ov⟩ t2 ⟨hl,hz,fL,hU,ho,_⟩;simp only at fL hU ho;obtain⟨CZ,LJ⟩:=U2 l n
 obtain⟨u,hu⟩:∃u,u=(gJ l n).1:=⟨_,Z⟩
 obtain⟨o,T4⟩:∃o,o=(gJ l n).2:=⟨_,Z⟩
 rw[←hu]at hU CZ;rw[←T4]at ho LJ;obtain⟨Ao,co,rfl,_⟩:=ho.form;refine WC.seq<|aD<|WL.m Z<|WL.m Z<|aA (dC Z underlying35)<|aA (aN Z Z BO.lt)<|aB ?_;refine bD Z (fun fH=>?_) (fun fH=>?_)
 ·have aW:n<l.length:=by have:=bA fH;omega
  refine WC.skip<|WQ.n<|WC.seq<|WC.block<|aD<|WL.a Z<|aB<|WC.seq<|aD<|WL.m Z ?_;refine aA (dC Z underlying35)<|aA (aN Z Z (BO.sub aTZ aTZ))<|WL.a Z<|aB<|WC.block<|WC.loop (σ:=Nat) (fun m t' => Sl t' gF (.slice Al l.length cl) l∧t.w.heap.size≤t'.w.heap.size∧Bk t' b10 (bC u) 4 (.loc 10)∧aZ t' (.loc 63) t.w.heap.size 3 (fS .i64) (.slice Ao (iL o).length co) (iL o)∧m≤l.length∧True) (fun m=>[(0,.slice Al l.length cl),(3,.slice Ao (iL o).length co),(4,.slice (some ⟨b10,0,none⟩) l.length l.length),(5,O (n:Int)),(6,O (bI (mC l u m))),(7,O ((l.length:Int)-((m:Int)+1)))]) (fun m=>l.length-m) 0 ⟨Z,Z,Z,Z,Z,Z,trivial⟩ ⟨hl,hz,hU,ho,aQC _,trivial⟩ ?_;rintro m t3 ⟨hl,hz,hU,ho,LH,_⟩;refine WC.seq<|aD<|WL.m Z<|aA (aN Z Z lX)<|aB ?_;refine bD Z (fun vA=>?_) (fun vA=>?_)
  ·have hm:m<l.length:=by have:=bA vA;omega
   obtain⟨ix,LE⟩:∃ix:Nat,ix=l.length-1-m:=⟨_,Z⟩
   have yQ:((l.length:Int)-((m:Int)+1))=(ix:Int):=by omega
   have vI:ix<l.length:=by omega
   have AU:mC l u (m+1)=I1 l u (mC l u m) ix:=by rw[LE];rfl
   refine WC.skip<|WQ.n<|WC.seq<|WC.block ?_;refine nJ (σ:=Unit) (fun _ t' => Sl t' gF (.slice Al l.length cl) l∧t.w.heap.size≤t'.w.heap.size∧Bk t' b10 (bC u) 4 (.loc 10)∧aZ t' (.loc 63) t.w.heap.size 3 (fS .i64) (.slice Ao (iL o).length co) (iL o)∧True) (fun _=>[(0,.slice Al l.length cl),(3,.slice Ao (iL o).length co),(4,.slice (some ⟨b10,0,none⟩) l.length l.length),(5,O (n:Int)),(6,O (bI (mC l u m))),(7,O ((l.length:Int)-((m:Int)+1))),(53,.bool (y7 l u (mC l u m) ix))]) ?_ ?_
   ·refine WC.dr (fun w=>w=t3.drew.w) (.then_ (.blk (.then_ (.then_ (.blk (.then_ (.blk (.then_ (.then_ (.blk (.then_ .body))))))))))) (Z) ?_;obtain⟨hU,hl,ho,hz⟩:=Q4 (hU.n dW) (hl.n dW) (ho.n dW) (aP8 hz dW.size);refine DL.m 0 Z Z<|DL.m 1 Z Z ?_;obtain⟨bi,oi,ci,di,eqi,_,⟨ui,vi,ei,rfl,_,_,_⟩,tS,_,_⟩:=hl.at_ (aQA vI);obtain⟨fF,_,_⟩:=Value.slice.inj eqi;have uA:=GH vI;have IG:=Wn (u:=u) (i:=ix) aTZ;refine aE 2 Z (bV (congrArg (fun A=>some (Value.slice A l.length cl)) fF) Z vR aTZ aTZ (o' := oi+ix*18) (by rw[yQ];simp))<|aE 3 Z (eC Z HK (o' := oi+ix*18+12))<|cR 4 Z (aF Z bE (tS 12 _ Z))<|aE 5 Z (aN Z Z lX)<|DL.m 6 Z Z ?_;refine oB 30 Z (fun vE=>?_) (fun vE=>?_)
    ·refine DL.m 7 Z Z<|DL.m 8 Z Z<|aE 9 Z (bV Z Z Gq aTZ aTZ (o' := ix) (by rw[yQ];simp))<|cR 10 Z (aF Z mU (hU.cell IG))<|aE 11 Z (eJ Z)<|aE 12 Z (cQ Z Z)<|DL.m 13 Z Z ?_;refine oB 37 Z (fun T6=>?_) (fun T6=>?_)
     ·refine DL.m 14 Z Z<|aE 15 Z (aN Z Z BO.lt)<|DL.m 16 Z Z ?_;refine oB 40 Z (fun Cn=>?_) (fun Cn=>?_)
      ·refine aX 17 Z<|aX 18 Z<|aX 19 Z<|aX 20 Z<|aX 21 Z<|aX 22 Z<|aX 23 Z<|aX 24 Z<|aX 25 Z<|aX 26 Z ?_;exact aX 27 Z<|aE 28 Z (cQ Z Z)<|aE 29 Z (cQ Z Z)<|cK<|g7 () ⟨Z,Z,Z,Z,Z,Z,by rw[show y7 l u (mC l u m) ix=true by unfold y7;rw[uA,vE,T6,J6 (bA Cn)];rfl];rfl,trivial⟩ ⟨hl,hz,hU,ho,trivial⟩
      obtain⟨jb,AR⟩:=J7 (aY Cn);have oK:=PC aTZ AR;obtain⟨bj,oj,cj,dj,eqj,_,⟨uj,vj,ej,rfl,_,_,_⟩,NX,_,_⟩:=hl.at_ (aQA oK);obtain⟨kY,_,_⟩:=Value.slice.inj eqj;have hpj:=GH oK;refine DL.m 17 Z Z<|DL.m 18 Z Z<|aE 19 Z (bV (congrArg (fun A=>some (Value.slice A l.length cl)) fF) Z vR aTZ aTZ (o' := oi+ix*18) (by rw[yQ];simp))<|aE 20 Z (eC Z HK (o' := oi+ix*18+12))<|DL.m 22 Z Z<|DL.m 23 Z Z<|aE 24 Z (bV (congrArg (fun A=>some (Value.slice A l.length cl)) kY) Z vR (by rw[AR];simp[bI]) (by rw[AR];simp[bI];omega) (o' := oj+jb*18) (by rw[AR];simp[bI]))<|aE 25 Z (eC Z HK (o' := oj+jb*18+12))<|cD 21 Z (fun w hw=>by subst hw;exact aF Z bE (tS 12 _ Z))<|cR 26 Z (aF Z bE (NX 12 _ Z)) ?_;exact aE 27 Z (aN Z Z BO.le)<|aE 28 Z (cG Z Z)<|aE 29 Z (cQ Z Z)<|cK<|g7 () ⟨Z,Z,Z,Z,Z,Z,by rw[show y7 l u (mC l u m) ix=decide (l[ix].placed≤l[jb].placed) by unfold y7;rw[uA,vE,T6,AR];show (true&&true&&decide (l[ix].placed≤pl l jb))=_;rw[hpj];rfl];rfl,trivial⟩ ⟨hl,hz,hU,ho,trivial⟩
     refine aX 14 Z<|aX 15 Z<|aX 16 Z<|aX 17 Z<|aX 18 Z<|aX 19 Z<|aX 20 Z<|aX 21 Z<|aX 22 Z<|aX 23 Z ?_;exact aX 24 Z<|aX 25 Z<|aX 26 Z<|aX 27 Z<|aX 28 Z<|aE 29 Z (cG Z Z)<|cK<|g7 () ⟨Z,Z,Z,Z,Z,Z,by rw[show y7 l u (mC l u m) ix=false by unfold y7;rw[uA,vE,T6];rfl];rfl,trivial⟩ ⟨hl,hz,hU,ho,trivial⟩
    refine aX 7 Z<|aX 8 Z<|aX 9 Z<|aX 10 Z<|aX 11 Z<|aE 12 Z (cG Z Z)<|DL.m 13 Z Z<|aX 14 Z<|aX 15 Z<|aX 16 Z ?_;refine aX 17 Z<|aX 18 Z<|aX 19 Z<|aX 20 Z<|aX 21 Z<|aX 22 Z<|aX 23 Z<|aX 24 Z<|aX 25 Z<|aX 26 Z ?_;exact aX 27 Z<|aX 28 Z<|aE 29 Z (cG Z Z)<|cK<|g7 () ⟨Z,Z,Z,Z,Z,Z,by rw[show y7 l u (mC l u m) ix=false by unfold y7;rw[uA,vE];rfl];rfl,trivial⟩ ⟨hl,hz,hU,ho,trivial⟩
   rintro _ t4 ⟨hl,hz,hU,ho,_⟩;refine bD Z (fun IB=>?_) (fun IB=>?_)
   ·refine WC.rg<|WL.m Z<|WL.a Z<|WL.nil<|cE<|WQ.n<|WC.rg<|WL.m Z<|aA (aN Z Z (BO.sub aTZ aTZ))<|WL.a Z ?_;exact WL.nil<|dX (m+1) ⟨Z,Z,Z,Z,by rw[AU];unfold I1;rw[if_pos IB];show _=some (O ((ix:Nat):Int));rw[←yQ];rfl,by rw[show (l.length:Int)-(((m+1:Nat):Int)+1)=(l.length:Int)-((m:Int)+1)-1 by omega];rfl,trivial⟩ ⟨hl,hz,hU,ho,hm,trivial⟩ aTZ
   exact WC.skip<|cE<|WQ.n<|WC.rg<|WL.m Z<|aA (aN Z Z (BO.sub aTZ aTZ))<|WL.a Z<|WL.nil<|dX (m+1) ⟨Z,Z,Z,Z,by rw[AU];unfold I1;rw[if_neg (by rw[IB];decide)];rfl,by rw[show (l.length:Int)-(((m+1:Nat):Int)+1)=(l.length:Int)-((m:Int)+1)-1 by omega];rfl,trivial⟩ ⟨hl,hz,hU,ho,hm,trivial⟩ aTZ
  have IN:m=l.length:=by have:=aY vA;omega
  refine WC.exit<|cN<|cN<|fK<|WQ.n<|aD<|WL.m Z<|aA (aN Z Z lX)<|aB ?_;refine bD Z (fun ID=>?_) (fun ID=>?_)
  ·obtain⟨j,hj⟩:=J7 (o:=mC l u m) (by have:=bA ID;omega);have oK:=PC LH hj;refine aD<|WL.m Z<|WL.m Z<|aA (bV Z Z Gq aUF aUR (o' := j) aUF)<|WL.e0 (Ef.st (vs:=[.bool true]) Z Z hU Z aT9 lM Z aT8 (.inl n10)) ?_;rintro _ t5 ⟨u5,s5,LB⟩;obtain⟨hl,ho,hz⟩:=Q3 (hl.n s5) (ho.n s5) (aP8 hz s5.size);rw[Wo aTZ]at LB;refine aB<|WC.rg<|WL.m Z<|WL.m Z<|aI (cP (.loc 62) (vs:=[(0,O (bI (mC l u m)))]) (cs:=[O (bI (mC l u m))]) (e:=3) Z (fun w=>by kernel_rfl)) ?_;rintro _ t6 ⟨b62,rfl,s6,aE4,nb62,_⟩;obtain⟨LB,hl,ho,hz⟩:=Q4 (LB.n s6) (hl.n s6) (ho.n s6) (aP8 hz s6.size);refine aI (fO (y1:=(j:Int)) Z Z aE4 (by rw[hj];rfl) zJ XM aT0 ho hz aT8 aT0 nofun (.inl (aP9 _))) ?_;rintro v63 t7 ⟨s7,gR⟩;obtain⟨LB,hl,hz⟩:=Q3 (LB.n s7) (hl.n s7) (aP8 hz s7.size);refine WL.a Z<|WL.nil<|cE<|WQ.n<|WC.rg<|WL.m Z<|aA (aN Z Z (BO.add aTZ aTZ))<|WL.a Z<|WL.nil ?_
   have wL:gJ l (n+1)=(u.set j true,o++[j]):=by rw[IN]at hj;rw[hu]at hj ⊢;rw[T4];show (match mC l (gJ l n).1 l.length with|none=>gJ l n|some j=>((gJ l n).1.set j true,(gJ l n).2++[j]))=_;rw[hj]
   exact dX (n+1,v63) ⟨Z,Z,Z,Z,trivial⟩ ⟨hl,hz,aT5,(by rw[wL];exact LB),(by rw[wL];simpa using gR),trivial⟩ aT5
  refine WC.skip<|cE<|WQ.n<|WC.rg<|WL.m Z<|aA (aN Z Z (BO.add aTZ aTZ))<|WL.a Z<|WL.nil ?_;have hj0:=J6 (o:=mC l u m) (by have:=aY ID;omega)
  have wL:gJ l (n+1)=gJ l n:=by rw[IN,hu]at hj0;show (match mC l (gJ l n).1 l.length with|none=>gJ l n|some j=>((gJ l n).1.set j true,(gJ l n).2++[j]))=_;rw[hj0]
  exact dX (n+1,.slice Ao (iL o).length co) ⟨Z,Z,Z,Z,trivial⟩ ⟨hl,hz,aT5,(by rw[wL,←hu];exact hU),(by rw[wL,←T4];exact ho),trivial⟩ aT5
 have dA:n=l.length:=by have:=aY fH;omega
 refine WC.exit<|cN<|cN<|fK<|WQ.n<|aD<|WL.m Z<|WL.a Z<|aB<|WC.ret ?_;exact WQ.tag _ .fz (.inl ho.base)<|WQ.ret Z (.tmp Z .nil) (by subst dA;unfold fV;rw[←T4];exact ho.freeze nofun)
theorem Ee (l:List bL):∀n,∀j∈(gJ l n).2,j<l.length
 | 0,j,h=>by cases h
 | n+1,j,h=>by
  unfold gJ at h;split at h
  ·exact Ee l n j h
  ·rename_i i hi;rcases aQX.1 h with h|h
   ·exact Ee l n j h
   ·rw[aQR.1 h];exact PC (aP9 _) hi
theorem BC {l:List bL} {k:Nat} (h:k<(fV l).length):(fV l)[k]<l.length:=Ee l l.length _ (aQN h)
def tkN (l:List bL) (n:Int) (j:Nat):Int:=match l[j]? with
 | some x=>if x.who=9 then d8 n x.by_ else n
 | none=>n
theorem Jk {α:Type} {p q:α→Bool} (GA:∀a,q a=true→p a=true):∀{l:List α} {j:α},j∈l→p j=true→q j=false→l.countP q<l.countP p
 | [],_,h,_,_=>by cases h
 | a::l,j,h,hp,hq=>by
  have rN:l.countP q≤l.countP p:=List.countP_mono_left fun x _ hx=>GA x hx;rw[List.countP_cons,List.countP_cons];rcases aRO.1 h with rfl|h
  ·rw[hp,hq];simp;omega
  ·have ih:=Jk GA h hp hq
   cases hqa:q a with
   | true=>rw[GA a hqa];simp;omega
   | false=>
    cases p a<;>simp<;>omega
def mB (l:List bL) (u:List Bool) (i:Nat):Bool:=decide (0≤pl l i)&&!(u.getD i false)
theorem Ot {l:List bL} {u:List Bool}:∀m,m≤l.length→(mC l u m=none→∀i,l.length-m≤i→i<l.length→mB l u i=false)∧∀j,mC l u m=some j→mB l u j=true∧∀i,l.length-m≤i→i<l.length→mB l u i=true→pl l j≤pl l i
 | 0,_=>⟨fun _ i h1 h2=>aTZ,fun j h=>(by cases h)⟩
 | m+1,hm=>by
  obtain⟨ih1,ih2⟩:=Ot (l:=l) (u:=u) m aTZ;have aGL:mC l u (m+1)=I1 l u (mC l u m) (l.length-1-m):=Z;rw[aGL];generalize hi0:l.length-1-m=i0
  have split_i:∀i,l.length-(m+1)≤i→i<l.length→i=i0∨l.length-m≤i:=fun i h1 h2=>by omega
  unfold I1
  cases ho:mC l u m with
  | none=>
   have pD:y7 l u none i0=(mB l u i0&&true):=Z;by_cases hc:mB l u i0=true
   ·rw[pD,hc,if_pos aT0];refine⟨fun h=>(by cases h),fun j h=>?_⟩;obtain rfl:=aQB h;refine⟨hc,fun i h1 h2 h3=>?_⟩;rcases split_i i h1 h2 with rfl|h4
    ·exact aQK _
    ·rw[ih1 ho i h4 h2]at h3;cases h3
   ·have hc:mB l u i0=false:=by simpa using hc
    rw[pD,hc,if_neg aT0];refine⟨fun _ i h1 h2=>?_,fun j h=>(by cases h)⟩;rcases split_i i h1 h2 with rfl|h4
    ·exact hc
    ·exact ih1 ho i h4 h2
  | some j0=>
   have pD:y7 l u (some j0) i0=(mB l u i0&&decide (pl l i0≤pl l j0)):=Z;obtain⟨k1,k2⟩:=ih2 j0 ho;by_cases hc:mB l u i0=true∧pl l i0≤pl l j0
   ·rw[pD,hc.1,aQJ hc.2,if_pos aT0];refine⟨fun h=>(by cases h),fun j h=>?_⟩;obtain rfl:=aQB h;refine⟨hc.1,fun i h1 h2 h3=>?_⟩;rcases split_i i h1 h2 with rfl|h4
    ·exact aQK _
    ·exact Int.le_trans hc.2 (k2 i h4 h2 h3)
   ·have hf:(mB l u i0&&decide (pl l i0≤pl l j0))=false:=by
     cases h1:mB l u i0 with
     | false=>rfl
     | true=>rw[aQS (fun h2=>hc ⟨h1,h2⟩)];rfl
    rw[pD,hf,if_neg aT0];refine⟨fun h=>(by cases h),fun j h=>?_⟩;obtain rfl:=aQB h;refine⟨k1,fun i h1 h2 h3=>?_⟩;rcases split_i i h1 h2 with rfl|h4
    ·have:¬pl l i≤pl l j0:=fun h2=>hc ⟨h3,h2⟩;omega
    ·exact k2 i h4 h2 h3
structure OGo (l:List bL) (n:Nat) (g:List Bool × List Nat):Prop where
 len:g.1.length=l.length
 mem:∀i,i<l.length→(g.1.getD i false=true↔i∈g.2)
 pos:∀i∈g.2,i<l.length∧0≤pl l i
 nd:g.2.Pairwise fun a b=>a≠b
 srt:g.2.Pairwise fun a b=>pl l a≤pl l b
 rest:∀a∈g.2,∀i,i<l.length→mB l g.1 i=true→pl l a≤pl l i
 cnt:(List.range l.length).countP (mB l g.1)+n≤l.length∨∀i,i<l.length→mB l g.1 i=false
theorem PA (l:List bL):∀n,OGo l n (gJ l n)
 | 0=>by
  refine⟨by simp[gJ],fun i hi=>?_,fun i hi=>(by cases hi),aQ4,aQ4,fun a ha=>(by cases ha),.inl ?_⟩
  ·show (List.replicate l.length false).getD i false=true↔i∈[];rw[aQQ,aSE];split<;>simp
  ·have:=List.countP_le_length (p:=mB l (gJ l 0).1) (l:=List.range l.length);rw[aRY]at this;omega
 | n+1=>by
  have g:=PA l n;obtain⟨s1,s2⟩:=Ot (l:=l) (u:=(gJ l n).1) l.length (aP9 _)
  have e:gJ l (n+1)=match mC l (gJ l n).1 l.length with
   | none=>gJ l n
   | some j=>((gJ l n).1.set j true,(gJ l n).2++[j]):=rfl
  rw[e]
  cases ho:mC l (gJ l n).1 l.length with
  | none=>
   exact⟨g.len,g.mem,g.pos,g.nd,g.srt,g.rest,.inr fun i hi=>s1 ho i aTZ hi⟩
  | some j=>
   have hj:=PC (aP9 _) ho;obtain⟨k1,k2⟩:=s2 j ho
   have H2:0≤pl l j∧(gJ l n).1.getD j false=false:=by
    unfold mB at k1;simp only[aQV,decide_eq_true_eq,aR2]at k1;exact k1
   have hnj:j ∉ (gJ l n).2:=fun hm=>by
    have:=(g.mem j hj).2 hm;rw[H2.2]at this;cases this
   have Ca:∀i,((gJ l n).1.set j true).getD i false=if i=j then true else (gJ l n).1.getD i false:=fun i=>by
    split
    ·rename_i e';subst e';rw[aQQ,aQ8 (by rw[g.len];exact hj)];rfl
    ·rename_i e';rw[aQQ,aRN (fun h=>e' h.symm),←aQQ]
   have Mq:∀i,mB l ((gJ l n).1.set j true) i=true→mB l (gJ l n).1 i=true∧i≠j:=fun i hi=>by
    unfold mB at hi ⊢;rw[Ca]at hi;split at hi
    ·simp at hi
    ·rename_i bR;exact⟨hi,bR⟩
   have aFA:mB l ((gJ l n).1.set j true) j=false:=by
    unfold mB;rw[Ca,if_pos rfl];simp
   refine⟨by show ((gJ l n).1.set j true).length=_;rw[aQZ];exact g.len,fun i hi=>?_,fun i hi=>?_,?_,?_,fun a ha i hi hc=>?_,?_⟩
   ·show ((gJ l n).1.set j true).getD i false=true↔i∈(gJ l n).2++[j];rw[Ca,aQX,aQR];split
    ·rename_i e';exact⟨fun _=>.inr e', fun _=>rfl⟩
    ·rename_i e';rw[g.mem i hi];exact⟨fun h=>.inl h,fun h=>by rcases h with h|h;exact h;exact absurd h e'⟩
   ·rcases aQX.1 hi with hi|hi
    ·exact g.pos i hi
    ·rw[aQR.1 hi];exact⟨hj,H2.1⟩
   ·exact aRR.2 ⟨g.nd,aS6 _ _,fun a ha b hb=>by
     rw[aQR.1 hb];rintro rfl
     exact hnj ha⟩
   ·exact aRR.2 ⟨g.srt,aS6 _ _,fun a ha b hb=>by
     rw[aQR.1 hb]
     exact g.rest a ha j hj k1⟩
   ·obtain⟨c1,c2⟩:=Mq i hc;rcases aQX.1 ha with ha|ha
    ·exact g.rest a ha i hi c1
    ·rw[aQR.1 ha];exact k2 i aTZ hi c1
   ·rcases g.cnt with h|h
    ·left;have:=Jk (p:=mB l (gJ l n).1) (q:=mB l ((gJ l n).1.set j true)) (fun a ha=>(Mq a ha).1) (aRZ.2 hj) k1 aFA;show (List.range l.length).countP (mB l ((gJ l n).1.set j true))+(n+1)≤_;omega
    ·rw[h j hj]at k1;cases k1
theorem aID {l:List bL} {i:Nat} (hi:i<l.length) (hp:0≤pl l i):i∈fV l:=by
 have g:=PA l l.length
 have hn:mB l (gJ l l.length).1 i=false:=by
  rcases g.cnt with h|h
  ·have h0:(List.range l.length).countP (mB l (gJ l l.length).1)=0:=by omega
   have:=List.countP_eq_zero.1 h0 i (aRZ.2 hi);simpa using this
  exact h i hi
 unfold mB at hn;rw[aQJ hp,aR4,Bool.not_eq_false']at hn;exact (g.mem i hi).1 hn
theorem Pb (l:List bL):(∀i∈fV l,i<l.length∧0≤pl l i)∧(fV l).Pairwise (fun a b=>a≠b)∧(fV l).Pairwise fun a b=>pl l a≤pl l b:=
 ⟨(PA l l.length).pos,(PA l l.length).nd,(PA l l.length).srt⟩
def aGT (l:List bL) (i:Nat):Bool:=match l[i]? with
 | some x=>decide (x.who=9)
 | none=>false
def I0 (st:Int) (l:List bL) (p:Int):Int:=((List.range l.length).filter fun i=>aGT l i&&decide (pl l i<p)).foldl (tkN l) st
def lO (x:bL):Bool:=!(decide (x.who<8)&&(decide (x.op.kind=4)||decide (x.op.kind=5)))
def lE (n:Nat) (x:bL):Bool:=lO x&&decide (x.placed=(n:Int))
def y9 (l:List bL) (tb:cX) (n:Nat):cX:=match l.find? (lE n) with
 | some x=>kQ tb x
 | none=>tb
def Fh (c:cY):cX:={ PL { c with queue:=1 } with feeds:=List.replicate c.stripes.toNat (nY 901) }
def dR (c:cY) (l:List bL) (p:Nat):cX:=(List.range p).foldl (y9 l) (Fh c)
theorem E0 (c:cY) (l:List bL) (p:Nat):dR c l (p+1)=y9 l (dR c l p) p:=by
 unfold dR;rw[aS7,aRF];rfl
def nM (x:bL):bL:={ x with nth:=0,began:=0,placed:=0,ended:=0,reply:=gA }
theorem U9 (tb:cX) (x:bL):kQ tb (nM x)=kQ tb x:=rfl
theorem aIY {l l' : List bL} {n:Nat} (h:(l.find? (lE n)).map nM=(l'.find? (lE n)).map nM) (tb:cX):y9 l tb n=y9 l' tb n:=by
 unfold y9
 cases e:l.find? (lE n) with
 | none=>
  rw[e]at h
  cases e' : l'.find? (lE n) with
  | none=>rfl
  | some y=>rw[e']at h;cases h
 | some x=>
  rw[e]at h
  cases e' : l'.find? (lE n) with
  | none=>rw[e']at h;cases h
  | some y=>
   rw[e']at h;have h:nM x=nM y:=aQB h;show kQ tb x=kQ tb y;rw[←U9 tb x,h,U9]
theorem P2 {c:cY} {l l' : List bL}:∀{p:Nat},(∀n,n<p→(l.find? (lE n)).map nM=(l'.find? (lE n)).map nM)→dR c l p=dR c l' p
 | 0,_=>rfl
 | p+1,h=>by
  rw[E0,E0,P2 fun n hn=>h n aTZ];exact aIY (h p (aSW _)) _
theorem Hc {c:cY} {l:List bL} {p:Nat}:∀{k:Nat},(∀n,p≤n→n<p+k→l.find? (lE n)=none)→dR c l (p+k)=dR c l p
 | 0,_=>rfl
 | k+1,h=>by
  rw[show p+(k+1)=(p+k)+1 by omega,E0,Hc fun n h1 h2=>h n h1 aTZ];unfold y9;rw[h (p+k) aTZ aTZ]
theorem XI {l:List bL} {n:Nat} (h:∀y∈l,y.placed<(n:Int)):l.find? (lE n)=none:=aSQ.2 fun y hy e=>by
 unfold lE at e;rw[aQV,decide_eq_true_eq]at e;have:=h y hy;omega
theorem ZA {q:bL→Bool} {f:bL→bL}:∀{l:List bL} {j:Nat},(∀x,l[j]?=some x→q (f x)=q x∧nM (f x)=nM x)→((l.modify j f).find? q).map nM=(l.find? q).map nM
 | [],j,_=>by simp
 | x::l,0,h=>by
  obtain⟨h1,h2⟩:=h x Z;rw[List.modify_zero_cons]
  cases e:q x with
  | true=>
   rw[aSP (h1.trans e),aSP e];exact congrArg some h2
  | false=>
   rw[aSO (by rw[h1,e];decide),aSO (by rw[e];decide)]
 | x::l,j+1,h=>by
  rw[List.modify_succ_cons]
  cases e:q x with
  | true=>rw[aSP e,aSP e]
  | false=>
   rw[aSO (by rw[e];decide),aSO (by rw[e];decide)];exact ZA fun y hy=>h y (by simpa using hy)
theorem Lz {q:bL→Bool} {f:bL→bL}:∀{l:List bL} {j:Nat} {x:bL},(∀y∈l,q y=false)→l[j]?=some x→q (f x)=true→(l.modify j f).find? q=some (f x)
 | [],j,x,_,h,_=>by cases h
 | y::l,0,x,_,h,hq=>by
  obtain rfl:y=x:=by simpa using h
  rw[List.modify_zero_cons,aSP hq]
 | y::l,j+1,x,h,hx,hq=>by
  rw[List.modify_succ_cons,aSO (by rw[h y (aRK ..)];decide)];exact Lz (fun z hz=>h z (aRQ _ hz)) (by simpa using hx) hq
theorem aOQ {c:cY} {l:List bL} {n:Nat} (hl:∀y∈l,y.placed<(n:Int)) (x:bL):(∀p,p≤n→(x.placed<0∨x.placed=(n:Int))→dR c (l++[x]) p=dR c l p)∧(x.placed=(n:Int)→lO x=true→dR c (l++[x]) (n+1)=kQ (dR c l n) x):=by
 have h1:∀p,p≤n→(x.placed<0∨x.placed=(n:Int))→dR c (l++[x]) p=dR c l p:=fun p hp hx=>P2 fun m hm=>by
  rw[aTD,aSO (a:=x) (by
   unfold lE;rw[aQV,decide_eq_true_eq];intro h
   omega)]
  cases l.find? (lE m)<;>rfl
 refine⟨h1,fun hx he=>?_⟩;rw[E0,h1 n (aP9 _) (.inr hx)];unfold y9;rw[aTD,XI hl,Option.none_or,aSP (by unfold lE;rw[he,aQJ hx];rfl)]
theorem Ub {c:cY} {l:List bL} (x:bL) (hx:x.placed<0) (p:Nat):dR c (l++[x]) p=dR c l p:=P2 fun m hm=>by
 rw[aTD,aSO (a:=x) (by
  unfold lE;rw[aQV,decide_eq_true_eq];intro h
  omega)]
 cases l.find? (lE m)<;>rfl
theorem Uc {c:cY} {l:List bL} {j:Nat} {f:bL→bL} {x:bL} (hx:l[j]?=some x) (hf:nM (f x)=nM x) (hp:lO x=true→(f x).placed=x.placed) (p:Nat):dR c (l.modify j f) p=dR c l p:=P2 fun m hm=>ZA fun y hy=>by
 rw[hx]at hy;obtain rfl:=aQB hy;refine⟨?_,hf⟩
 have e:lO (f x)=lO x:=show lO (nM (f x))=lO (nM x) from congrArg lO hf
 unfold lE;rw[e]
 cases he:lO x with
 | false=>rfl
 | true=>rw[hp he]
theorem Ud {c:cY} {l:List bL} {n:Nat} (hl:∀y∈l,y.placed<(n:Int)) {j:Nat} {f:bL→bL} {x:bL} (hx:l[j]?=some x) (hf:nM (f x)=nM x) (he:lO x=true) (h0:x.placed<0) (hp:(f x).placed=(n:Int)):(∀p,p≤n→dR c (l.modify j f) p=dR c l p)∧dR c (l.modify j f) (n+1)=kQ (dR c l n) x:=by
 have e:lO (f x)=true:=(show lO (nM (f x))=lO (nM x) from congrArg lO hf).trans he
 have h1:∀p,p≤n→dR c (l.modify j f) p=dR c l p:=fun p F9=>P2 fun m hm=>ZA fun y hy=>by
  rw[hx]at hy;obtain rfl:=aQB hy;refine⟨?_,hf⟩;unfold lE;rw[e,he,aQS aTZ,aQS aTZ]
 refine⟨h1,?_⟩;rw[E0,h1 n (aP9 _)];unfold y9
 rw[Lz (q:=lE n) (f:=f) (fun y hy=>by
  have:=aSQ.1 (XI hl) y hy
  simpa using this) hx (by unfold lE;rw[e,aQJ hp];rfl)]
 show kQ _ (f x)=_;rw[←U9 _ (f x),hf,U9]
theorem He {c:cY} {l:List bL} {n:Nat} (hl:∀y∈l,y.placed<(n:Int)):dR c l (n+1)=dR c l n:=by
 rw[E0];unfold y9;rw[XI hl]
theorem aI4 (tb:cX) {x:bL} (h:lO x=false):kQ tb x=tb:=by
 unfold lO at h;rw[Bool.not_eq_false', aQV,aRW,decide_eq_true_eq,decide_eq_true_eq,decide_eq_true_eq]at h;obtain⟨h8,hk⟩:=h;unfold kQ;rw[if_neg aTZ,if_neg aTZ];unfold fW;split
 ·rfl
 rw[if_neg aTZ,if_neg aTZ];split
 ·rfl
 rcases hk with hk|hk
 ·rw[if_pos hk]
 rw[if_neg aTZ,if_pos hk]
theorem aJW {c:cY} {l:List bL} (hd:∀i j,i<l.length→j<l.length→0≤pl l i→pl l i=pl l j→i=j):∀{k:Nat} (hk:k<(fV l).length),rX c l (fV l) k=dR c l (pl l (fV l)[k]).toNat:=by
 obtain⟨s1,s2,s3⟩:=Pb l;have lH:∀m (hm:m<(fV l).length),(fV l)[m]<l.length∧0≤pl l (fV l)[m]:=fun m hm=>s1 _ (aQN hm)
 have T0:∀a b (ha:a<(fV l).length) (hb:b<(fV l).length),a≤b→pl l (fV l)[a]≤pl l (fV l)[b]:=fun a b ha hb uZ=>by
  rcases aTS uZ with h|h
  ·exact aTX.1 s3 a b ha hb h
  subst h;exact aQK _
 have gap:∀n:Nat,(∀m (hm:m<(fV l).length),pl l (fV l)[m]≠(n:Int))→l.find? (lE n)=none:=fun n h=>aSQ.2 fun y hy e=>by
  unfold lE at e;rw[aQV,decide_eq_true_eq]at e;obtain⟨i,hi,rfl⟩:=aRT hy
  have hp:pl l i=(n:Int):=by rw[GH hi];exact e.2
  obtain⟨m,hm,IN⟩:=aRT (aID hi aTZ);exact h m hm (by rw[IN];exact hp)
 intro k
 induction k with
 | zero=>
  intro hk;have h0:=lH 0 hk
  have:=Hc (c:=c) (l:=l) (p:=0) (k:=(pl l (fV l)[0]).toNat) fun n _ hn=>gap n fun m hm e=>by
   have:=T0 0 m hk hm (aQC _);omega
  rw[aQF]at this;rw[this];rfl
 | succ k ih=>
  intro hk
  have F3 : k<(fV l).length:=by omega
  obtain⟨g1,g2⟩:=lH k F3;obtain⟨g3,g4⟩:=lH (k+1) hk;have rN:=T0 k (k+1) F3 hk aTZ;have bR:pl l (fV l)[k]≠pl l (fV l)[k+1]:=fun e=>aTX.1 s2 k (k+1) F3 hk aTZ (hd _ _ g1 g3 g2 e)
  have hs:rX c l (fV l) (k+1)=kQ (rX c l (fV l) k) l[(fV l)[k]]:=by
   unfold rX;rw[aQY F3, aRF,aRG,List.foldl_nil,aQA g1]
  have h1:dR c l ((pl l (fV l)[k]).toNat+1)=kQ (dR c l (pl l (fV l)[k]).toNat) l[(fV l)[k]]:=by
   rw[E0];have hn:(((pl l (fV l)[k]).toNat:Nat):Int)=pl l (fV l)[k]:=Int.toNat_of_nonneg g2
   have uniq:∀y∈l,lE (pl l (fV l)[k]).toNat y=true→y=l[(fV l)[k]]:=fun y hy e=>by
    unfold lE at e;rw[aQV,decide_eq_true_eq,hn]at e;obtain⟨i,hi,rfl⟩:=aRT hy;have:=hd _ i g1 hi g2 (by rw[GH hi];exact e.2.symm);subst this;rfl
   unfold y9
   cases he:lO l[(fV l)[k]] with
   | false=>
    rw[aI4 _ he]
    rw[aSQ.2 fun y hy e=>by
     have:=uniq y hy e;unfold lE at e;rw[this,he]at e
     cases e]
   | true=>
    have hq:lE (pl l (fV l)[k]).toNat l[(fV l)[k]]=true:=by
     unfold lE;rw[he,hn,GH g1,aQJ rfl];rfl
    cases hf:l.find? (lE (pl l (fV l)[k]).toNat) with
    | none=>exact absurd hq (aSQ.1 hf _ (aQN g1))
    | some y=>
     rw[uniq y (List.mem_of_find?_eq_some hf) (List.find?_some hf)]
  rw[hs,ih F3, ←h1]
  have:=Hc (c:=c) (l:=l) (p:=(pl l (fV l)[k]).toNat+1) (k:=(pl l (fV l)[k+1]).toNat-((pl l (fV l)[k]).toNat+1)) fun n h2 h3=>gap n fun m hm e=>by
   rcases aSU k m with h|h
   ·have:=T0 (k+1) m hk hm h;omega
   have:=T0 m k hm F3 h;omega
  rw[←this];congr 1;omega
def qU (r:cM):cM:={ r with n:=r.n+1 }
def rB (r:cM) (i:Nat) (d:eM):cM:=rW (GI r i d (d.ops.getD d.at_ fA)).1 i (GI r i d (d.ops.getD d.at_ fA)).2
structure uQ (K J:cM→Prop):Prop where
 idle:∀r,K r→J r→J (qU r)
 beg:∀r i d,K r→J r→r.clients[i]?=some d→d.now=none→d.at_<d.ops.length→J (rB r i d)
 move:∀r i d p,K r→J r→r.clients[i]?=some d→d.now=some p→BD r.h p=true→J (qU (oS r i d p))
 swb:∀r,K r→J r→r.sweep<0→j6 r.h r.sw.now=true→ET r=true→J (eU r)
 swm:∀r,K r→J r→0≤r.sweep→j6 r.h r.sw.now=true→J (qU (wU r))
 tick:∀r b,K r→J r→0≤b→b≤18446744073709551615→J (qU (xU r b))
theorem uQ.and {K J:cM→Prop} (a:uQ (fun _=>True) K) (b:uQ K J):uQ (fun _=>True) (fun r=>K r∧J r) where
 idle r _ h:=⟨a.idle r trivial h.1,b.idle r h.1 h.2⟩
 beg r i d _ h h1 h2 h3:=⟨a.beg r i d trivial h.1 h1 h2 h3,b.beg r i d h.1 h.2 h1 h2 h3⟩
 move r i d p _ h h1 h2 h3:=⟨a.move r i d p trivial h.1 h1 h2 h3,b.move r i d p h.1 h.2 h1 h2 h3⟩
 swb r _ h h1 h2 h3:=⟨a.swb r trivial h.1 h1 h2 h3,b.swb r h.1 h.2 h1 h2 h3⟩
 swm r _ h h1 h2:=⟨a.swm r trivial h.1 h1 h2,b.swm r h.1 h.2 h1 h2⟩
 tick r b' _ h h1 h2:=⟨a.tick r b' trivial h.1 h1 h2,b.tick r b' h.1 h.2 h1 h2⟩
theorem Sq {α:Type} {l:List α} {i:Nat} {a:α} (h:l[i]?=some a):l.set i a=l:=by
 refine aTM fun j=>?_;by_cases e:i=j
 ·subst e;rw[aQ8 (aQG.1 h).1,h]
 rw[aRN e]
theorem Qn {r:cM} {i:Nat} {d:eM} (h:r.clients[i]?=some d):rW r i d=r:=by
 unfold rW;rw[Sq h]
theorem Pv {r:cM} {i:Nat} {d:eM} (h:r.clients[i]?=some d):(rB r i d).clients[i]?=some (GI r i d (d.ops.getD d.at_ fA)).2:=aQ8 (aQG.1 h).1
theorem aJK (r:cM) (i:Nat) (d:eM) (p:fP):oS (rW r i d) i d p=oS r i d p:=by
 unfold oS rW;simp only[List.set_set]
theorem VC {r:cM} {i:Nat} {d:eM} (h:n6 d=true):fI r i d=GI r i d (d.ops.getD d.at_ fA):=by
 unfold fI;rw[if_pos h]
theorem aJO {r:cM} {i:Nat} {d:eM} (h:n6 d=false):fI r i d=(r,d):=by
 unfold fI;rw[if_neg (by rw[h];decide)]
theorem uQ.step {J:cM→Prop} (a:uQ (fun _=>True) J) {r:cM} (h:J r) {p:z5} (h0:0≤p.by_) (h1:p.by_≤18446744073709551615):J (JF r p).1:=by
 show J (qU (lU r p).1);unfold lU;split
 ·by_cases ho:p.who<0∨(r.clients.length:Int)≤p.who
  ·rw[show oZ r p.who=(r,false) by unfold oZ;rw[if_pos ho]];exact a.idle r trivial h
  obtain⟨i,hi⟩:=aRS (show 0≤p.who by omega);rw[hi]at ho ⊢
  have aW:i<r.clients.length:=by omega
  have jY:=aQA aW;generalize r.clients[i]=d at jY
  cases hb:n6 d with
  | true=>
   obtain⟨n1,n2⟩:=Fa hb;have hB:=a.beg r i d trivial h jY n1 n2
   have tY:(fI r i d).2.now=some (lA r.h i (d.ops.getD d.at_ fA)):=by rw[VC hb];rfl
   have hrb:rB r i d=rW (fI r i d).1 i (fI r i d).2:=by rw[VC hb];rfl
   cases he:BD r.h (lA r.h i (d.ops.getD d.at_ fA)) with
   | false=>
    rw[RH jY tY he];show J (qU (rW (fI r i d).1 i (fI r i d).2));rw[←hrb];exact a.idle _ trivial hB
   | true=>
    rw[M9 jY tY he];show J (qU (oS (fI r i d).1 i (fI r i d).2 _));rw[←aJK,←hrb];have kU:=Pv jY;rw[←VC hb]at kU;exact a.move _ i _ _ trivial hB kU tY (by show BD r.h _=true;exact he)
  | false=>
   have e:=aJO (r:=r) (i:=i) hb
   cases hn:d.now with
   | none=>
    rw[XD jY (by rw[e];exact hn),e];show J (qU (rW r i d));rw[Qn jY];exact a.idle _ trivial h
   | some q=>
    cases he:BD r.h q with
    | false=>
     rw[RH jY (by rw[e];exact hn) he,e];show J (qU (rW r i d));rw[Qn jY];exact a.idle _ trivial h
    | true=>
     rw[M9 jY (by rw[e];exact hn) he,e];exact a.move _ i _ _ trivial h jY hn he
 split
 ·unfold uO;split
  ·exact a.idle _ trivial h
  rename_i hn
  have he:j6 r.h r.sw.now=true:=by
   cases e:j6 r.h r.sw.now
   ·exact absurd (.inl e) hn
   rfl
  by_cases hs:r.sweep<0
  ·have hp:ET r=true:=by
    cases e:ET r
    ·exact absurd (.inr ⟨hs,e⟩) hn
    rfl
   obtain⟨e1,e2,e3,e4⟩:=L7 r;refine a.swm _ trivial (a.swb _ trivial h hs he hp) ?_ (by rw[e1,e4];exact he);unfold eU;rw[if_pos hs];exact aRD _
  have:eU r=r:=by
   unfold eU;rw[if_neg hs]
  rw[this];exact a.swm _ trivial h aTZ he
 split
 ·exact a.tick _ _ trivial h h0 h1
 exact a.idle _ trivial h
theorem uQ.play {J:cM→Prop} (a:uQ (fun _=>True) J) {s:iI} (hw:vY s) {fp:Nat→Nat} (h:J (zG s fp)):∀k,k≤s.picks.length→J (iY s fp k)
 | 0,_=>h
 | k+1,hk=>by
  rw[Ru hk];have hb:=hw.by_ _ (aQN hk);exact a.step (uQ.play a hw h k aTZ) hb.1 hb.2
variable {c:cY} {h:bF} {k:Nat}
theorem Hm (h:bF) (p:fE) (i:Nat):(jV h p i).2.who=p.who∧(jV h p i).2.s=p.s∧(jV h p i).2.act=p.act∧(jV h p i).2.placed=p.placed∧(jV h p i).2.at_=p.at_:=by
 rcases i with _|_|_|_|_|_|i<;>first|exact⟨rfl,rfl,rfl,rfl,rfl⟩|skip
 cases e:p.act with
 | bad=>simp only[jV,e];exact⟨trivial,trivial,trivial,trivial,trivial⟩
 | wr x=>simp only[jV,e];exact⟨trivial,trivial,trivial,trivial,trivial⟩
 | sw=>simp only[jV,e];exact⟨trivial,trivial,trivial,trivial,trivial⟩
theorem MM (h:bF) (p:fE) (pos:Int):(dQ h p pos).2.who=p.who∧(dQ h p pos).2.s=p.s∧(dQ h p pos).2.act=p.act∧((dQ h p pos).2.placed=p.placed∨(dQ h p pos).2.placed=pos):=by
 unfold dQ;split
 ·exact⟨Z,Z,Z,.inl Z⟩
 split
 ·exact⟨Z,Z,Z,.inr Z⟩
 obtain⟨a,b,d,e,_⟩:=Hm h (if p.at_=2 then { p with placed:=pos } else p) p.at_;refine⟨a.trans ?_,b.trans ?_,d.trans ?_,?_⟩
 ·split<;>rfl
 ·split<;>rfl
 ·split<;>rfl
 show (jV h _ p.at_).2.placed=_∨(jV h _ p.at_).2.placed=_;rw[e];split
 ·exact .inr Z
 exact .inl Z
theorem ZL (h:bF) (m:eO) (p:dG) (a:fD):(eF h m p a).2.2.1.who=p.who∧(eF h m p a).2.2.1.s=p.s∧(eF h m p a).2.2.1.op=p.op∧(eF h m p a).2.2.1.acts=p.acts∧(eF h m p a).2.2.1.placed=p.placed∧(eF h m p a).2.2.1.at_=p.at_:=by
 cases a<;>first|exact⟨rfl,rfl,rfl,rfl,rfl,rfl⟩|skip
 simp only[eF];split
 ·exact⟨Z,Z,Z,Z,Z,Z⟩
 split<;>exact⟨rfl,rfl,rfl,rfl,rfl,rfl⟩
theorem TN (h:bF) (m:eO) (p:dG) (pos:Int):(fR h m p pos).2.2.who=p.who∧(fR h m p pos).2.2.s=p.s∧(fR h m p pos).2.2.op=p.op∧(fR h m p pos).2.2.acts=p.acts∧((fR h m p pos).2.2.placed=p.placed∨(fR h m p pos).2.2.placed=pos):=by
 unfold fR;split
 ·exact⟨Z,Z,Z,Z,.inl Z⟩
 cases e:p.acts[p.at_]? with
 | none=>exact⟨rfl,rfl,rfl,rfl,.inl rfl⟩
 | some a=>
  obtain⟨h1,h2,h3,h4,h5,_⟩:=ZL h m p a;refine⟨h1,h2,h3,h4,?_⟩;show (if _ then pos else _)=_∨(if _ then pos else _)=_;split
  ·exact .inr Z
  exact .inl h5
theorem Qj (p:cL):(oR p).who=p.who∧(oR p).users=p.users∧(oR p).looked=p.looked∧((oR p).placed=p.placed∨(oR p).placed=p.looked)∧((oR p).phase=8∨(oR p).phase=4∨(oR p).phase=0):=by
 unfold oR f8 GJ;split
 ·split<;>exact⟨rfl,rfl,rfl,.inr rfl,.inl rfl⟩
 split
 ·exact⟨Z,Z,Z,.inl Z,.inr (.inl Z)⟩
 exact⟨Z,Z,Z,.inl Z,.inr (.inr Z)⟩
theorem ER (p:cL) (ph:Nat):(fB p ph).1.who=p.who∧(fB p ph).1.users=p.users∧(fB p ph).1.looked=p.looked∧(fB p ph).1.placed=p.placed∧((fB p ph).1.phase=p.phase∧(fB p ph).2=false∨(fB p ph).1.phase=ph∧(fB p ph).2=true):=by
 unfold fB;split
 ·exact⟨Z,Z,Z,Z,.inl ⟨Z,Z⟩⟩
 exact⟨Z,Z,Z,Z,.inr ⟨Z,Z⟩⟩
theorem Pu (p:cL):(f8 p).who=p.who∧(f8 p).users=p.users∧(f8 p).looked=p.looked∧(f8 p).placed=p.looked∧(f8 p).phase=p.phase:=by
 unfold f8;split<;>exact⟨rfl,rfl,rfl,rfl,rfl⟩
def zA (p:cL) (b n:Int):Prop:=(p.phase=3∨p.phase=6∨p.phase=7)→b≤p.looked∧p.looked<n
def Pl (b n x:Int):Prop:=x=-1∨b≤x∧x<n
theorem Pl.mono {b n n' x:Int} (h:Pl b n x) (hn:n≤n'):Pl b n' x:=by
 rcases h with h|h
 ·exact .inl h
 exact .inr aTZ
theorem Qk {p:cL} {b n:Int} (h:p.phase≠3∧p.phase≠6∧p.phase≠7):zA p b n:=fun hh=>by omega
theorem Fe {q:cL} {ph:Nat} {b n:Int} (h1:q.phase≠3∧q.phase≠6∧q.phase≠7) (h2:ph≠3∧ph≠6∧ph≠7):zA (fB q ph).1 b n:=Qk (by
 have:=(ER q ph).2.2.2.2
 omega)
theorem PK {p:cL} {b n:Int} (h:b≤p.looked∧p.looked<n):zA p b n:=fun _=>h
theorem aJB (h:bF) (p:cL) {b pos n:Int} (h0:b≤pos) (hn:pos<n) (hl:zA p b pos) (hp:Pl b pos p.placed):(iO h p pos).2.who=p.who∧(iO h p pos).2.users=p.users∧zA (iO h p pos).2 b n∧Pl b n (iO h p pos).2.placed:=by
 have tZ:Pl b n p.placed:=hp.mono aTZ
 have nx:∀(q:cL) (ph:Nat),q.who=p.who→q.users=p.users→q.placed=p.placed→zA (fB q ph).1 b n→(fB q ph).1.who=p.who∧(fB q ph).1.users=p.users∧zA (fB q ph).1 b n∧Pl b n (fB q ph).1.placed:=fun q ph e1 e2 e3 e4=>by
  obtain⟨a,b', d,e,f⟩:=ER q ph;refine⟨a.trans e1,b'.trans e2,e4,?_⟩;rw[e,e3];exact tZ
 have look:zA p b pos→(oQ h p pos).2.who=p.who∧(oQ h p pos).2.users=p.users∧zA (oQ h p pos).2 b n∧Pl b n (oQ h p pos).2.placed:=fun _=>by
  refine⟨Z,Z,PK ⟨h0,hn⟩,?_⟩;show Pl b n (if _ then pos else p.placed);split
  ·exact .inr ⟨h0,hn⟩
  exact tZ
 unfold iO;split
 ·rename_i e0;exact nx _ 1 Z Z Z (Fe (by show p.phase≠3∧p.phase≠6∧p.phase≠7;omega) aT0)
 ·rename_i e0;exact nx _ 2 Z Z Z (Fe (by show p.phase≠3∧p.phase≠6∧p.phase≠7;omega) aT0)
 ·exact look hl
 ·rename_i e3;have F4:=hl (.inl e3);generalize hp1:({ p with valid:=p.valid&&decide (p.epochs.getD p.at_ 0=(aR h (rS p)).cv∧p.epochs.getD p.at_ 0%2=0∧p.epochs.getD p.at_ 0<gX h.cfg.epochs) }:cL)=p1
  have q1:p1.who=p.who∧p1.users=p.users∧p1.looked=p.looked∧p1.placed=p.placed:=by rw[←hp1];exact⟨Z,Z,Z,Z⟩
  have ed:(I4 h p).2=if (fB p1 8).2=true then oR (fB p1 8).1 else (fB p1 8).1:=by rw[←hp1];rfl
  rw[ed];obtain⟨a,b', d,e,f⟩:=ER p1 8;split
  ·obtain⟨a2,b2,d2,e2,f2⟩:=Qj (fB p1 8).1;rw[d,q1.2.2.1,e,q1.2.2.2]at e2;refine⟨(a2.trans a).trans q1.1,(b2.trans b').trans q1.2.1,Qk aTZ,?_⟩;rcases e2 with e2|e2
   ·rw[e2];exact tZ
   exact .inr aTZ
  exact nx p1 8 q1.1 q1.2.1 q1.2.2.2 (PK (by rw[d,q1.2.2.1];omega))
 ·rename_i e4;exact nx _ 5 Z Z Z (Fe aTZ aT0)
 ·exact look hl
 ·rename_i e6;have F4:=hl (.inr (.inl e6));exact nx _ 7 Z Z Z (PK (by rw[(ER _ 7).2.2.1];show b≤p.looked∧p.looked<n;omega))
 ·rename_i e7;have F4:=hl (.inr (.inr e7));have ed:(I5 h p).2=if (fB p 8).2=true then f8 (fB p 8).1 else (fB p 8).1:=Z;rw[ed];obtain⟨a,b', d,e,f⟩:=ER p 8;split
  ·obtain⟨a2,b2,d2,e2,f2⟩:=Pu (fB p 8).1;exact⟨a2.trans a,b2.trans b', PK (by rw[d2,d];omega),.inr (by rw[e2,d];omega)⟩
  exact nx p 8 Z Z Z (PK (by rw[d];omega))
 exact⟨Z,Z,fun hh=>by have:=hl hh;show b≤p.looked∧p.looked<n;omega,tZ⟩
theorem aJU (h:bF) (p:cL) {b pos n:Int} (h0:b≤pos) (hn:pos<n) (hl:zA p b pos) (hp:Pl b pos p.placed):(jR h p pos).2.who=p.who∧(jR h p pos).2.users=p.users∧zA (jR h p pos).2 b n∧Pl b n (jR h p pos).2.placed:=by
 unfold jR;split
 ·exact⟨Z,Z,fun hh=>by have:=hl hh;show b≤p.looked∧p.looked<n;omega,hp.mono aTZ⟩
 split
 ·refine⟨Z,Z,fun hh=>?_,.inr ⟨h0,hn⟩⟩;have hh:(8:Nat)=3∨(8:Nat)=6∨(8:Nat)=7:=hh;omega
 exact aJB h p h0 hn hl hp
def PM (c:cY) (i:Nat) (x:dE):fP→Prop
 | .w p=>(x.kind=1∨x.kind=2∨x.kind=3)∧p.who=(i:Int)∧p.s=(eZ x.user c.stripes).toNat∧p.act=if dH x=true then .bad else .wr x
 | .r p=>(x.kind=4∨x.kind=5)∧p.who=i∧p.users=jB x
 | .d p=>¬(x.kind=1∨x.kind=2∨x.kind=3)∧¬(x.kind=4∨x.kind=5)∧p.who=i∧p.s=(eZ x.user c.stripes).toNat∧p.op=x
def PB (b n:Int):fP→Prop
 | .w p=>Pl b n p.placed
 | .r p=>Pl b n p.placed∧zA p b n
 | .d p=>Pl b n p.placed
theorem PB.pl {b n:Int} {p:fP} (h:PB b n p):Pl b n (tB p):=by
 cases p with
 | w p=>exact h
 | r p=>exact h.1
 | d p=>exact h
theorem PB.mono {b n n' : Int} {p:fP} (h:PB b n p) (hn:n≤n'):PB b n' p:=by
 cases p with
 | w p=>exact Pl.mono h hn
 | r p=>exact⟨h.1.mono hn,fun hh=>by have:=h.2 hh;omega⟩
 | d p=>exact Pl.mono h hn
theorem aIM (hc:h.cfg=c) (i:Nat) (x:dE):PM c i x (lA h i x):=by
 unfold lA;rw[hc];split
 ·rename_i h1;exact⟨h1,Z,Z,Z⟩
 rename_i h1;split
 ·rename_i h2;exact⟨h2,Z,Z⟩
 rename_i h2;exact⟨h1,h2,Z,Z,Z⟩
theorem aIG (h:bF) (i:Nat) (x:dE) (b n:Int):PB b n (lA h i x)∧tB (lA h i x)=-1:=by
 unfold lA;split
 ·exact⟨.inl Z,Z⟩
 split
 ·exact⟨⟨.inl Z,fun hh=>by
   have hh:(0:Nat)=3∨(0:Nat)=6∨(0:Nat)=7:=hh
   omega⟩,rfl⟩
 exact⟨.inl Z,Z⟩
theorem Es {i:Nat} {x:dE} {p:fP} (h:bF) (m:eO) {b pos n:Int} (h0:b≤pos) (hn:pos<n) (hm:PM c i x p) (hb:PB b pos p):PM c i x (fC h m pos p).2.2∧PB b n (fC h m pos p).2.2:=by
 have pl:∀{y z:Int},Pl b pos z→y=z∨y=pos→Pl b n y:=fun hz h=>by
  rcases h with rfl|rfl
  ·exact hz.mono aTZ
  exact .inr ⟨h0,hn⟩
 cases p with
 | w p=>
  obtain⟨a,b', d,e⟩:=MM h p pos;obtain⟨m1,m2,m3,m4⟩:=hm;exact⟨⟨m1,a.trans m2,b'.trans m3,d.trans m4⟩,pl hb e⟩
 | r p=>
  obtain⟨m1,m2,m3⟩:=hm;obtain⟨a,b', d,e⟩:=aJU h p h0 hn hb.2 hb.1;exact⟨⟨m1,a.trans m2,b'.trans m3⟩,e,d⟩
 | d p=>
  obtain⟨a,b', d,_,e⟩:=TN h m p pos;obtain⟨m1,m2,m3,m4,m5⟩:=hm;exact⟨⟨m1,m2,a.trans m3,b'.trans m4,d.trans m5⟩,pl hb e⟩
variable {c:cY} {h:bF} {k:Nat}
theorem rU {α:Type} {l:List α} {j m:Nat} {f:α→α} {y:α} (h:(l.modify j f)[m]?=some y):∃z,l[m]?=some z∧y=if j=m then f z else z:=by
 rw[aTO]at h
 cases e:l[m]? with
 | none=>rw[e]at h;cases h
 | some z=>
  rw[e]at h;exact⟨z,Z,by simpa using h.symm⟩
theorem vK {α:Type} {l:List α} {j m:Nat} {f:α→α} {z:α} (h:l[m]?=some z):(l.modify j f)[m]?=some (if j=m then f z else z):=by
 rw[aTO,h];rfl
theorem p8 {α:Type} {l:List α} {m:Nat} {x y:α} (h:(l++[x])[m]?=some y):l[m]?=some y∨m=l.length∧y=x:=by
 by_cases e:m<l.length
 ·rw[aRI e]at h;exact .inl h
 rw[aQ7 aTZ]at h;right;have:m-l.length<[x].length:=(aQG.1 h).1
 have e2:m=l.length:=by simp at this;omega
 subst e2;simp at h;exact⟨Z,h.symm⟩
theorem J5 {α:Type} {l:List α} {m:Nat} {x y:α} (h:l[m]?=some y):(l++[x])[m]?=some y:=by
 rw[aRI (aQG.1 h).1,h]
theorem Im {α:Type} (l:List α) (x:α):(l++[x])[l.length]?=some x:=by simp
theorem BJ {α:Type} {l:List α} {i m:Nat} {x y:α} (h:(l.set i x)[m]?=some y):m=i∧y=x∨m≠i∧l[m]?=some y:=by
 by_cases e:i=m
 ·subst e
  have hi:i<l.length:=by
   have:=(aQG.1 h).1
   rwa [aQZ]at this
  rw[aQ8 hi]at h;exact .inl ⟨Z,(aQB h).symm⟩
 rw[aRN e]at h;exact .inr ⟨fun e' => e e'.symm,h⟩
theorem Sp {α:Type} {l:List α} {i m:Nat} {x y:α} (h:l[m]?=some y) (e:m≠i):(l.set i x)[m]?=some y:=by
 rw[aRN (fun e' => e e'.symm),h]
def p7 (c:cY) (r:cM):Prop:=∃k,HI c r.h k∧mK c r k
structure q8 (c:cY) (r:cM):Prop where
 ci:CI c
 k:p7 c r
 n0:0≤r.n
 cur:∀(i:Nat) (d:eM) (p:fP),r.clients[i]?=some d→d.now=some p→0≤d.call∧∃x,r.calls[d.call.toNat]?=some x∧PB x.began r.n p∧x.who=(i:Int)∧x.ended=-1∧x.placed=tB p∧PM c i x.op p
 open_:∀(j:Nat) (x:bL),r.calls[j]?=some x→x.who<8→x.ended<0→∃(i:Nat) (d:eM),(i:Int)=x.who∧r.clients[i]?=some d∧d.now≠none∧d.call=(j:Int)
 bd:∀x∈r.calls,0≤x.who∧0≤x.began∧x.began≤r.n∧Pl x.began r.n x.placed∧-1≤x.ended∧x.ended<r.n
 swc:0≤r.sweep→∃x,r.calls[r.sweep.toNat]?=some x∧x.who=8∧x.ended=-1∧Pl x.began r.n r.sw.now.placed∧x.placed=r.sw.now.placed∧x.stripe=(r.sw.stripe:Int)
 sww:r.sw.now.who=8∧r.sw.now.s=r.sw.stripe∧r.sw.now.act=.sw
 swn:r.sweep<0→r.sw.now=zO r.sw.stripe
theorem q8.who8 {r:cM} (g:q8 c r) {i:Nat} {d:eM} (h:r.clients[i]?=some d):i<8:=by
 obtain⟨k,_,q⟩:=g.k;have:=(aQG.1 h).1;have:=q.nc;omega
theorem p7.inc {r:cM} (g:p7 c r):p7 c (qU r):=by
 obtain⟨k,g,q⟩:=g;exact⟨k,g,q.nc,q.cl,q.ca,q.cs,q.st,q.sw,q.rd,q.sv,q.tk,q.sc⟩
theorem L3 (r:cM) (i:Nat) (d:eM):(rB r i d).calls=r.calls++[nL r ⟨i,d.at_,d.ops.getD d.at_ fA,0,0,0,0,0,gA⟩]∧(rB r i d).h=r.h∧(rB r i d).n=r.n∧(rB r i d).sw=r.sw∧(rB r i d).sweep=r.sweep∧(rB r i d).clients=r.clients.set i (GI r i d (d.ops.getD d.at_ fA)).2:=⟨rfl,rfl,rfl,rfl,rfl,rfl⟩
theorem p7.beg (ci:CI c) {r:cM} (g:p7 c r) {i:Nat} {d:eM} (hd:r.clients[i]?=some d) (h1:d.now=none) (h2:d.at_<d.ops.length):p7 c (rB r i d):=by
 obtain⟨k,g,q⟩:=g
 have hb:n6 d=true:=by
  unfold n6;rw[h1,aQJ aTZ];rfl
 obtain⟨a,b⟩:=VB ci g.cfg q hd;rw[VC hb]at a b;exact⟨k+1,g.mono (aQI _),a.set i (b.mono (aQI _) (aP9 _))⟩
theorem p7.move (ci:CI c) {r:cM} (g:p7 c r) {i:Nat} {d:eM} {p:fP} (hd:r.clients[i]?=some d) (hn:d.now=some p):p7 c (oS r i d p):=by
 obtain⟨k,g,q⟩:=g;have m:=q.cl d (aQL hd);have hp:=En ci g d.mine r.n (m.now p hn);refine⟨k+1,hp.1,(q.mono.modify _ _ (fun x hx=>Jd hx _ hp.2) _).set i ⟨m.ol,m.op,fun p' h' => ?_,fun h' => ?_⟩⟩
 ·simp only at h';split at h'
  ·cases h'
  obtain rfl:=aQB h';exact hp.2
 show 0≤d.call∧_<((r.calls.modify _ _).length:Int);rw[aR8];exact m.call aVF
theorem p7.swb {r:cM} (g:p7 c r) (hs:r.sweep<0):p7 c (eU r):=by
 obtain⟨k,g,q⟩:=g;obtain⟨e1,e2,e3,e4⟩:=L7 r;refine⟨k+1,by rw[e1];exact g.mono (aQI _),?_⟩;unfold eU;rw[if_pos hs];have b:=q.began (RF PG 8 r.sweeps r.sw.stripe 0 0 0 0);refine⟨b.nc,b.cl,b.ca,b.cs,b.st,b.sw,b.rd,⟨by have:=q.sv.1;show 0≤r.sweeps+1;omega,by have:=q.sv.2;show r.sweeps+1≤_;omega⟩,b.tk,?_⟩;show (r.calls.length:Int)<((jH r _).calls.length:Int);simp[jH];omega
theorem aNW {p:tL} {pos:Int} (hd:lC (dQ h p.now pos).2=true):pM h p pos=((dQ h p.now pos).1,⟨xY p (dQ h p.now pos).1.cfg.stripes,xZ p (dQ h p.now pos).1.cfg.stripes,zO (xY p (dQ h p.now pos).1.cfg.stripes)⟩,true):=by
 unfold pM;dsimp only;rw[if_pos hd]
theorem aNX {p:tL} {pos:Int} (hd:lC (dQ h p.now pos).2=false):pM h p pos=((dQ h p.now pos).1,{ p with now:=(dQ h p.now pos).2 },false):=by
 unfold pM;dsimp only;rw[if_neg (by rw[hd];decide)]
theorem I8 {r:cM} (hd:lC (dQ r.h r.sw.now r.n).2=true):wU r={ r with h:=(dQ r.h r.sw.now r.n).1,sw:=⟨xY r.sw (dQ r.h r.sw.now r.n).1.cfg.stripes,xZ r.sw (dQ r.h r.sw.now r.n).1.cfg.stripes,zO (xY r.sw (dQ r.h r.sw.now r.n).1.cfg.stripes)⟩,sweep:=-1,calls:=r.calls.modify r.sweep.toNat fun x=>{ x with ended:=r.n } }:=by
 unfold wU;rw[aNW hd];rfl
theorem I9 {r:cM} (hd:lC (dQ r.h r.sw.now r.n).2=false):wU r={ r with h:=(dQ r.h r.sw.now r.n).1,sw:={ r.sw with now:=(dQ r.h r.sw.now r.n).2 },calls:=r.calls.modify r.sweep.toNat fun x=>{ x with placed:=(dQ r.h r.sw.now r.n).2.placed } }:=by
 unfold wU;rw[aNX hd];rfl
theorem p7.swm (ci:CI c) {r:cM} (g:p7 c r):p7 c (wU r):=by
 obtain⟨k,g,q⟩:=g;obtain⟨h1,h2⟩:=Hn g q.sw r.n;refine⟨k+1,?_⟩
 cases hd:lC (dQ r.h r.sw.now r.n).2 with
 | true=>
  rw[I8 hd,h1.cfg];have m:=q.mono.modify r.sweep.toNat (fun x=>{ x with ended:=r.n }) (fun x hx=>⟨hx.ul,hx.vl,hx.el⟩) (dQ r.h r.sw.now r.n).1;refine⟨h1,m.nc,m.cl,m.ca,m.cs,VW ci q.st,Gt (VW ci q.st),?_,m.sv,m.tk,by show (-1:Int)<_;omega⟩;show 0≤xZ _ _∧xZ _ _≤_;have r0:=q.rd;unfold xZ;split<;>constructor<;>omega
 | false=>
  rw[I9 hd];have m:=q.mono.modify r.sweep.toNat (fun x=>{ x with placed:=(dQ r.h r.sw.now r.n).2.placed }) (fun x hx=>⟨hx.ul,hx.vl,hx.el⟩) (dQ r.h r.sw.now r.n).1;exact⟨h1,m.nc,m.cl,m.ca,m.cs,m.st,h2,m.rd,m.sv,m.tk,m.sc⟩
theorem p7.tick {r:cM} (g:p7 c r) {b:Int} (hb:0≤b):p7 c (xU r b):=by
 obtain⟨k,g,q⟩:=g;have:=Qw g q hb;exact⟨k+1,this.1,this.2⟩
theorem KC (x:bL) (n:Int) (p:fP):(iR x n p).who=x.who∧(iR x n p).op=x.op∧(iR x n p).began=x.began∧(iR x n p).placed=tB p∧(rV p=false→(iR x n p).ended=x.ended∧(iR x n p).reply=x.reply)∧(rV p=true→(iR x n p).ended=n∧(iR x n p).reply=BE p):=by
 unfold iR;split
 ·rename_i h;exact⟨Z,Z,Z,Z,fun h' => (by rw[h]at h'; cases h'),fun _=>⟨Z,Z⟩⟩
 rename_i h;exact⟨Z,Z,Z,Z,fun _=>⟨Z,Z⟩,fun h' => absurd h' h⟩
theorem M5 {x:bL} {n:Int} (h:0≤x.who∧0≤x.began∧x.began≤n∧Pl x.began n x.placed∧-1≤x.ended∧x.ended<n):0≤x.who∧0≤x.began∧x.began≤n+1∧Pl x.began (n+1) x.placed∧-1≤x.ended∧x.ended<n+1:=
 ⟨h.1,h.2.1,by omega,h.2.2.2.1.mono aTZ,h.2.2.2.2.1,by omega⟩
theorem Gr (ci:CI c):uQ (fun _=>True) (q8 c) where
 idle r _ g:=⟨ci,g.k.inc,by have:=g.n0;show 0≤r.n+1;omega,fun i d p h1 h2=>by
   obtain⟨a,x,hx,b,e⟩:=g.cur i d p h1 h2
   exact⟨a,x,hx,b.mono aUS,e⟩,g.open_,fun x hx=>M5 (g.bd x hx),fun hs=>by
   obtain⟨x,hx,h1,h2,h3,h4⟩:=g.swc hs
   exact⟨x,hx,h1,h2,h3.mono aUS,h4⟩,g.sww,g.swn⟩
 beg r i d _ g hd hn ho:=by
  obtain⟨e1,e2,e3,e4,e5,e6⟩:=L3 r i d;obtain⟨k,g1,q⟩:=g.k;have n0:=g.n0;refine⟨ci,g.k.beg ci hd hn ho,g.n0,fun j d' p hj hp=>?_,fun j x hj hw he=>?_,fun x hx=>?_,fun hs=>?_,g.sww,g.swn⟩
  ·rw[e1];rcases BJ hj with ⟨rfl,rfl⟩|⟨bR,hj⟩
   ·obtain rfl:lA r.h j (d.ops.getD d.at_ fA)=p:=aQB hp;obtain⟨b1,b2⟩:=aIG r.h j (d.ops.getD d.at_ fA) r.n r.n;exact⟨aRD _,_,Im _ _,b1,Z,Z,b2.symm,aIM g1.cfg _ _⟩
   ·obtain⟨a,x,hx,hr⟩:=g.cur j d' p hj hp;exact⟨a,x,J5 hx,hr⟩
  ·rw[e1]at hj;rcases p8 hj with hj|⟨rfl,rfl⟩
   ·obtain⟨i', d', a,b,b2,b3⟩:=g.open_ j x hj hw he;refine⟨i', d', a,?_,b2,b3⟩;rw[e6];refine Sp b fun e=>?_;subst e;rw[hd]at b;obtain rfl:=aQB b;exact b2 hn
   ·exact⟨i,_,Z,Pv hd,nofun,Z⟩
  ·rw[e1]at hx;rcases aQX.1 hx with hx|hx
   ·exact g.bd x hx
   ·rw[aQR.1 hx];exact⟨aRD _,n0,aQK _,.inl Z,aQK _,by show (-1:Int)<r.n;omega⟩
  ·obtain⟨x,hx,hr⟩:=g.swc hs;rw[e1];exact⟨x,J5 hx,hr⟩
 move r i d p _ g hd hn dN:=by
  have n0:=g.n0;obtain⟨hc0,x,hx,hb,hw,yR,bZ,hm⟩:=g.cur i d p hd hn;have FV:=g.bd x (aQL hx);obtain⟨oM,aV⟩:=Es r.h d.mine (n:=r.n+1) FV.2.2.1 aTZ hm hb;obtain⟨k1,k2,k3,k4,k5,k6⟩:=KC x r.n (fC r.h d.mine r.n p).2.2
  have bR:∀(j:Nat) (d' : eM) p', j≠i→r.clients[j]?=some d' → d'.now=some p' → d'.call.toNat≠d.call.toNat:=fun j d' p' xM hj bO e=>by
   obtain⟨_,x', O5, _,kH, _⟩:=g.cur j d' p' hj bO;rw[e,hx]at O5;obtain rfl:=aQB O5;omega
  refine⟨ci,(g.k.move ci hd hn).inc,by show 0≤r.n+1;omega,fun j d' p' hj bO => ?_,fun j y hj kH he=>?_,fun y hy=>?_,fun hs=>?_,g.sww,g.swn⟩
  ·rcases BJ hj with ⟨rfl,rfl⟩|⟨xM,hj⟩
   ·simp only at bO
    cases jF:rV (fC r.h d.mine r.n p).2.2 with
    | true=>
     rw[if_pos jF]at bO;cases bO
    | false=>
     rw[if_neg (by rw[jF];decide)]at bO;obtain rfl:=aQB bO;exact⟨hc0,_,vK hx,by rw[if_pos Z,k3];exact aV,by rw[if_pos Z,k1];exact hw,by rw[if_pos Z,(k5 jF).1];exact yR,by rw[if_pos Z,k4],by rw[if_pos Z,k2];exact oM⟩
   ·obtain⟨a,y,hy,b,hr⟩:=g.cur j d' p' hj bO;refine⟨a,y,?_,b.mono aUS,hr⟩;have:=vK (j:=d.call.toNat) (f:=fun x=>iR x r.n (fC r.h d.mine r.n p).2.2) hy
    rwa [if_neg (fun e=>bR j d' p' xM hj bO e.symm)]at this
  ·obtain⟨z,hz,rfl⟩:=rU hj;by_cases e:d.call.toNat=j
   ·rw[if_pos e]at kH he;subst e;rw[hx]at hz;obtain rfl:=aQB hz;rw[if_pos rfl,k1]
    cases jF:rV (fC r.h d.mine r.n p).2.2 with
    | true=>
     rw[(k6 jF).1]at he;omega
    | false=>
     refine⟨i,_,hw.symm,aQ8 (aQG.1 hd).1,?_,by show d.call=_;omega⟩;simp only;rw[if_neg (by rw[jF];decide)];exact nofun
   ·rw[if_neg e]at kH he ⊢;obtain⟨i', d', a,b,b2,b3⟩:=g.open_ j z hz kH he;refine⟨i', d', a,Sp b fun e' => ?_,b2,b3⟩;subst e';rw[hd]at b;obtain rfl:=aQB b;omega
  ·obtain⟨m,tX⟩:=uD hy;obtain⟨z,hz,rfl⟩:=rU tX;have sY := M5 (g.bd z (aQL hz));show _∧_∧_≤r.n+1∧Pl _ (r.n+1) _∧_∧_<r.n+1;split
   ·rename_i e;subst e;rw[hx]at hz;obtain rfl:=aQB hz;rw[k1,k3,k4];refine⟨sY.1,sY.2.1,sY.2.2.1,aV.pl,?_⟩
    cases jF:rV (fC r.h d.mine r.n p).2.2 with
    | true=>
     rw[(k6 jF).1];omega
    | false=>
     rw[(k5 jF).1];exact sY.2.2.2.2
   ·exact sY
  ·obtain⟨y,hy,hy8,h2,h3,hr⟩:=g.swc hs;refine⟨y,?_,hy8,h2,h3.mono aUS,hr⟩;have wO:=vK (j:=d.call.toNat) (f:=fun x=>iR x r.n (fC r.h d.mine r.n p).2.2) hy
   rwa [if_neg (fun e=>?_)]at wO
   have hr8:r.sweep.toNat=d.call.toNat:=e.symm;rw[hr8,hx]at hy;obtain rfl:=aQB hy;have:=g.who8 hd;omega
 swb r _ g hs _ _:=by
  have n0:=g.n0
  have e:eU r={ jH r ⟨8,r.sweeps,fA,r.sw.stripe,0,0,0,0,gA⟩with sweep:=r.calls.length,sweeps:=r.sweeps+1 }:=by
   unfold eU;rw[if_pos hs]
  have sW:=g.swn hs;refine⟨ci,g.k.swb hs,by rw[e];exact n0,?_,?_,?_,?_,by rw[e];exact g.sww,?_⟩
  ·rw[e];intro j d' p hj hp;obtain⟨a,x,hx,hr⟩:=g.cur j d' p hj hp;exact⟨a,x,J5 hx,hr⟩
  ·rw[e];intro j x hj hw he;rcases p8 hj with hj|⟨rfl,rfl⟩
   ·exact g.open_ j x hj hw he
   ·exact absurd hw (by show ¬(8:Int)<8;decide)
  ·rw[e];intro x hx;rcases aQX.1 hx with hx|hx
   ·exact g.bd x hx
   ·rw[aQR.1 hx];exact⟨by show (0:Int)≤8;decide,n0,aQK _,.inl Z,aQK _,by show (-1:Int)<r.n;omega⟩
  ·rw[e];intro _;refine⟨nL r ⟨8,r.sweeps,fA,r.sw.stripe,0,0,0,0,gA⟩,?_,Z,Z,?_,?_,Z⟩
   ·show (r.calls++[_])[((r.calls.length:Nat):Int).toNat]?=_;rw[aQP];exact Im _ _
   ·show Pl _ r.n r.sw.now.placed;rw[sW];exact .inl Z
   ·show (-1:Int)=r.sw.now.placed;rw[sW];rfl
  ·rw[e];intro h;have h:((r.calls.length:Nat):Int)<0:=h;omega
 swm r _ g hs _:=by
  have n0:=g.n0;obtain⟨x,hx,hw,yR,O0,bZ,aM⟩:=g.swc hs;have hbx:=g.bd x (aQL hx)
  have bR:∀(j:Nat) (d' : eM) p', r.clients[j]?=some d' → d'.now=some p' → d'.call.toNat≠r.sweep.toNat:=fun j d' p' hj bO e=>by
   obtain⟨_,x', O5, _,kH, _⟩:=g.cur j d' p' hj bO;rw[e,hx]at O5;obtain rfl:=aQB O5;have:=g.who8 hj;omega
  obtain⟨s1,s2,s3,s4⟩:=MM r.h r.sw.now r.n;have gw:=g.sww;have hk:=(g.k.swm ci).inc
  have F9:Pl x.began (r.n+1) (dQ r.h r.sw.now r.n).2.placed:=by
   rcases s4 with e|e<;>rw[e]
   ·exact O0.mono aTZ
   ·exact .inr ⟨hbx.2.2.1,by omega⟩
  cases hd:lC (dQ r.h r.sw.now r.n).2 with
  | true=>
   rw[I8 hd]at hk ⊢;refine⟨ci,hk,by show 0≤r.n+1;omega,fun j d' p' hj bO => ?_,fun j y hj kH he=>?_,fun y hy=>?_,fun h=>absurd h (by show ¬(0:Int)≤-1;decide),⟨Z,Z,Z⟩,fun _=>rfl⟩
   ·obtain⟨a,y,hy,b,hr⟩:=g.cur j d' p' hj bO;refine⟨a,y,?_,b.mono aUS,hr⟩;have:=vK (j:=r.sweep.toNat) (f:=fun x=>{ x with ended:=r.n }) hy
    rwa [if_neg (fun e=>bR j d' p' hj bO e.symm)]at this
   ·obtain⟨z,hz,rfl⟩:=rU hj;by_cases e:r.sweep.toNat=j
    ·subst e;rw[hx]at hz;obtain rfl:=aQB hz;rw[if_pos rfl]at kH;exact absurd kH (by show ¬x.who<8;omega)
    ·rw[if_neg e]at kH he ⊢;exact g.open_ j z hz kH he
   ·obtain⟨m,tX⟩:=uD hy;obtain⟨z,hz,rfl⟩:=rU tX;have sY := M5 (g.bd z (aQL hz));show _∧_∧_≤r.n+1∧Pl _ (r.n+1) _∧_∧_<r.n+1;split
    ·exact⟨sY.1,sY.2.1,sY.2.2.1,sY.2.2.2.1,by show -1≤r.n;omega,by show r.n<r.n+1;omega⟩
    ·exact sY
  | false=>
   rw[I9 hd]at hk ⊢;refine⟨ci,hk,by show 0≤r.n+1;omega,fun j d' p' hj bO => ?_,fun j y hj kH he=>?_,fun y hy=>?_,fun _=>?_,⟨s1.trans gw.1,s2.trans gw.2.1,s3.trans gw.2.2⟩,fun h=>?_⟩
   ·obtain⟨a,y,hy,b,hr⟩:=g.cur j d' p' hj bO;refine⟨a,y,?_,b.mono aUS,hr⟩;have:=vK (j:=r.sweep.toNat) (f:=fun x=>{ x with placed:=(dQ r.h r.sw.now r.n).2.placed }) hy
    rwa [if_neg (fun e=>bR j d' p' hj bO e.symm)]at this
   ·obtain⟨z,hz,rfl⟩:=rU hj;by_cases e:r.sweep.toNat=j
    ·subst e;rw[hx]at hz;obtain rfl:=aQB hz;rw[if_pos rfl]at kH;exact absurd kH (by show ¬x.who<8;omega)
    ·rw[if_neg e]at kH he ⊢;exact g.open_ j z hz kH he
   ·obtain⟨m,tX⟩:=uD hy;obtain⟨z,hz,rfl⟩:=rU tX;have sY := M5 (g.bd z (aQL hz));show _∧_∧_≤r.n+1∧Pl _ (r.n+1) _∧_∧_<r.n+1;split
    ·rename_i e;subst e;rw[hx]at hz;obtain rfl:=aQB hz;exact⟨sY.1,sY.2.1,sY.2.2.1,F9,sY.2.2.2.2⟩
    ·exact sY
   ·have wO:=vK (j:=r.sweep.toNat) (f:=fun x=>{ x with placed:=(dQ r.h r.sw.now r.n).2.placed }) hx;rw[if_pos rfl]at wO;exact⟨_,wO,hw,yR,F9,Z,aM⟩
   ·have h:r.sweep<0:=h;omega
 tick r b _ g hb _:=by
  have n0:=g.n0;refine⟨ci,(g.k.tick hb).inc,by show 0≤r.n+1;omega,fun j d' p hj hp=>?_,fun j x hj hw he=>?_,fun x hx=>?_,fun hs=>?_,g.sww,g.swn⟩
  ·obtain⟨a,x,hx,b,hr⟩:=g.cur j d' p hj hp;exact⟨a,x,J5 hx,b.mono aUS,hr⟩
  ·rcases p8 hj with hj|⟨rfl,rfl⟩
   ·exact g.open_ j x hj hw he
   ·exact absurd hw (by show ¬(9:Int)<8;decide)
  ·show _∧_∧_≤r.n+1∧Pl _ (r.n+1) _∧_∧_<r.n+1;rcases aQX.1 hx with hx|hx
   ·exact M5 (g.bd x hx)
   ·rw[aQR.1 hx];exact⟨by show (0:Int)≤9;decide,n0,by show r.n≤r.n+1;omega,.inr ⟨aQK _,by show r.n<r.n+1;omega⟩,by show -1≤r.n;omega,by show r.n<r.n+1;omega⟩
  ·obtain⟨x,hx,h1,h2,h3,hr⟩:=g.swc hs;exact⟨x,J5 hx,h1,h2,h3.mono aUS,hr⟩
theorem Ta {s:iI} (hw:vY s) (ci:CI s.cfg) (gN:s.clients.length≤8) (ho:∀l∈s.clients,l.length≤50∧∀x∈l,x8 x) (fp:Nat→Nat):q8 s.cfg (zG s fp):=by
 have i:=Rs hw ci gN ho fp;refine⟨ci,⟨0,i.hh,i.rr⟩,aQK _,fun j d p hj hp=>?_,fun j x hj=>(by cases hj),fun x hx=>(by cases hx),fun h=>absurd h (by show ¬(0:Int)≤-1;decide),⟨Z,Z,Z⟩,fun _=>rfl⟩;obtain⟨l,_,rfl⟩:=aRL.1 (aQL hj);cases hp
variable {c:cY} {h:bF} {k:Nat}
theorem K7 (h:bF) (w:Int) (s:Nat):(jC h w s).1.time=h.time:=by
 unfold jC;split<;>rfl
theorem HU (h:bF) (w:Int) (s:Nat):(jE h w s).1.time=h.time:=by
 unfold jE;split<;>rfl
theorem aJD (h:bF) (p:cL) (pos:Int):(iO h p pos).1.time=h.time:=by
 unfold iO
 split<;>first|rfl|exact K7 _ _ _|exact HU _ _ _
theorem Qq (h:bF) (p:cL) (pos:Int):(jR h p pos).1.time=h.time:=by
 unfold jR;split
 ·rfl
 split
 ·rfl
 exact aJD _ _ _
theorem K3 {x:dE} {s n j:Nat} {a:fD} (hb:dH x=false) (h:(l6 x s n)[j]?=some a):a≠.bad∧(x.kind=9→j=0∧a=.shut)∧(x.kind≠8→x.kind≠9→(j=0∧a=.lock s)∨(j=1∧a=.look)∨(j=2∧a=.watch)∨(j=3∧a=.unlock s)):=by
 unfold l6 at h;rw[if_neg aUN]at h;split at h
 ·rename_i h8;refine⟨fun e=>?_,fun h9=>by omega,fun h1=>absurd h8 h1⟩;subst e;have:=aQL h;simp at this
 split at h
 ·rename_i h9;rcases j with _|j
  ·obtain rfl:=aQB h;exact⟨nofun,fun _=>⟨Z,Z⟩,fun _ h=>absurd h9 h⟩
  cases h
 rename_i h9;rcases j with _|_|_|_|j
 ·obtain rfl:=aQB h;exact⟨nofun,fun h=>absurd h h9,fun _ _=>.inl ⟨Z,Z⟩⟩
 ·obtain rfl:=aQB h;exact⟨nofun,fun h=>absurd h h9,fun _ _=>.inr (.inl ⟨Z,Z⟩)⟩
 ·obtain rfl:=aQB h;exact⟨nofun,fun h=>absurd h h9,fun _ _=>.inr (.inr (.inl ⟨Z,Z⟩))⟩
 ·obtain rfl:=aQB h;exact⟨nofun,fun h=>absurd h h9,fun _ _=>.inr (.inr (.inr ⟨Z,Z⟩))⟩
 cases h
theorem SS {x:dE} {s n j:Nat} {a:fD} (hb:dH x=true) (h:(l6 x s n)[j]?=some a):j=0∧a=.bad:=by
 unfold l6 at h;rw[if_pos hb]at h;rcases j with _|j
 ·exact⟨Z,(aQB h).symm⟩
 cases h
variable {c:cY} {h:bF} {k:Nat}
structure E8 (r:cM):Prop where
 mx:∀(i:Nat) (d:eM),r.clients[i]?=some d→d.now≠none→∀(a:Nat) (y:bL),r.calls[a]?=some y→y.who=(i:Int)→(a:Int)≤d.call
 sq:∀(a b:Nat) (x y:bL),r.calls[a]?=some x→r.calls[b]?=some y→a<b→x.who=y.who→x.who<8→x.placed<y.began∧0≤x.ended∧x.ended<y.began
 zr:∀x∈r.calls,x.ended<0→x.reply=gA
theorem Si {r r' : cM} (g:E8 r) {j:Nat} {f:bL→bL} {x:bL} (hx:r.calls[j]?=some x) (h8:8≤x.who) (hf:∀y,(f y).who=y.who∧(f y).reply=y.reply) (he:(f x).ended<0→x.ended<0) (e1:r'.calls=r.calls.modify j f) (e2:r'.clients=r.clients):E8 r' := by
 have old:∀(m:Nat) y,r'.calls[m]?=some y→y.who<8→r.calls[m]?=some y:=fun m y hy hw=>by
  rw[e1]at hy;obtain⟨z,hz,rfl⟩:=rU hy;by_cases e:j=m
  ·subst e;rw[hx]at hz;obtain rfl:=aQB hz;rw[if_pos rfl,(hf x).1]at hw;omega
  rw[if_neg e];exact hz
 refine⟨fun i d hd hn a y hy hw=>?_,fun a b x' y h1 h2 uZ hw SN => ?_,fun y hy AM => ?_⟩
 ·rw[e2]at hd;rw[e1]at hy;obtain⟨z,hz,rfl⟩:=rU hy;refine g.mx i d hd hn a z hz ?_;split at hw
  ·rw[(hf z).1]at hw;exact hw
  exact hw
 ·exact g.sq a b x' y (old a x' h1 SN) (old b y h2 aTZ) uZ hw SN
 rw[e1]at hy;obtain⟨m,hm⟩:=uD hy;obtain⟨z,hz,rfl⟩:=rU hm;by_cases e:j=m
 ·subst e;rw[hx]at hz;obtain rfl:=aQB hz;rw[if_pos rfl]at AM ⊢;rw[(hf x).2];exact g.zr x (aQL hx) (he AM)
 rw[if_neg e]at AM ⊢;exact g.zr z (aQL hz) AM
theorem Sh {r r' : cM} (g:E8 r) {x:bL} (h8:8≤x.who) (hz:x.reply=gA) (e1:r'.calls=r.calls++[x]) (e2:r'.clients=r.clients) (hc:∀(i:Nat) (d:eM),r.clients[i]?=some d→i<8):E8 r' := by
 refine⟨fun i d hd hn a y hy hw=>?_,fun a b x' y h1 h2 uZ hw SN => ?_,fun y hy AM => ?_⟩
 ·rw[e2]at hd;rw[e1]at hy;rcases p8 hy with hy|⟨_,rfl⟩
  ·exact g.mx i d hd hn a y hy hw
  have:=hc i d hd;omega
 ·rw[e1]at h1 h2;rcases p8 h1 with h1|⟨_,rfl⟩
  ·rcases p8 h2 with h2|⟨_,rfl⟩
   ·exact g.sq a b x' y h1 h2 uZ hw SN
   omega
  omega
 rw[e1]at hy;rcases aQX.1 hy with hy|hy
 ·exact g.zr y hy AM
 rw[aQR.1 hy];exact hz
theorem aMZ:uQ (q8 c) E8 where
 idle r _ g:=⟨g.mx,g.sq,g.zr⟩
 beg r i d K g hd hn ho:=by
  obtain⟨e1,e2,e3,e4,e5,e6⟩:=L3 r i d;have n0:=K.n0;have fY:∀(a:Nat) y,r.calls[a]?=some y→a<r.calls.length:=fun a y h=>(aQG.1 h).1;refine⟨fun j d' hj CQ a y hy hw=>?_,fun a b x y h1 h2 uZ hw h8=>?_,fun y hy he=>?_⟩
  ·rw[e1]at hy;rcases BJ hj with ⟨rfl,rfl⟩|⟨bR,hj⟩
   ·show (a:Int)≤(r.calls.length:Int);rcases p8 hy with hy|⟨rfl,_⟩
    ·have:=fY a y hy;omega
    ·exact aQK _
   ·rcases p8 hy with hy|⟨_,rfl⟩
    ·exact g.mx j d' hj CQ a y hy hw
    ·have hw:(i:Int)=(j:Int):=hw;omega
  ·rw[e1]at h1 h2;rcases p8 h1 with h1|⟨rfl,rfl⟩
   ·rcases p8 h2 with h2|⟨rfl,rfl⟩
    ·exact g.sq a b x y h1 h2 uZ hw h8
    ·have hb:=K.bd x (aQL h1)
     have he:0≤x.ended:=by
      rcases Int.lt_or_le x.ended 0 with he|he
      ·obtain⟨i', d', a1,a2,a3,_⟩:=K.open_ a x h1 h8 he;have hw:x.who=(i:Int):=hw
       obtain rfl:i' = i:=by omega
       rw[hd]at a2;obtain rfl:=aQB a2;exact absurd hn a3
      ·exact he
     refine⟨?_,he,hb.2.2.2.2.2⟩;show x.placed<r.n;rcases hb.2.2.2.1 with e|e<;>omega
   ·have:b<(r.calls++[_]).length:=(aQG.1 h2).1;simp at this;omega
  ·rw[e1]at hy;rcases aQX.1 hy with hy|hy
   ·exact g.zr y hy he
   ·rw[aQR.1 hy];rfl
 move r i d p K g hd hn dN:=by
  have n0:=K.n0;obtain⟨hc0,x,hx,hb,hw,yR,bZ,hm⟩:=K.cur i d p hd hn;obtain⟨k1,k2,k3,k4,k5,k6⟩:=KC x r.n (fC r.h d.mine r.n p).2.2
  have key:∀(m:Nat) y,(oS r i d p).calls[m]?=some y→∃z,r.calls[m]?=some z∧y.who=z.who∧y.began=z.began∧(m≠d.call.toNat→y=z):=fun m y hy=>by
   obtain⟨z,hz,rfl⟩:=rU hy;refine⟨z,hz,?_⟩;split
   ·rename_i e;subst e;rw[hx]at hz;obtain rfl:=aQB hz;exact⟨k1,k3,fun h=>absurd Z h⟩
   ·exact⟨Z,Z,fun _=>rfl⟩
  refine⟨fun j d' hj CQ a y hy kH => ?_,fun a b x' y h1 h2 uZ kH h8=>?_,fun y hy he=>?_⟩
  ·obtain⟨z,hz,e1,_⟩:=key a y hy;rcases BJ hj with ⟨rfl,rfl⟩|⟨bR,hj⟩
   ·exact g.mx j d hd aVF a z hz aTZ
   ·exact g.mx j d' hj CQ a z hz aTZ
  ·obtain⟨z1,O7,e1,e2,e3⟩:=key a x' h1;obtain⟨z2,UN,f1,f2,f3⟩:=key b y h2;have hs:=g.sq a b z1 z2 O7 UN uZ aTZ aTZ;rw[f2,e3 (fun e=>?_)]
   ·exact hs
   ·subst e;rw[hx]at O7;obtain rfl:=aQB O7;have:=g.mx i d hd aVF b z2 UN aTZ;omega
  ·obtain⟨m,tX⟩:=uD hy;obtain⟨z,hz,rfl⟩:=rU tX;split at he
   ·rename_i e;rw[if_pos e];subst e;rw[hx]at hz;obtain rfl:=aQB hz
    cases jF:rV (fC r.h d.mine r.n p).2.2 with
    | true=>
     rw[(k6 jF).1]at he;omega
    | false=>
     rw[(k5 jF).2];exact g.zr x (aQL hx) aTZ
   ·rename_i e;rw[if_neg e];exact g.zr z (aQL hz) he
 swb r K g hs _ _:=by
  have e:eU r={ jH r ⟨8,r.sweeps,fA,r.sw.stripe,0,0,0,0,gA⟩with sweep:=r.calls.length,sweeps:=r.sweeps+1 }:=by
   unfold eU;rw[if_pos hs]
  rw[e];exact Sh g (x:=nL r ⟨8,r.sweeps,fA,r.sw.stripe,0,0,0,0,gA⟩) (by show (8:Int)≤8;decide) Z Z Z (fun i d hd=>K.who8 hd)
 swm r K g hs dN:=by
  have n0:=K.n0;obtain⟨x,hx,hw,yR,_,bZ,aM⟩:=K.swc hs
  cases hd:lC (dQ r.h r.sw.now r.n).2 with
  | true=>
   rw[I8 hd];exact Si g (f:=fun x=>{ x with ended:=r.n }) hx aTZ (fun _=>⟨Z,Z⟩) (fun h=>by have h:r.n<0:=h;omega) Z Z
  | false=>
   rw[I9 hd];exact Si g (f:=fun x=>{ x with placed:=(dQ r.h r.sw.now r.n).2.placed }) hx aTZ (fun _=>⟨Z,Z⟩) (fun h=>h) Z Z
 tick r b K g _ _:=Sh g (x:=⟨9,r.ticks,fA,0,b,r.n,r.n,r.n,gA⟩) (by show (8:Int)≤9;decide) rfl rfl rfl (fun i d hd=>K.who8 hd)
theorem aM0 (s:iI) (fp:Nat→Nat):E8 (zG s fp):=by
 refine⟨fun j d hj hn=>?_,fun a b x y hx=>(by cases hx),fun y hy=>(by cases hy)⟩;obtain⟨l,_,rfl⟩:=aRL.1 (aQL hj);exact absurd Z hn
variable {c:cY} {h h' : bF} {k:Nat} {l:List bL}
def Wd (l:List bL) (w:Nat) (u:ByteArray):Prop:=∃y∈l,y.who=(w:Int)∧y.op.kind=6∧y.op.user=u∧0≤y.placed
structure E5 (c:cY) (N:Int) (s:Nat) (e:cI):Prop where
 ne:e.old≠e.new
 lo:1≤e.seq
 hi:e.seq≤N
 st:eZ e.user c.stripes=(s:Int)
theorem E5.mono {N N' : Int} {s:Nat} {e:cI} (g:E5 c N s e) (h:N≤N'):E5 c N' s e:=⟨g.ne,g.lo,Int.le_trans g.hi h,g.st⟩
structure HE (c:cY) (h:bF) (l:List bL):Prop where
 fd:∀s,kI (h.feed s)
 bk:∀s,∀u∈(aR h s).book.keys,eZ u c.stripes=(s:Int)
 wt:∀(s w:Nat) u,w<8→kK (h.feed s) (w:Int) u=true→Wd l w u
 ev:∀s w,w<8→∀e∈((h.feed s).q w).l,E5 c h.time.seq s e∧Wd l w e.user
 pw:∀s w,w<8→((h.feed s).q w).l.Pairwise mG
theorem HE.calls {l' : List bL} (g:HE c h l) (hm:∀w u,Wd l w u→Wd l' w u):HE c h l' := ⟨g.fd,g.bk,fun s w u hw hf=>hm _ _ (g.wt s w u hw hf),fun s w hw e he=>⟨(g.ev s w hw e he).1,hm _ _ (g.ev s w hw e he).2⟩,g.pw⟩
theorem HE.same (g:HE c h l) (e1:h'.feed=h.feed) (e2:∀s,(aR h' s).book=(aR h s).book) (e3:h.time.seq≤h'.time.seq):HE c h' l:=
 ⟨fun s=>by rw[e1];exact g.fd s,fun s u hu=>by rw[e2]at hu;exact g.bk s u hu,fun s w u hw hf=>by rw[e1]at hf;exact g.wt s w u hw hf,fun s w hw e he=>by rw[e1]at he;exact⟨(g.ev s w hw e he).1.mono e3,(g.ev s w hw e he).2⟩,fun s w hw=>by rw[e1];exact g.pw s w hw⟩
theorem yM (h:bF) (s:Nat) (x:oY) (i:Nat):aR (gP h s x) i=aR h i∨i=s∧aR (gP h s x) i=x:=by
 by_cases e:i=s
 ·rcases Mh h s x i with h1|h1
  ·exact .inr ⟨e,h1⟩
  exact .inl h1
 left;unfold aR gP;simp only;rw[aQQ,aRN (fun h=>e h.symm),←aQQ]
theorem S4 {h:bF} {s:Nat} (hs:s<h.strs.length) (x:oY):aR (gP h s x) s=x:=by
 unfold aR gP;simp only;rw[aQQ,aQ8 hs];rfl
theorem DR (h:bF) (s:Nat) {x:oY} (hx:x.book=(aR h s).book) (i:Nat):(aR (gP h s x) i).book=(aR h i).book:=by
 rcases yM h s x i with e|⟨rfl,e⟩<;>rw[e];exact hx
theorem xQ (h:bF) (s:Nat) {x:oY} (hx:x.latch=(aR h s).latch) (i:Nat):(aR (gP h s x) i).latch=(aR h i).latch:=by
 rcases yM h s x i with e|⟨rfl,e⟩<;>rw[e];exact hx
structure iP (w:Int) (h h' : bF):Prop where
 la:∀s z,0≤z→z≠w→(aR h s).latch=z+1→(aR h' s).latch=z+1
 sq:h.time.seq≤h'.time.seq
 qe:∀s v e,v<8→e∈((h'.feed s).q v).l→e∈((h.feed s).q v).l∨(aR h s).latch=w+1
theorem iP.refl (w:Int) (h:bF):iP w h h:=⟨fun _ _ _ _ e=>e,aQK _,fun _ _ _ _ he=>.inl he⟩
theorem iP.same {w:Int} (e1:h'.feed=h.feed) (e2:∀s,(aR h' s).latch=(aR h s).latch) (e3:h.time.seq≤h'.time.seq):iP w h h' :=
 ⟨fun s z _ _ e=>by rw[e2];exact e,e3,fun s v e _ he=>.inl (by rw[e1]at he;exact he)⟩
theorem ZS (h:bF) (w:Int) (s:Nat):iP w h (jC h w s).1∧(∀l,HE c h l→HE c (jC h w s).1 l):=by
 unfold jC;split
 ·rename_i ht;refine⟨⟨fun i z hz bR e=>?_,aQK _,fun i v e _ he=>.inl he⟩,fun l g=>HE.same g Z (fun i=>by refine DR (dM h w 5 (eE s 1)) s ?_ i;rfl) (aQK _)⟩;rcases yM (dM h w 5 (eE s 1)) s { aR h s with latch:=(pX (aR h s).latch w).1 } i with e' | ⟨rfl,e'⟩
  ·rw[e'];exact e
  unfold pX at ht;split at ht
  ·cases ht
  rename_i hn;omega
 exact⟨iP.refl _ _,fun l g=>g⟩
theorem S6 (h:bF) (w:Int) (s:Nat):iP w h (jE h w s).1∧(∀l,HE c h l→HE c (jE h w s).1 l):=by
 unfold jE;split
 ·rename_i ht;refine⟨⟨fun i z hz bR e=>?_,aQK _,fun i v e _ he=>.inl he⟩,fun l g=>HE.same g Z (fun i=>by refine DR (dM h w 6 (eE s 1)) s ?_ i;rfl) (aQK _)⟩;rcases yM (dM h w 6 (eE s 1)) s { aR h s with latch:=(pW (aR h s).latch w).1 } i with e' | ⟨rfl,e'⟩
  ·rw[e'];exact e
  unfold pW at ht;split at ht
  ·cases ht
  rename_i hn;omega
 exact⟨iP.refl _ _,fun l g=>g⟩
theorem r4 (q:Nat→eN) (s:Nat) (f:eN) (i:Nat):iK q s f i=if i=s then f else q i:=rfl
theorem HE.tell {s:Nat} {chs:List gB} {N:Int} {b:dV} (g:HE c h l) (FS:1≤N) (hN1:N≤h.time.seq) (aW:∀w,w<8→∀e∈((h.feed s).q w).l,e.seq<N) (hp:chs.Pairwise fun a b=>a.user≠b.user) (hc:∀x∈chs,MQ x∧eZ x.user c.stripes=(s:Int)) (hb:∀u∈b.keys,eZ u c.stripes=(s:Int)) (who:Int) :
  HE c { gP (jK h who s) s { aR h s with book:=b } with feed:=iK h.feed s (l2 (h.feed s) chs N) } l:=by
 have t:=aOT aW (fun w hw=>g.pw s w hw) hp;refine⟨fun i=>?_,fun i u hu=>?_,fun i w u hw hf=>?_,fun i w hw e he=>?_,fun i w hw=>?_⟩
 ·show kI (iK h.feed s _ i);rw[r4];split
  ·exact (g.fd s).tell _ _
  exact g.fd i
 ·have hu:u∈(aR (gP (jK h who s) s { aR h s with book:=b }) i).book.keys:=hu;rcases yM (jK h who s) s { aR h s with book:=b } i with e|⟨rfl,e⟩
  ·rw[e]at hu;exact g.bk i u hu
  rw[e]at hu;exact hb u hu
 ·have hf:kK (iK h.feed s (l2 (h.feed s) chs N) i) (w:Int) u=true:=hf;rw[r4]at hf;split at hf
  ·exact g.wt s w u hw hf
  exact g.wt i w u hw hf
 ·have he:e∈((iK h.feed s (l2 (h.feed s) chs N) i).q w).l:=he;show E5 c h.time.seq i e∧_;rw[r4]at he;split at he
  ·rename_i ei;subst ei;rcases t.mem w hw e he with he|⟨x,hx,rfl,hf⟩
   ·exact g.ev i w hw e he
   obtain⟨c1,c2⟩:=hc x hx;exact⟨⟨c1,FS,hN1,c2⟩,g.wt i w _ hw hf⟩
  exact g.ev i w hw e he
 show ((iK h.feed s (l2 (h.feed s) chs N) i).q w).l.Pairwise mG;rw[r4];split
 ·exact t.pw w hw
 exact g.pw i w hw
theorem Ug {s:Nat} {chs:List gB} {N:Int} {b:dV} (who:Int) (hl:(aR h s).latch=who+1):iP who h { gP (jK h who s) s { aR h s with book:=b } with feed:=iK h.feed s (l2 (h.feed s) chs N) }:=by
 refine⟨fun i z _ _ e=>?_,aQK _,fun i v e _ he=>?_⟩
 ·show (aR (gP (jK h who s) s _) i).latch=_;refine (xQ (jK h who s) s ?_ _).trans ?_
  ·rfl
  exact e
 have he:e∈((iK h.feed s (l2 (h.feed s) chs N) i).q v).l:=he;rw[r4]at he;split at he
 ·rename_i ei;subst ei;exact .inr hl
 exact .inl he
structure PW (c:cY) (h:bF) (p:fE):Prop where
 w0:0≤p.who
 st:∀x,p.act=.wr x→eZ x.user c.stripes=(p.s:Int)
 la:p.act≠.bad→1≤p.at_→p.at_≤6→(aR h p.s).latch=p.who+1
 tk:p.act≠.bad→p.at_=3→1≤p.time.seq∧p.time.seq≤h.time.seq∧∀v,v<8→∀e∈((h.feed p.s).q v).l,e.seq<p.time.seq
theorem PW.other {p:fE} (g:PW c h p) {w:Int} (r:iP w h h') (bR:p.who≠w):PW c h' p:=by
 refine⟨g.w0,g.st,fun hb h1 h6=>r.la _ _ g.w0 bR (g.la hb h1 h6),fun hb h3=>?_⟩;obtain⟨t1,t2,t3⟩:=g.tk hb h3;refine⟨t1,Int.le_trans t2 r.sq,fun v hv e he=>?_⟩;rcases r.qe _ _ _ hv he with he|hl
 ·exact t3 v hv e he
 have:=g.la hb aTZ aTZ;omega
theorem Un (gi:HI c h k) {p:fE} (wi:vX c p) (g:HE c h l) (gp:PW c h p) (O3:0≤h.time.seq) (hsq:h.time.seq<18446744073709551615) (pos:Int):HE c (dQ h p pos).1 l∧PW c (dQ h p pos).1 (dQ h p pos).2∧iP p.who h (dQ h p pos).1∧(dQ h p pos).1.time.seq≤h.time.seq+1:=by
 unfold dQ;split
 ·exact⟨g,gp,iP.refl _ _,by show h.time.seq≤_;omega⟩
 rename_i dN
 have dN:j6 h p=true:=by simpa using dN
 split
 ·rename_i kV
  have hb:p.act=.bad:=by
   cases e:p.act with
   | bad=>rfl
   | _=>rw[e]at kV;cases kV
  exact⟨g,⟨gp.w0,fun x hx=>(by rw[hb]at hx;cases hx),fun h=>absurd hb h,fun h=>absurd hb h⟩,iP.refl _ _,by show h.time.seq≤_;omega⟩
 rename_i kV;have hb:p.act≠.bad:=fun e=>kV (by rw[e];rfl);have aW:=gi.lt wi.s;dsimp only;generalize hp1:(if p.at_=2 then { p with placed:=pos } else p)=p1
 have q1:p1.act=p.act∧p1.who=p.who∧p1.s=p.s∧p1.time=p.time:=by
  rw[←hp1];split<;>exact⟨rfl,rfl,rfl,rfl⟩
 have la:=gp.la hb;have tk:=gp.tk hb;generalize hj:p.at_=j at *
 have mk:∀(h2:bF) (p2:fE),p2.act=p1.act→p2.who=p1.who→p2.s=p1.s→(1≤p2.at_→p2.at_≤6→(aR h2 p.s).latch=p.who+1)→(p2.at_=3→1≤p2.time.seq∧p2.time.seq≤h2.time.seq∧∀v,v<8→∀e∈((h2.feed p.s).q v).l,e.seq<p2.time.seq)→PW c h2 p2:=fun h2 p2 e1 e2 e3 f1 f2=>
  ⟨by rw[e2,q1.2.1];exact gp.w0,fun x hx=>by rw[e3,q1.2.2.1];exact gp.st x (by rw[←q1.1,←e1];exact hx),fun _ a b=>by rw[e3,q1.2.2.1,e2,q1.2.1];exact f1 a b,fun _ a=>by rw[e3,q1.2.2.1];exact f2 a⟩
 have e0:=q1.2.1;have es:=q1.2.2.1;rcases j with _|_|_|_|_|_|j
 ·have hf:(aR h p.s).latch=0:=by
   unfold j6 at dN;simp only[aQV,aRW,decide_eq_true_eq]at dN;rcases dN.2 with hw|hw
   ·unfold E3 at hw;rw[if_neg (by rw[hj];simp[kV])]at hw;omega
   exact bA hw
  have r:=ZS (c:=c) h p1.who p1.s;rw[e0]at r;refine⟨by show HE c (jC h p1.who p1.s).1 l;rw[e0];exact r.2 l g,mk _ _ Z Z Z (fun _ _=>?_) (fun h3=>?_),by show iP p.who h (jC h p1.who p1.s).1;rw[e0];exact r.1,?_⟩
  ·show (aR (jC h p1.who p1.s).1 p.s).latch=_;rw[e0,es];unfold jC
   have ht:(pX (aR h p.s).latch p.who)=(p.who+1,true):=by
    unfold pX;rw[if_neg (by have:=gp.w0;omega)]
   rw[ht,if_pos rfl];show (aR (gP (dM h p.who 5 (eE p.s 1)) p.s _) p.s).latch=_;rw[S4 (by exact aW)]
  ·have h3:0+1=3:=h3;omega
  show (jC h p1.who p1.s).1.time.seq≤_;rw[K7];omega
 ·refine⟨HE.same g Z (fun i=>by refine DR (dM h p1.who 4 (eE p1.s 2)) p1.s ?_ i;rfl) (aQK _),mk _ _ Z Z Z (fun _ _=>?_) (fun h3=>?_),iP.same Z (fun i=>by refine xQ (dM h p1.who 4 (eE p1.s 2)) p1.s ?_ i;rfl) (aQK _),by show h.time.seq≤_;omega⟩
  ·show (aR (gP (dM h p1.who 4 (eE p1.s 2)) p1.s _) p.s).latch=_;refine (xQ (dM h p1.who 4 (eE p1.s 2)) p1.s ?_ _).trans ?_
   ·rfl
   exact la aTZ aTZ
  have h3:0+1+1=3:=h3;omega
 ·have et:(pR h p1.who).time.seq=h.time.seq+1:=by
   show d8 h.time.seq 1=_;unfold d8;rw[if_neg aTZ]
  refine⟨HE.same g Z (fun _=>rfl) (by show h.time.seq≤(pR h p1.who).time.seq;omega),mk _ _ Z Z Z (fun _ _=>la aTZ aTZ) (fun _=>⟨?_,?_,fun v hv e he=>?_⟩),iP.same Z (fun _=>rfl) (by show h.time.seq≤(pR h p1.who).time.seq;omega),by show (pR h p1.who).time.seq≤_;omega⟩
  ·show 1≤(pR h p1.who).time.seq;omega
  ·exact aQK _
  show e.seq<(pR h p1.who).time.seq;have:=(g.ev p.s v hv e he).1.hi;omega
 ·obtain⟨t1,t2,t3⟩:=tk Z;have la3:=la aTZ aTZ
  cases ea:p1.act with
  | bad=>exact absurd (q1.1.symm.trans ea) hb
  | wr x=>
   simp only[jV,ea];have aM:=gp.st x (by rw[←q1.1,ea]);have bM:=Wu (aR h p.s).book x p.time.now h.cfg.sessions;rw[e0,es,q1.2.2.2];by_cases hc:p.time.closed=true
   ·have ew:k7 h p.who p.s x p.time=(jK h p.who p.s,5):=by
     unfold k7;rw[if_pos hc]
    rw[ew];exact⟨HE.same g Z (fun _=>rfl) (aQK _),mk _ _ ea.symm e0.symm es.symm (fun _ _=>la3) (fun h3=>(by have h3:3+1=3:=h3;omega)),iP.same Z (fun _=>rfl) (aQK _),by show h.time.seq≤_;omega⟩
   have ew:(k7 h p.who p.s x p.time).1={ gP (jK h p.who p.s) p.s { aR h p.s with book:=(f6 (aR h p.s).book x p.time.now h.cfg.sessions).1 } with feed:=iK h.feed p.s (l2 (h.feed p.s) (f6 (aR h p.s).book x p.time.now h.cfg.sessions).2.1 p.time.seq) }:=by
    unfold k7;rw[if_neg hc]
   rw[ew];refine⟨HE.tell g t1 t2 t3 bM.2.1 (fun ch LC=>⟨(bM.1 ch LC).2,by rw[(bM.1 ch LC).1];exact aM⟩) (fun u hu=>?_) p.who,mk _ _ ea.symm e0.symm es.symm (fun _ _=>?_) (fun h3=>(by have h3:3+1=3:=h3;omega)),Ug p.who la3,by show h.time.seq≤_;omega⟩
   ·rcases bM.2.2 u hu with hu|rfl
    ·exact g.bk _ u hu
    exact aM
   show (aR (gP (jK h p.who p.s) p.s _) p.s).latch=_;refine (xQ (jK h p.who p.s) p.s ?_ _).trans ?_
   ·rfl
   exact la3
  | sw=>
   simp only[jV,ea];have bi:=(gi.st p.s).bk;have bM:=Wr bi.1 bi.2.1 p.time.now;rw[es,q1.2.2.2];refine⟨HE.tell g t1 t2 t3 bM.2.1 (fun ch LC=>⟨(bM.1 ch LC).1,g.bk _ _ (bM.1 ch LC).2⟩) (fun u hu=>g.bk _ u (bM.2.2 u hu)) 8,mk _ _ ea.symm Z es.symm (fun _ _=>?_) (fun h3=>(by have h3:3+1=3:=h3;omega)),?_,by show h.time.seq≤_;omega⟩
   ·show (aR (gP (jK h 8 p.s) p.s _) p.s).latch=_;refine (xQ (jK h 8 p.s) p.s ?_ _).trans ?_
    ·rfl
    exact la3
   have r:=Ug (h:=h) (chs:=(f5 (aR h p.s).book p.time.now).2) (N:=p.time.seq) (b:=(f5 (aR h p.s).book p.time.now).1) p.who la3;exact⟨r.la,r.sq,r.qe⟩
 ·refine⟨HE.same g Z (fun i=>by refine DR (dM (dM h p1.who 1 (eE p1.s 4)) p1.who 4 (eE p1.s 3)) p1.s ?_ i;rfl) (aQK _),mk _ _ Z Z Z (fun _ _=>?_) (fun h3=>?_),iP.same Z (fun i=>by refine xQ (dM (dM h p1.who 1 (eE p1.s 4)) p1.who 4 (eE p1.s 3)) p1.s ?_ i;rfl) (aQK _),by show h.time.seq≤_;omega⟩
  ·show (aR (gP (dM (dM h p1.who 1 (eE p1.s 4)) p1.who 4 (eE p1.s 3)) p1.s _) p.s).latch=_;refine (xQ (dM (dM h p1.who 1 (eE p1.s 4)) p1.who 4 (eE p1.s 3)) p1.s ?_ _).trans ?_
   ·rfl
   exact la aTZ aTZ
  have h3:4+1=3:=h3;omega
 ·refine⟨HE.same g Z (fun i=>by refine DR (dM h p1.who 4 (eE p1.s 2)) p1.s ?_ i;rfl) (aQK _),mk _ _ Z Z Z (fun _ _=>?_) (fun h3=>?_),iP.same Z (fun i=>by refine xQ (dM h p1.who 4 (eE p1.s 2)) p1.s ?_ i;rfl) (aQK _),by show h.time.seq≤_;omega⟩
  ·show (aR (gP (dM h p1.who 4 (eE p1.s 2)) p1.s _) p.s).latch=_;refine (xQ (dM h p1.who 4 (eE p1.s 2)) p1.s ?_ _).trans ?_
   ·rfl
   exact la aTZ aTZ
  have h3:5+1=3:=h3;omega
 have r:=S6 (c:=c) h p1.who p1.s;rw[e0]at r;refine⟨by show HE c (jE h p1.who p1.s).1 l;rw[e0];exact r.2 l g,mk _ _ Z Z Z (fun _ h6=>?_) (fun h3=>?_),by show iP p.who h (jE h p1.who p1.s).1;rw[e0];exact r.1,?_⟩
 ·have h6:j+1+1+1+1+1+1+1≤6:=h6;omega
 ·have h3:j+1+1+1+1+1+1+1=3:=h3;omega
 show (jE h p1.who p1.s).1.time.seq≤_;rw[HU];omega
variable {c:cY} {h h' : bF} {k:Nat} {l l' : List bL}
def LU (p:dG):Nat:=if p.op.kind=8 then p.n else 1
structure PD (c:cY) (h:bF) (l:List bL) (i:Nat) (p:dG):Prop where
 all:∀(s:Nat) lst,p.all[s]?=some lst→lst.Pairwise mG∧∀e∈lst,E5 c h.time.seq s e∧Wd l i e.user
 evp:p.events.Pairwise mG
 ev:∀e∈p.events,(e.old≠e.new∧1≤e.seq∧e.seq≤h.time.seq)∧Wd l i e.user
 ek:p.events≠[]→gH p.op=true∧0≤p.placed
 lk:LU p<p.at_→0≤p.placed
theorem PD.other {i:Nat} {p:dG} (g:PD c h l i p) (hs:h.time.seq≤h'.time.seq) (hm:∀w u,Wd l w u→Wd l' w u):PD c h' l' i p:=
 ⟨fun s lst e=>⟨(g.all s lst e).1,fun e' he=>⟨((g.all s lst e).2 e' he).1.mono hs,hm _ _ ((g.all s lst e).2 e' he).2⟩⟩,g.evp,fun e he=>⟨⟨(g.ev e he).1.1,(g.ev e he).1.2.1,Int.le_trans (g.ev e he).1.2.2 hs⟩,hm _ _ (g.ev e he).2⟩,g.ek,g.lk⟩
theorem aIH (i who:Nat) (x:dE) (s n:Nat):PD c h l i (kT who x s n):=by
 refine⟨fun j lst e=>?_,aQ4,fun e he=>(by cases he),fun h=>absurd Z h,fun h=>absurd h (aQW _)⟩
 have:lst=[]:=by
  simp only[kT]at e;split at e
  ·rw[aSE]at e;split at e
   ·exact (aQB e).symm
   cases e
  cases e
 subst this;exact⟨aQ4,fun e he=>(by cases he)⟩
theorem ZN {x:dE} {s n j:Nat} {a:fD} (hp:gH x=true) (h:(l6 x s n)[j]?=some a):(j<n→a=.lock j)∧(j=n→a=.look)∧(n<j→(∃s', s' < n∧a=.drain s')∨∃s', s' < n∧a=.last s'):=by
 unfold gH at hp;simp only[aQV,aR2, decide_eq_true_eq]at hp;unfold l6 at h;rw[if_neg (by rw[hp.1];decide),if_pos hp.2]at h
 have h1:((List.range n).map fD.lock).length=n:=by simp
 refine⟨fun hj=>?_,fun hj=>?_,fun hj=>?_⟩
 ·rw[aQ6,aQ6,aRI (by rw[h1];exact hj),aR7,List.getElem?_range hj]at h;exact (aQB h).symm
 ·subst hj;rw[aQ6,aQ6,aQ7 (by rw[h1];exact aP9 _),h1,aSJ]at h;exact (aQB h).symm
 rw[aQ6,aQ6,aQ7 (by rw[h1];omega),h1,aQ7 aT8]at h;have hm:=aQL h;rcases aQX.1 hm with hm|hm
 ·obtain⟨s', fM, rfl⟩:=aRL.1 hm;exact .inl ⟨s', aRZ.1 fM, Z⟩
 obtain⟨s', fM, rfl⟩:=aRL.1 hm;exact .inr ⟨s', aRZ.1 fM, Z⟩
theorem aG4 {x:dE} {s n j:Nat} {a:fD} (h:(l6 x s n)[j]?=some a) (hj:j=if x.kind=8 then n else 1):a=.look:=by
 cases hb:dH x with
 | true=>
  obtain⟨rfl,_⟩:=SS hb h
  have h8:x.kind≠8:=fun e=>by
   unfold dH at hb;rw[e]at hb;simp at hb
  rw[if_neg h8]at hj;omega
 | false=>
  by_cases h8:x.kind=8
  ·rw[if_pos h8]at hj;exact (ZN (by unfold gH;rw[hb,aQJ h8];rfl) h).2.1 hj
  rw[if_neg h8]at hj;obtain⟨_,h2,h3⟩:=K3 hb h;by_cases h9:x.kind=9
  ·have:=(h2 h9).1;omega
  rcases h3 h8 h9 with e|e|e|e
  ·omega
  ·exact e.2
  ·omega
  omega
theorem HE.feed (g:HE c h l) {s:Nat} {f:eN} (hf:kI f) (hw:∀(w:Nat) u,w<8→kK f (w:Int) u=true→Wd l w u) (hq:∀w,w<8→(f.q w).l=((h.feed s).q w).l∨(f.q w).l=[]) (who:Int) (s' : Nat):HE c { jK h who s' with feed:=iK h.feed s f } l∧iP who h { jK h who s' with feed:=iK h.feed s f }:=by
 refine⟨⟨fun i=>?_,g.bk,fun i w u kH F1 => ?_,fun i w kH e he=>?_,fun i w kH => ?_⟩,fun i z _ _ e=>e,aQK _,fun i v e hv he=>?_⟩
 ·show kI (iK h.feed s f i);rw[r4];split
  ·exact hf
  exact g.fd i
 ·replace F1 : kK (iK h.feed s f i) (w:Int) u=true:=F1;rw[r4]at F1;split at F1
  ·exact hw w u kH F1
  exact g.wt i w u kH F1
 ·replace he:e∈((iK h.feed s f i).q w).l:=he;rw[r4]at he;split at he
  ·rename_i ei;subst ei;rcases hq w kH with e1|e1<;>rw[e1]at he
   ·exact g.ev i w kH e he
   cases he
  exact g.ev i w kH e he
 ·show ((iK h.feed s f i).q w).l.Pairwise mG;rw[r4];split
  ·rename_i ei;subst ei;rcases hq w kH with e1|e1<;>rw[e1]
   ·exact g.pw i w kH
   exact aQ4
  exact g.pw i w kH
 replace he:e∈((iK h.feed s f i).q v).l:=he;rw[r4]at he;split at he
 ·rename_i ei;subst ei;rcases hq v hv with e1|e1<;>rw[e1]at he
  ·exact .inl he
  cases he
 exact .inl he
theorem getD_some {α:Type} {l:List (List α)} {j:Nat} {e:α} (h:e∈l.getD j []):l[j]?=some (l.getD j []):=by
 rw[aQQ]at h ⊢
 cases e' : l[j]? with
 | none=>rw[e']at h;cases h
 | some x=>rfl
theorem Xu {i:Nat} {m:eO} {p:dG} {a:fD} (d:DI c p) (hi:p.who=i) (rM:i<8) (ha:p.acts[p.at_]?=some a) (g:HE c h l) (gp:PD c h l i p) (hx:p.op.kind=6→0≤p.placed→Wd l i p.op.user) :
  HE c (eF h m p a).1 l∧iP (i:Int) h (eF h m p a).1∧(eF h m p a).1.time.seq=h.time.seq∧(∀(s:Nat) lst,(eF h m p a).2.2.1.all[s]?=some lst→lst.Pairwise mG∧∀e∈lst,E5 c h.time.seq s e∧Wd l i e.user) ∧
   ((eF h m p a).2.2.1.events=p.events∨gH p.op=true∧0≤p.placed∧(eF h m p a).2.2.1.events.Pairwise mG∧∀e∈(eF h m p a).2.2.1.events,(e.old≠e.new∧1≤e.seq∧e.seq≤h.time.seq)∧Wd l i e.user):=by
 subst hi;have hm:=d.acts ▸ ha;have TZ:=ZM (aQL hm)
 cases a with
 | bad=>exact⟨g,iP.refl _ _,rfl,gp.all,.inl rfl⟩
 | shut=>exact⟨HE.same g rfl (fun _=>rfl) (aQK _),iP.same rfl (fun _=>rfl) (aQK _),rfl,gp.all,.inl rfl⟩
 | look=>exact⟨HE.same g rfl (fun _=>rfl) (aQK _),iP.same rfl (fun _=>rfl) (aQK _),rfl,gp.all,.inl rfl⟩
 | lock s=>
  obtain⟨r1,r2⟩:=ZS (c:=c) h p.who s;exact⟨r2 l g,r1,by show (jC h p.who s).1.time.seq=_;rw[K7],gp.all,.inl Z⟩
 | unlock s=>
  obtain⟨r1,r2⟩:=S6 (c:=c) h p.who s;exact⟨r2 l g,r1,by show (jE h p.who s).1.time.seq=_;rw[HU],gp.all,.inl Z⟩
 | watch=>
  have hb:dH p.op=false:=by
   cases e:dH p.op
   ·rfl
   ·have:=(SS e hm).2;cases this
  have h8:p.op.kind≠8:=fun e=>by
   obtain⟨a1,a2,a3⟩:=ZN (by unfold gH;rw[hb,aQJ e];rfl) hm;rcases aTT p.at_ p.n with h|h|h
   ·have:=a1 h;cases this
   ·have:=a2 h;cases this
   ·rcases a3 h with ⟨_,_,h⟩|⟨_,_,h⟩<;>cases h
  have h9:p.op.kind≠9:=fun e=>by
   have:=((K3 hb hm).2.1 e).2;cases this
  have kU:p.at_=2:=by
   rcases (K3 hb hm).2.2 h8 h9 with e|e|e|e
   ·cases e.2
   ·cases e.2
   ·exact e.1
   ·cases e.2
  have bZ:0≤p.placed:=gp.lk (by unfold LU;rw[if_neg h8,kU];decide);simp only[eF];split
  ·exact⟨g,iP.refl _ _,Z,gp.all,.inl Z⟩
  ·split
   ·exact⟨g,iP.refl _ _,Z,gp.all,.inl Z⟩
   ·have key:kI (if qF p=true then oD (h.feed p.s) (p.who:Int) p.op.user else m6 (h.feed p.s) (p.who:Int) p.op.user)∧(∀(w:Nat) u,w<8→kK (if qF p=true then oD (h.feed p.s) (p.who:Int) p.op.user else m6 (h.feed p.s) (p.who:Int) p.op.user) (w:Int) u=true→Wd l w u)∧(if qF p=true then oD (h.feed p.s) (p.who:Int) p.op.user else m6 (h.feed p.s) (p.who:Int) p.op.user).q=(h.feed p.s).q:=by
     split
     ·rename_i OW;obtain⟨f1,f2⟩:=Lc (g.fd p.s) rM p.op.user;refine⟨f1,fun w u hw hf=>?_,YN _ _ _⟩;rw[f2 w hw]at hf;simp only[aRW,aQV,decide_eq_true_eq]at hf;rcases hf with hf|⟨rfl,rfl⟩
      ·exact g.wt _ w u hw hf
      ·exact hx (of_decide_eq_true OW) bZ
     ·obtain⟨f1,f2⟩:=Lb (g.fd p.s) rM p.op.user;refine⟨f1,fun w u hw hf=>?_,YM _ _ _⟩;rw[f2 w hw]at hf;simp only[aQV]at hf;exact g.wt _ w u hw hf.1
    obtain⟨r1,r2⟩:=g.feed (s:=p.s) key.1 key.2.1 (fun w hw=>.inl (by rw[key.2.2])) (p.who:Int) p.s;exact⟨r1,r2,Z,gp.all,.inl Z⟩
 | drain s=>
  obtain⟨r1,r2⟩:=g.feed (s:=s) (f:=xA (h.feed s) p.who) ((g.fd s).drain _) (fun w u hw hf=>g.wt s w u hw hf) (fun w hw=>by
   unfold xA tE;simp only;split
   ·exact .inr Z
   ·exact .inl Z) (p.who:Int) s
  refine⟨r1,r2,Z,fun j lst e=>?_,.inl Z⟩;rcases BJ e with ⟨rfl,rfl⟩|⟨_,e⟩
  ·exact⟨g.pw _ _ rM,fun e he=>g.ev _ _ rM e he⟩
  ·exact gp.all j lst e
 | last s=>
  obtain⟨r1,r2⟩:=S6 (c:=c) h p.who s;refine⟨r2 l g,r1,by show (jE h p.who s).1.time.seq=_;rw[HU],gp.all,?_⟩;show (if (s:Int)=(p.n:Int)-1 then tM p.all else p.events)=p.events∨gH p.op=true∧0≤p.placed∧(if (s:Int)=(p.n:Int)-1 then tM p.all else p.events).Pairwise mG∧∀e∈(if (s:Int)=(p.n:Int)-1 then tM p.all else p.events),_;split
  ·have lJ:gH p.op=true:=TZ.2
   have h8:p.op.kind=8:=by
    unfold gH at lJ;simp only[aQV,decide_eq_true_eq]at lJ;exact lJ.2
   have yU:LU p<p.at_:=by
    obtain⟨a1,a2,a3⟩:=ZN lJ hm;unfold LU;rw[if_pos h8];rcases aTT p.at_ p.n with h|h|h
    ·have:=a1 h;cases this
    ·have:=a2 h;cases this
    ·exact h
   refine .inr ⟨lJ,gp.lk yU,aCZ (fun j=>?_) (fun j1 j2 bR e he f hf=>?_),fun e he=>?_⟩
   ·rw[aQQ]
    cases e:p.all[j]? with
    | none=>exact aQ4
    | some lst=>exact (gp.all j lst e).1
   ·have h1:=((gp.all j1 _ (getD_some he)).2 e he).1.st;have h2:=((gp.all j2 _ (getD_some hf)).2 f hf).1.st;intro e';rw[e', h2]at h1;omega
   ·obtain⟨j,hj⟩:=aCY he;obtain⟨e1,e2⟩:=(gp.all j _ (getD_some hj)).2 e hj;exact⟨⟨e1.ne,e1.lo,e1.hi⟩,e2⟩
  ·exact .inl Z
theorem Xz {i:Nat} {m:eO} {p:dG} (d:DI c p) (hi:p.who=i) (rM:i<8) (g:HE c h l) (gp:PD c h l i p) (hx:p.op.kind=6→0≤p.placed→Wd l i p.op.user) {pos:Int} (UA:0≤pos) :
  HE c (fR h m p pos).1 l∧PD c (fR h m p pos).1 l i (fR h m p pos).2.2∧iP (i:Int) h (fR h m p pos).1∧(fR h m p pos).1.time.seq=h.time.seq:=by
 unfold fR;split
 ·exact⟨g,gp,iP.refl _ _,Z⟩
 cases ha:p.acts[p.at_]? with
 | none=>exact⟨g,gp,iP.refl _ _,rfl⟩
 | some a=>
  obtain⟨a1,a2,a3,a4,a5⟩:=Xu (m:=m) d hi rM ha g gp hx;obtain⟨k1,k2,k3,k4,k5,k6⟩:=ZL h m p a
  have bZ:0≤p.placed→0≤if (eF h m p a).2.2.2=true then pos else (eF h m p a).2.2.1.placed:=fun h0=>by
   split
   ·exact UA
   rw[k5];exact h0
  refine⟨a1,⟨fun s lst e=>?_,?_,fun e he=>?_,fun bR=>?_,fun aW=>?_⟩,a2,a3⟩
  ·have:=a4 s lst e;show _∧∀e∈lst,E5 c (eF h m p a).1.time.seq s e∧_;rw[a3];exact this
  ·show (eF h m p a).2.2.1.events.Pairwise mG;rcases a5 with e|⟨_,_,e,_⟩
   ·rw[e];exact gp.evp
   exact e
  ·have he:e∈(eF h m p a).2.2.1.events:=he;show (_∧_∧e.seq≤(eF h m p a).1.time.seq)∧_;rw[a3];rcases a5 with e' | ⟨_,_,_,e'⟩
   ·rw[e']at he;exact gp.ev e he
   exact e' e he
  ·show gH (eF h m p a).2.2.1.op=true∧0≤if (eF h m p a).2.2.2=true then pos else (eF h m p a).2.2.1.placed;rw[k3];have bR:(eF h m p a).2.2.1.events≠[]:=bR;rcases a5 with e|⟨e1,e2,_,_⟩
   ·rw[e]at bR;exact⟨(gp.ek bR).1,bZ (gp.ek bR).2⟩
   exact⟨e1,bZ e2⟩
  show 0≤if (eF h m p a).2.2.2=true then pos else (eF h m p a).2.2.1.placed
  have yU:LU p≤p.at_:=by
   have aW:(if (eF h m p a).2.2.1.op.kind=8 then (eF h m p a).2.2.1.n else 1)<p.at_+1:=aW
   have hn:(eF h m p a).2.2.1.n=p.n:=by
    cases a<;>first|rfl|skip
    simp only[eF];split
    ·rfl
    split<;>rfl
   rw[k3,hn]at aW;unfold LU;omega
  rcases aTS yU with h1|h1
  ·exact bZ (gp.lk h1)
  have:a=.look:=aG4 (d.acts ▸ ha) h1.symm;subst this;exact UA
theorem aKB {p:cL} (g:HE c h l) (pos:Int):HE c (jR h p pos).1 l∧iP (p.who:Int) h (jR h p pos).1:=by
 have id_:∀h2:bF,h2.feed=h.feed→h2.strs=h.strs→h2.time=h.time→HE c h2 l∧iP (p.who:Int) h h2:=fun h2 e1 e2 e3=>by
  have es:∀s,aR h2 s=aR h s:=fun s=>by
   unfold aR;rw[e2]
  exact⟨HE.same g e1 (fun s=>by rw[es]) (by rw[e3];exact aQK _),iP.same e1 (fun s=>by rw[es]) (by rw[e3];exact aQK _)⟩
 unfold jR;split
 ·exact id_ _ Z Z Z
 split
 ·exact id_ _ Z Z Z
 unfold iO;split
 ·exact id_ _ Z Z Z
 ·exact id_ _ Z Z Z
 ·exact id_ _ Z Z Z
 ·exact id_ _ Z Z Z
 ·obtain⟨r1,r2⟩:=ZS (c:=c) h p.who (rS p);exact⟨r2 l g,r1⟩
 ·exact id_ _ Z Z Z
 ·exact id_ _ Z Z Z
 ·obtain⟨r1,r2⟩:=S6 (c:=c) h p.who (rS p);exact⟨r2 l g,r1⟩
 exact id_ _ Z Z Z
variable {c:cY} {h h' : bF} {k:Nat} {l l' : List bL}
def PE (c:cY) (h:bF) (l:List bL) (i:Nat):fP→Prop
 | .w p=>PW c h p
 | .r _=>True
 | .d p=>PD c h l i p
theorem PE.other {i:Nat} {x:dE} {p:fP} (hm:PM c i x p) (g:PE c h l i p) {w:Int} (r:iP w h h') (bR:(i:Int)≠w) (hw:∀w u,Wd l w u→Wd l' w u):PE c h' l' i p:=by
 cases p with
 | w p=>exact PW.other g r (by rw[hm.2.1];exact bR)
 | r p=>trivial
 | d p=>exact PD.other g r.sq hw
theorem aII (ci:CI c) (hc:h.cfg=c) (i:Nat) (x:dE):PE c h l i (lA h i x):=by
 have hs:=JI x.user ci.st.1;unfold lA;rw[hc];split
 ·refine⟨aRD _,fun y hy=>?_,fun _ h1=>?_,fun _ h3=>?_⟩
  ·simp only[GQ]at hy;split at hy
   ·cases hy
   obtain rfl:=BQ.wr.inj hy;show eZ x.user c.stripes=(((eZ x.user c.stripes).toNat:Nat):Int);omega
  ·exact absurd h1 (by show ¬1≤0;decide)
  exact absurd h3 (by show ¬(0:Nat)=3;decide)
 split
 ·trivial
 exact aIH _ _ _ _ _
theorem Pr (s:Nat):PW c h (zO s):=
 ⟨by show (0:Int)≤8;decide,fun x hx=>(by cases hx),fun _ h1=>absurd h1 (by show ¬1≤0;decide),fun _ h3=>absurd h3 (by show ¬(0:Nat)=3;decide)⟩
def WN (r:cM) (b:Nat) (x:bL) (e:cI):Prop:=(e.old≠e.new∧1≤e.seq∧e.seq≤r.h.time.seq)∧x.who<8∧x.op.kind=8∧∃(a:Nat) (y:bL),a<b∧r.calls[a]?=some y∧y.who=x.who∧y.op.kind=6∧y.op.user=e.user∧0≤y.placed∧y.placed<x.placed
structure FD (c:cY) (r:cM):Prop where
 he:HE c r.h r.calls
 sq:0≤r.h.time.seq∧r.h.time.seq≤r.n
 ps:∀(i:Nat) (d:eM) p,r.clients[i]?=some d→d.now=some p→PE c r.h r.calls i p
 sw:PW c r.h r.sw.now
 cs:∀(b:Nat) (x:bL),r.calls[b]?=some x→x.reply.events.Pairwise mG∧∀e∈x.reply.events,WN r b x e
theorem V6 (l:List bL) (x:bL):∀w u,Wd l w u→Wd (l++[x]) w u:=fun w u ⟨y,hy,hr⟩=>⟨y,aTE _ hy,hr⟩
theorem Uo {l:List bL} {j:Nat} {f:bL→bL} {x:bL} (hx:l[j]?=some x) (h1:(f x).who=x.who) (h2:(f x).op=x.op) (h3:x.op.kind=6→0≤x.placed→0≤(f x).placed):∀w u,Wd l w u→Wd (l.modify j f) w u:=fun w u ⟨y,hy,y1,y2,y3,y4⟩=>by
 obtain⟨m,hm⟩:=uD hy;have wO:=vK (j:=j) (f:=f) hm;by_cases e:j=m
 ·subst e;rw[hx]at hm;obtain rfl:=aQB hm;rw[if_pos rfl]at wO;exact⟨_,aQL wO,by rw[h1];exact y1,by rw[h2];exact y2,by rw[h2];exact y3,h3 y2 y4⟩
 ·rw[if_neg e]at wO;exact⟨y,aQL wO,y1,y2,y3,y4⟩
theorem FD.app {r r' : cM} (g:FD c r) {x:bL} (hz:x.reply=gA) (e1:r'.calls=r.calls++[x]) (hh:HE c r'.h r.calls) (hs:r'.h.time.seq=r.h.time.seq) (hn:r.n≤r'.n) (bK:∀(i:Nat) (d:eM) p,r'.clients[i]?=some d→d.now=some p→PE c r'.h r'.calls i p) (bJ:PW c r'.h r'.sw.now):FD c r' := by
 refine⟨?_,⟨by rw[hs];exact g.sq.1,by rw[hs];have:=g.sq.2;omega⟩,bK,bJ,fun b y hy=>?_⟩
 ·rw[e1];exact hh.calls (V6 _ _)
 rw[e1]at hy;rcases p8 hy with hy|⟨_,rfl⟩
 ·obtain⟨c1,c2⟩:=g.cs b y hy;refine⟨c1,fun e he=>?_⟩;obtain⟨e1', e2,e3,a,z,e4,e5,e6⟩:=c2 e he;exact⟨by rw[hs];exact e1', e2,e3,a,z,e4,by rw[e1];exact J5 e5,e6⟩
 rw[hz];exact⟨aQ4,fun e he=>by cases he⟩
theorem aIK {i:Nat} {x:dE} {p:fP} (hm:PM c i x p) (h6:x.kind=6) (m:eO) {pos:Int} (h0:0≤pos) (hp:0≤tB p):0≤tB (fC h m pos p).2.2:=by
 cases p with
 | w p=>have:=hm.1;omega
 | r p=>have:=hm.1;omega
 | d p=>
  rcases (TN h m p pos).2.2.2.2 with e|e
  ·show 0≤(fR h m p pos).2.2.placed;rw[e];exact hp
  show 0≤(fR h m p pos).2.2.placed;rw[e];exact h0
theorem aO8:uQ (fun r=>q8 c r∧E8 r) (fun r=>r.n≤10000→FD c r) where
 idle r K g hn:=by
  have CQ : r.n+1≤10000:=hn;have g:=g aTZ;exact⟨g.he,⟨g.sq.1,by have:=g.sq.2;show r.h.time.seq≤r.n+1;omega⟩,g.ps,g.sw,g.cs⟩
 beg r i d K g hd hn ho hN:=by
  obtain⟨K,S⟩:=K;obtain⟨e1,e2,e3,e4,e5,e6⟩:=L3 r i d;have g:=g hN;obtain⟨kk,hH,hR⟩:=K.k;refine g.app (x:=nL r ⟨i,d.at_,d.ops.getD d.at_ fA,0,0,0,0,0,gA⟩) Z e1 g.he Z (aQK _) (fun j d' p hj hp=>?_) g.sw;rw[e1];rcases BJ hj with ⟨rfl,rfl⟩|⟨bR,hj⟩
  ·obtain rfl:lA r.h j (d.ops.getD d.at_ fA)=p:=aQB hp;exact aII K.ci hH.cfg _ _
  ·obtain⟨_,x,hx,_,_,_,_,hm⟩:=K.cur j d' p hj hp;have:=g.ps j d' p hj hp;exact this.other hm (iP.refl (-1) _) aTZ (V6 _ _)
 move r i d p K g hd hn dN hN:=by
  obtain⟨K,S⟩:=K;have N0 : r.n+1≤10000:=hN;have g:=g aTZ;have n0:=K.n0;have i8:=K.who8 hd;obtain⟨hc0,x,hx,hb,hw,yR,bZ,hm⟩:=K.cur i d p hd hn;have FV:=K.bd x (aQL hx);obtain⟨kk,hH,hR⟩:=K.k;have hp:=(hR.cl d (aQL hd)).now p hn;obtain⟨oM,aV⟩:=Es r.h d.mine (n:=r.n+1) FV.2.2.1 aTZ hm hb;obtain⟨k1,k2,k3,k4,k5,k6⟩:=KC x r.n (fC r.h d.mine r.n p).2.2;have gp:=g.ps i d p hd hn
  have key:HE c (fC r.h d.mine r.n p).1 r.calls∧PE c (fC r.h d.mine r.n p).1 r.calls i (fC r.h d.mine r.n p).2.2∧iP (i:Int) r.h (fC r.h d.mine r.n p).1∧(fC r.h d.mine r.n p).1.time.seq≤r.h.time.seq+1:=by
   cases p with
   | w p=>
    obtain⟨a1,a2,a3,a4⟩:=Un hH hp g.he gp g.sq.1 (by have:=g.sq.2;omega) r.n;rw[hm.2.1]at a3;exact⟨a1,a2,a3,a4⟩
   | r p=>
    obtain⟨a1,a2⟩:=aKB (p:=p) g.he r.n;rw[hm.2.1]at a2;exact⟨a1,trivial,a2,by show (jR r.h p r.n).1.time.seq≤_;rw[Qq];omega⟩
   | d p=>
    obtain⟨a1,a2,a3,a4⟩:=Xz (m:=d.mine) hp hm.2.2.1 i8 g.he gp (fun h6 h0=>⟨x,aQL hx,hw,by rw[←hm.2.2.2.2];exact h6,by rw[←hm.2.2.2.2],by rw[bZ];exact h0⟩) n0;exact⟨a1,a2,a3,by show (fR r.h d.mine p r.n).1.time.seq≤_;rw[a4];omega⟩
  obtain⟨a1,a2,a3,a4⟩:=key
  have wd:=Uo (f:=fun x=>iR x r.n (fC r.h d.mine r.n p).2.2) hx k1 k2 (fun h6 h0=>by
   show 0≤(iR x r.n (fC r.h d.mine r.n p).2.2).placed;rw[k4]
   exact aIK hm h6 d.mine n0 (by rw[←bZ];exact h0))
  have hsq:=a3.sq;have s2:=g.sq;refine⟨a1.calls wd,⟨by show 0≤(fC r.h d.mine r.n p).1.time.seq;omega,by show (fC r.h d.mine r.n p).1.time.seq≤r.n+1;omega⟩,fun j d' p' hj bO => ?_,g.sw.other a3 (by rw[K.sww.1];omega),fun b y hy=>?_⟩
  ·rcases BJ hj with ⟨rfl,rfl⟩|⟨xM,hj⟩
   ·simp only at bO;split at bO
    ·cases bO
    obtain rfl:=aQB bO;have e:(fC r.h d.mine r.n p).2.2=(fC r.h d.mine r.n p).2.2:=Z;exact PE.other oM a2 (iP.refl (-1) _) aTZ wd
   obtain⟨_,x2,_,_,_,_,_,tX⟩:=K.cur j d' p' hj bO;exact (g.ps j d' p' hj bO).other tX a3 aTZ wd
  ·obtain⟨z,hz,rfl⟩:=rU hy
   have keepc:∀(e:cI),b≠d.call.toNat→WN r b z e→WN (qU (oS r i d p)) b z e:=fun e eX ⟨e1,e2,e3,a,y,e4,e5,e6,e7⟩=>by
    refine⟨⟨e1.1,e1.2.1,by have:=e1.2.2;show e.seq≤(fC r.h d.mine r.n p).1.time.seq;omega⟩,e2,e3,a,y,e4,?_,e6,e7⟩;have:=vK (j:=d.call.toNat) (f:=fun x=>iR x r.n (fC r.h d.mine r.n p).2.2) e5
    rwa [if_neg (fun ej=>?_)]at this
    subst ej;rw[hx]at e5;obtain rfl:=aQB e5;have:=S.mx i d hd aVF b z hz aTZ;omega
   by_cases e:d.call.toNat=b
   ·rw[if_pos e];subst e;rw[hx]at hz;obtain rfl:=aQB hz
    cases jF:rV (fC r.h d.mine r.n p).2.2 with
    | false=>
     rw[(k5 jF).2,S.zr x (aQL hx) aTZ];exact⟨aQ4,fun e he=>by cases he⟩
    | true=>
     rw[(k6 jF).2]
     cases p with
     | w p=>exact⟨aQ4,fun e he=>by cases he⟩
     | r p=>
      have:(BE (fC r.h d.mine r.n (fP.r p)).2.2).events=[]:=by
       show (zB (jR r.h p r.n).2).events=[];unfold zB;split<;>rfl
      rw[this];exact⟨aQ4,fun e he=>by cases he⟩
     | d p=>
      have sP:(BE (fC r.h d.mine r.n (fP.d p)).2.2).events=(fR r.h d.mine p r.n).2.2.events:=by
       show (xJ (fR r.h d.mine p r.n).2.2).events=_;unfold xJ;rw[if_pos (show rL (fR r.h d.mine p r.n).2.2=true from jF)]
      rw[sP];have pd:PD c (fR r.h d.mine p r.n).1 r.calls i (fR r.h d.mine p r.n).2.2:=a2;refine⟨pd.evp,fun e he=>?_⟩;obtain⟨c1,y,UL, y1,y2,y3,y4⟩:=pd.ev e he;obtain⟨lJ,hp0⟩:=pd.ek (fun e' => by rw[e']at he;cases he);have LK:(fR r.h d.mine p r.n).2.2.op=x.op:=oM.2.2.2.2;rw[LK]at lJ
      have h8:x.op.kind=8:=by
       unfold gH at lJ;simp only[aQV,decide_eq_true_eq]at lJ;exact lJ.2
      obtain⟨a,ha⟩:=uD UL;have rN:=S.mx i d hd aVF a y ha y1
      have bR:a≠d.call.toNat:=by
       rintro rfl;rw[hx]at ha;obtain rfl:=aQB ha;omega
      have aW:a<d.call.toNat:=by omega
      have hs:=(S.sq a d.call.toNat y x ha hx aW aTZ aTZ).1;refine⟨⟨c1.1,c1.2.1,c1.2.2⟩,by rw[k1];omega,by rw[k2];exact h8,a,y,aW,?_,by rw[k1];omega,y2,y3,y4,?_⟩
      ·have:=vK (j:=d.call.toNat) (f:=fun x=>iR x r.n (fC r.h d.mine r.n (fP.d p)).2.2) ha
       rwa [if_neg (fun e=>bR e.symm)]at this
      rw[k4];have nA:=aV.pl;show y.placed<(fR r.h d.mine p r.n).2.2.placed;rcases nA with hq|hq
      ·have hq:(fR r.h d.mine p r.n).2.2.placed=-1:=hq;omega
      have hq:x.began≤(fR r.h d.mine p r.n).2.2.placed∧_:=hq;omega
   ·rw[if_neg e];obtain⟨c1,c2⟩:=g.cs b z hz;exact⟨c1,fun e' he=>keepc e' (fun h=>e h.symm) (c2 e' he)⟩
 swb r K g hs _ _ hN:=by
  obtain⟨K,S⟩:=K
  have e:eU r={ jH r ⟨8,r.sweeps,fA,r.sw.stripe,0,0,0,0,gA⟩with sweep:=r.calls.length,sweeps:=r.sweeps+1 }:=by
   unfold eU;rw[if_pos hs]
  have g:=g (by rw[e]at hN;exact hN);rw[e];refine g.app (x:=nL r ⟨8,r.sweeps,fA,r.sw.stripe,0,0,0,0,gA⟩) Z Z g.he Z (aQK _) (fun j d' p hj hp=>?_) g.sw;obtain⟨_,x,hx,_,_,_,_,hm⟩:=K.cur j d' p hj hp;exact (g.ps j d' p hj hp).other hm (iP.refl (-1) _) aTZ (V6 _ _)
 swm r K g hs dN hN:=by
  obtain⟨K,S⟩:=K;have n0:=K.n0;obtain⟨x,hx,hw,yR,O0,bZ,aM⟩:=K.swc hs;obtain⟨kk,hH,hR⟩:=K.k
  have gen:∀(f:bL→bL) (r' : cM),r.n+1≤10000→(∀y,(f y).who=y.who∧(f y).op=y.op∧(f y).reply=y.reply)→(0≤x.placed→0≤(f x).placed)→r'.calls=r.calls.modify r.sweep.toNat f→r'.clients=r.clients→r'.h=(dQ r.h r.sw.now r.n).1→r'.n=r.n+1→(PW c (dQ r.h r.sw.now r.n).1 (dQ r.h r.sw.now r.n).2→PW c r'.h r'.sw.now)→FD c r' := fun f r' N0 hf AO e1 e2 e3 e4 e5=>by
   have g:=g aTZ;obtain⟨a1,a2,a3,a4⟩:=Un hH hR.sw g.he g.sw g.sq.1 (by have:=g.sq.2;omega) r.n;rw[K.sww.1]at a3;have wd:=Uo (f:=f) hx (hf x).1 (hf x).2.1 (fun _=>AO);have hsq:=a3.sq;have s2:=g.sq;refine⟨by rw[e3,e1];exact a1.calls wd,by rw[e3,e4];omega,fun j d' p' hj bO => ?_,e5 a2,fun b y hy=>?_⟩
   ·rw[e2]at hj;obtain⟨_,x2,_,_,_,_,_,tX⟩:=K.cur j d' p' hj bO;have:=K.who8 hj;rw[e3,e1];exact (g.ps j d' p' hj bO).other tX a3 aTZ wd
   rw[e1]at hy;obtain⟨z,hz,rfl⟩:=rU hy;obtain⟨c1,c2⟩:=g.cs b z hz;by_cases e:r.sweep.toNat=b
   ·rw[if_pos e,(hf z).2.2];refine⟨c1,fun e' he=>?_⟩;subst e;rw[hx]at hz;obtain rfl:=aQB hz;have:=(c2 e' he).2.1;omega
   rw[if_neg e];refine⟨c1,fun e' he=>?_⟩;obtain⟨d1,d2,d3,a,y,d4,d5,d6,d7⟩:=c2 e' he;refine⟨⟨d1.1,d1.2.1,by rw[e3];have:=d1.2.2;omega⟩,d2,d3,a,y,d4,?_,d6,d7⟩;rw[e1];have:=vK (j:=r.sweep.toNat) (f:=f) d5
   rwa [if_neg (fun ej=>?_)]at this
   subst ej;rw[hx]at d5;obtain rfl:=aQB d5;omega
  cases hd:lC (dQ r.h r.sw.now r.n).2 with
  | true=>
   rw[I8 hd]at hN ⊢;exact gen (fun x=>{ x with ended:=r.n }) _ hN (fun _=>⟨Z,Z,Z⟩) (fun h=>h) Z Z Z Z (fun _=>Pr _)
  | false=>
   rw[I9 hd]at hN ⊢;refine gen (fun x=>{ x with placed:=(dQ r.h r.sw.now r.n).2.placed }) _ hN (fun _=>⟨Z,Z,Z⟩) (fun h=>?_) Z Z Z Z (fun h=>h);show 0≤(dQ r.h r.sw.now r.n).2.placed;rcases (MM r.h r.sw.now r.n).2.2.2 with e|e<;>rw[e]
   ·rw[←bZ];exact h
   ·exact n0
 tick r b K g _ _ hN:=by
  obtain⟨K,S⟩:=K;have N0 : r.n+1≤10000:=hN;have g:=g aTZ;have rel:iP 9 r.h (xU r b).h:=iP.same Z (fun _=>rfl) (aQK _);refine g.app (x:=⟨9,r.ticks,fA,0,b,r.n,r.n,r.n,gA⟩) Z Z (HE.same g.he Z (fun _=>rfl) (aQK _)) Z aUS (fun j d' p hj hp=>?_) (g.sw.other rel (by rw[K.sww.1];decide));obtain⟨_,x,hx,_,_,_,_,hm⟩:=K.cur j d' p hj hp;have:=K.who8 hj;exact (g.ps j d' p hj hp).other hm rel aTZ (V6 _ _)
theorem aO9 {s:iI} (ci:CI s.cfg) (fp:Nat→Nat):FD s.cfg (zG s fp):=by
 have aM:∀i,(aR (sH s.cfg fp) i).book=uE:=fun i=>by
  unfold aR;rw[aQQ]
  cases e:(sH s.cfg fp).strs[i]? with
  | none=>rfl
  | some x=>
   have:=aQL e;obtain⟨j,_,rfl⟩:=aRL.1 this;rfl
 refine⟨⟨fun i=>⟨aQ4,Z,fun u=>?_⟩,fun i u hu=>?_,fun i w u hw hf=>?_,fun i w hw e he=>(by cases he),fun i w hw=>aQ4⟩,⟨aQK _,aQK _⟩,fun j d p hj hp=>?_,Pr _,fun b x hx=>(by cases hx)⟩
 ·have:jJ (xC s.cfg) u=0:=Z;show zZ (jJ (xC s.cfg) u);rw[this];exact O8
 ·have hu:u∈(aR (sH s.cfg fp) i).book.keys:=hu;rw[aM]at hu;cases hu
 ·have g:kI (xC s.cfg):=⟨aQ4,Z,fun u=>by
   have:jJ (xC s.cfg) u=0:=Z;rw[this]
   exact O8⟩
  have hf:kK (xC s.cfg) (w:Int) u=true:=hf;rw[KK g hw]at hf;have:jJ (xC s.cfg) u=0:=Z;rw[this]at hf;simp at hf
 obtain⟨l,_,rfl⟩:=aRL.1 (aQL hj);cases hp
variable {c:cY} {h h' : bF} {k:Nat} {l l' : List bL}
abbrev BF:=dV × eN
def hv (h:bF) (s:Nat):BF:=((aR h s).book,h.feed s)
structure gW (y:BF) (tb:cX) (s:Nat):Prop where
 bk:oA y.1
 bt:tb.books[s]?=some (f7 y.1)
 fd:∃F,tb.feeds[s]?=some F∧r9 y.2 F
theorem gW.same {y:BF} {tb tb' : cX} {s:Nat} (g:gW y tb s) (e1:tb'.books=tb.books) (e2:tb'.feeds=tb.feeds):gW y tb' s:=⟨g.bk,by rw[e1];exact g.bt,by rw[e2];exact g.fd⟩
theorem gW.put {y:BF} {tb:cX} {s s' : Nat} (g:gW y tb s) (bR:s≠s') {t:mZ} (b:List (ByteArray × dS)) (f:bW→bW):gW y { tb with time:=t,books:=tb.books.set s' b,feeds:=tb.feeds.modify s' f } s:=by
 obtain⟨F,h1,h2⟩:=g.fd;refine⟨g.bk,?_,F,?_,h2⟩
 ·show (tb.books.set s' b)[s]?=_;rw[aRN (fun e=>bR e.symm)];exact g.bt
 show (tb.feeds.modify s' f)[s]?=_;rw[vK h1,if_neg (fun e=>bR e.symm)]
theorem gW.at_ {y:BF} {tb:cX} {s:Nat} (g:gW y tb s) {t:mZ} {b:dV} {f:eN} {F:bW→bW} (hb:oA b) (hf:∀F0,r9 y.2 F0→r9 f (F F0)):gW (b,f) { tb with time:=t,books:=tb.books.set s (f7 b),feeds:=tb.feeds.modify s F } s:=by
 obtain⟨F0,h1,h2⟩:=g.fd;refine⟨hb,?_,F F0,?_,hf F0 h2⟩
 ·show (tb.books.set s (f7 b))[s]?=_;rw[aQ8 (aQG.1 g.bt).1]
 show (tb.feeds.modify s F)[s]?=_;rw[vK h1,if_pos rfl]
theorem gW.feed {y:BF} {tb:cX} {s:Nat} (g:gW y tb s) (s' : Nat) {f:eN} {F:bW→bW} (hf:s=s' →∀F0,r9 y.2 F0→r9 f (F F0)):gW (if s=s' then (y.1,f) else y) { tb with feeds:=tb.feeds.modify s' F } s:=by
 obtain⟨F0,h1,h2⟩:=g.fd;split
 ·rename_i e;subst e;refine⟨g.bk,g.bt,F F0,?_,hf Z F0 h2⟩;show (tb.feeds.modify s F)[s]?=_;rw[vK h1,if_pos rfl]
 rename_i e;refine⟨g.bk,g.bt,F0,?_,h2⟩;show (tb.feeds.modify s' F)[s]?=_;rw[vK h1,if_neg (fun h=>e h.symm)]
theorem gW.drain {y:BF} {tb:cX} {s:Nat} (g:gW y tb s) (w:Nat):gW (y.1,xA y.2 w) { tb with feeds:=tb.feeds.map fun f=>BG f w } s:=by
 obtain⟨F0,h1,h2⟩:=g.fd;refine⟨g.bk,g.bt,BG F0 w,?_,h2.drain w⟩;show (tb.feeds.map _)[s]?=_;rw[aR7,h1];rfl
def TC (c:cY) (tb:cX):Prop:=tb.c={ c with queue:=1 }
theorem TC.at {tb:cX} (h:TC c tb) (u:ByteArray):oP tb u=(eZ u c.stripes).toNat:=by
 unfold oP;rw[show tb.c=_ from h]
theorem aI6 (tb:cX) (w:Nat) (x:dE):(fW tb w x).1.c=tb.c:=by
 unfold fW EU zE
 repeat' split
 all_goals rfl
theorem aI2 (tb:cX) (x:bL):(kQ tb x).c=tb.c:=by
 unfold kQ;split
 ·rfl
 split
 ·unfold qV;split<;>rfl
 exact aI6 _ _ _
theorem V3 (c:cY) (l:List bL):∀p,TC c (dR c l p)
 | 0=>rfl
 | p+1=>by
  unfold TC;rw[E0];unfold y9;split
  ·rw[aI2];exact V3 c l p
  ·exact V3 c l p
def BM (c:cY) (t:mZ):BQ→BF→BF
 | .bad,y=>y
 | .wr x,y=>if t.closed=true then y else ((f6 y.1 x t.now c.sessions).1,l2 y.2 (f6 y.1 x t.now c.sessions).2.1 t.seq)
 | .sw,y=>((f5 y.1 t.now).1,l2 y.2 (f5 y.1 t.now).2 t.seq)
theorem KZ {α:Type} {l:List α} {s:Nat} {x:α} (h:l[s]?=some x) (z:α):l.getD s z=x:=by
 rw[aQQ,h];rfl
theorem aPF {tb:cX} (hT:TC c tb) {x:dE} (hb:dH x=false) (hk:x.kind=1∨x.kind=2∨x.kind=3) (w:Nat) {s:Nat} (hs:(eZ x.user c.stripes).toNat=s):(fW tb w x).1.time=n7 tb.time∧(∀s' y,s' ≠ s→gW y tb s' → gW y (fW tb w x).1 s')∧∀y,gW y tb s→QI y.2.q c.queue→c.queue≤16→gW (BM c (n7 tb.time) (.wr x) y) (fW tb w x).1 s:=by
 have e:fW tb w x=if tb.time.closed=true then ({ tb with time:=n7 tb.time },pG 5) else EU tb x:=by
  unfold fW;rw[if_neg aUN,if_neg aTZ,if_pos aTZ]
 rw[e];unfold BM;by_cases hc:tb.time.closed=true
 ·rw[if_pos hc];refine⟨Z,fun s' y _ g=>g.same Z Z,fun y g _ _=>?_⟩;simp only;rw[if_pos (show (n7 tb.time).closed=true from hc)];exact g.same Z Z
 rw[if_neg hc];have ea:=hT.at x.user;unfold EU;rw[ea,hs];refine⟨Z,fun s' y bR g=>g.put bR _ _,fun y g hq hr=>?_⟩;simp only;rw[if_neg (show ¬(n7 tb.time).closed=true from hc),KZ g.bt,show tb.c.sessions=c.sessions by rw[show tb.c=_ from hT]];obtain⟨e1,e2⟩:=Ra g.bk x tb.time.now c.sessions;rw[e1];exact g.at_ e2 fun F0 hF=>hF.tell hr hq _ _
theorem aN3 {tb:cX} {s:Nat}:((∃y,gW y tb s)→(qV tb (s:Int)).time=n7 tb.time)∧(∀s' y,s' ≠ s→gW y tb s' → gW y (qV tb (s:Int)) s')∧∀y,gW y tb s→QI y.2.q c.queue→c.queue≤16→gW (BM c (n7 tb.time) .sw y) (qV tb (s:Int)) s:=by
 have e:(∃y,gW y tb s)→qV tb (s:Int)={ tb with time:=n7 tb.time,books:=tb.books.set s (pI (tb.books.getD s []) tb.time.now).1,feeds:=tb.feeds.modify s fun f=>rY f (pI (tb.books.getD s []) tb.time.now).2 (d8 tb.time.seq 1) }:=fun ⟨y,g⟩=>by
  unfold qV;have:=(aQG.1 g.bt).1;rw[if_neg aTZ];rfl
 refine⟨fun h=>by rw[e h],fun s' y bR g=>?_,fun y g hq hr=>?_⟩
 ·unfold qV;split
  ·exact g
  exact g.put bR _ _
 rw[e ⟨y,g⟩,KZ g.bt];obtain⟨e1,e2⟩:=Qs g.bk tb.time.now;rw[e1];exact g.at_ e2 fun F0 hF=>hF.tell hr hq _ _
variable {c:cY} {h h' : bF} {k:Nat} {l l' : List bL}
theorem DQ {α β:Type} {a a' : α} {b b' : β} (h1:a=a') (h2:b=b'):(a,b)=(a', b'):=by rw[h1,h2]
abbrev la (h:bF) (s:Nat):Int:=(aR h s).latch
structure SR (c:cY) (w:Int) (h h' : bF) (pd pd' : Nat→BF→BF) (tb tb' : cX):Prop where
 sl:∀s z,0≤z→z≠w→la h s=z+1→la h' s=z+1
 sf:∀s,la h s=0∨la h s=w+1→la h' s=0∨la h' s=w+1
 sv:∀s,la h s≠w+1→hv h' s=hv h s
 so:∀(s:Nat) y,(s:Int)<c.stripes→la h s≠w+1→gW y tb s→gW y tb' s
 sn:∀s:Nat,(s:Int)<c.stripes→la h s=0→la h' s=w+1→∀y,pd' s y=y
 sm:∀s:Nat,(s:Int)<c.stripes→la h s=w+1→gW (pd s (hv h s)) tb s→gW (pd' s (hv h' s)) tb' s∧(la h' s≠w+1→∀y,pd' s y=y)
theorem SR.quiet {w:Int} {tb:cX} {pd pd' : Nat→BF→BF} (h0:∀s y,pd s y=y) (h1:∀s y,pd' s y=y) (e1:∀s,hv h' s=hv h s) (e2:∀s z,0≤z→z≠w→la h s=z+1→la h' s=z+1) (e3:∀s,la h s=0∨la h s=w+1→la h' s=0∨la h' s=w+1):SR c w h h' pd pd' tb tb:=
 ⟨e2,e3,fun s _=>e1 s,fun s y _ _ g=>g,fun s _ _ _=>h1 s,fun s _ _ g=>⟨by rw[h1,e1];rw[h0]at g;exact g,fun _=>h1 s⟩⟩
theorem SR.still {w:Int} {tb:cX} {pd pd' : Nat→BF→BF} (h0:∀s y,pd s y=y) (h1:∀s y,pd' s y=y) (e1:∀s,hv h' s=hv h s) (e2:∀s,la h' s=la h s):SR c w h h' pd pd' tb tb:=
 .quiet h0 h1 e1 (fun s z _ _ e=>by rw[e2];exact e) (fun s e=>by rw[e2];exact e)
theorem aG3 (h:bF) (w:Int) (s i:Nat):hv (jC h w s).1 i=hv h i:=by
 unfold hv;refine DQ ?_ ?_
 ·unfold jC;split
  ·refine DR (dM h w 5 (eE s 1)) s ?_ i;rfl
  rfl
 unfold jC;split<;>rfl
theorem aOZ (h:bF) (w:Int) (s i:Nat):hv (jE h w s).1 i=hv h i:=by
 unfold hv;refine DQ ?_ ?_
 ·unfold jE;split
  ·refine DR (dM h w 6 (eE s 1)) s ?_ i;rfl
  rfl
 unfold jE;split<;>rfl
theorem UU {w:Int} {s:Nat} (hs:s<h.strs.length) (hw:0≤w) (h0:la h s=0) (i:Nat):la (jC h w s).1 i=if i=s then w+1 else la h i:=by
 have ht:pX (aR h s).latch w=(w+1,true):=by
  unfold pX;rw[if_neg (by have:(aR h s).latch=0:=h0;omega)]
 unfold jC;rw[ht,if_pos rfl];split
 ·rename_i e;subst e;show (aR (gP (dM h w 5 (eE i 1)) i _) i).latch=_;rw[S4 (by exact hs)]
 rename_i e;show (aR (gP (dM h w 5 (eE s 1)) s _) i).latch=_;rcases yM (dM h w 5 (eE s 1)) s { aR h s with latch:=w+1 } i with e' | ⟨rfl,e'⟩
 ·rw[e'];rfl
 exact absurd Z e
theorem Hj {w:Int} {s:Nat} (hs:s<h.strs.length) (hw:0≤w) (i:Nat):la (jE h w s).1 i=if i=s∧la h s=w+1 then 0 else la h i:=by
 unfold jE;by_cases h0:la h s=w+1
 ·have ht:pW (aR h s).latch w=(0,true):=by
   unfold pW;rw[if_neg (by have:(aR h s).latch=w+1:=h0;omega)]
  rw[ht,if_pos rfl];by_cases e:i=s
  ·subst e;rw[if_pos ⟨rfl,h0⟩];show (aR (gP (dM h w 6 (eE i 1)) i _) i).latch=_;rw[S4 (by exact hs)]
  rw[if_neg (fun hh=>e hh.1)];show (aR (gP (dM h w 6 (eE s 1)) s _) i).latch=_;rcases yM (dM h w 6 (eE s 1)) s { aR h s with latch:=0 } i with e' | ⟨rfl,e'⟩
  ·rw[e'];rfl
  exact absurd Z e
 have ht:(pW (aR h s).latch w).2=false:=by
  unfold pW
  rw[if_pos (by
   by_cases e:(aR h s).latch=0
   ·exact .inl e
   exact .inr fun e' => h0 (by show (aR h s).latch=w+1;omega))]
 rw[if_neg (by rw[ht];decide),if_neg (fun hh=>h0 hh.2)]
theorem SR.lock {w:Int} {s:Nat} (hs:s<h.strs.length) (hw:0≤w) (h0:la h s=0) {tb:cX} {pd pd' : Nat→BF→BF} (p0:∀s y,pd s y=y) (p1:∀s y,pd' s y=y):SR c w h (jC h w s).1 pd pd' tb tb:=
 .quiet p0 p1 (aG3 h w s) (fun i z _ _ e=>by
  rw[UU hs hw h0];split
  ·rename_i ei;subst ei;omega
  ·exact e) (fun i e=>by
  rw[UU hs hw h0];split
  ·exact .inr Z
  ·exact e)
theorem SR.unlock {w:Int} {s:Nat} (hs:s<h.strs.length) (hw:0≤w) {tb:cX} {pd pd' : Nat→BF→BF} (p0:∀s y,pd s y=y) (p1:∀s y,pd' s y=y):SR c w h (jE h w s).1 pd pd' tb tb:=
 .quiet p0 p1 (aOZ h w s) (fun i z _ _ e=>by
  rw[Hj hs hw];split
  ·rename_i ei;obtain⟨rfl,e2⟩:=ei;omega
  ·exact e) (fun i e=>by
  rw[Hj hs hw];split
  ·exact .inl Z
  ·exact e)
def r8 (c:cY) (p:fE) (s:Nat) (y:BF):BF:=if p.at_=3∧p.s=s then BM c p.time p.act y else y
theorem BL {p:fE} (h:p.at_≠3) (s:Nat) (y:BF):r8 c p s y=y:=if_neg fun e=>h e.1
theorem aO6 {p:fE} (h:p.at_=3) (s:Nat) (y:BF):r8 c p s y=if p.s=s then BM c p.time p.act y else y:=by
 unfold r8;by_cases e:p.s=s
 ·rw[if_pos ⟨h,e⟩,if_pos e]
 rw[if_neg (fun hh=>e hh.2),if_neg e]
theorem aDY {p:fE} (dN:j6 h p=true) (hb:p.act≠.bad) (h0:p.at_=0):la h p.s=0:=by
 unfold j6 at dN;simp only[aQV,aRW,decide_eq_true_eq]at dN;rcases dN.2 with hw|hw
 ·unfold E3 at hw
  rw[if_neg (by
   have:nC p.act=false:=by
    cases e:p.act with
    | bad=>exact absurd e hb
    | _=>rfl
   simp[h0,this])]at hw
  omega
 exact bA hw
def FC (c:cY) (p:fE) (tb tb' : cX):Prop:=if nC p.act=false∧p.at_=2 then
  tb'.time=n7 tb.time∧(∀s' y,s' ≠ p.s→gW y tb s' → gW y tb' s')∧∀y,gW y tb p.s→QI y.2.q c.queue→c.queue≤16→gW (BM c (n7 tb.time) p.act y) tb' p.s
 else tb' = tb
theorem Ix (h:bF) (s:Nat) {x:oY} (hx:x.book=(aR h s).book) (i:Nat) (who kind place:Int):hv (gP (dM h who kind place) s x) i=hv h i:=by
 unfold hv;refine DQ ?_ Z;exact DR (dM h who kind place) s hx i
theorem Ul (gi:HI c h k) (hq:c.queue≤16) {p:fE} (wi:vX c p) (pw:PW c h p) {tb tb' : cX} (ht:tb.time=h.time) (dN:j6 h p=true) (tu:FC c p tb tb') (pos:Int):SR c p.who h (dQ h p pos).1 (r8 c p) (r8 c (dQ h p pos).2) tb tb' ∧ tb'.time=(dQ h p pos).1.time:=by
 have aW:=gi.lt wi.s;have w0:=pw.w0;unfold dQ;rw[if_neg (by rw[dN];decide)];unfold FC at tu;split
 ·rename_i kV
  have hb:p.act=.bad:=by
   cases e:p.act with
   | bad=>rfl
   | _=>rw[e]at kV;cases kV
  rw[if_neg (fun e=>by have:=e.1;rw[hb]at this;cases this)]at tu;subst tu
  have id0:∀q:fE,q.act=.bad→∀s y,r8 c q s y=y:=fun q hq s y=>by
   unfold r8;rw[hq];split<;>rfl
  exact⟨.still (id0 _ hb) (id0 _ hb) (fun _=>rfl) fun _=>rfl,ht⟩
 rename_i kV;have hb:p.act≠.bad:=fun e=>kV (by rw[e];rfl);have la0:=pw.la hb;dsimp only;generalize hp1:(if p.at_=2 then { p with placed:=pos } else p)=p1
 have q1:p1.act=p.act∧p1.who=p.who∧p1.s=p.s∧p1.time=p.time:=by
  rw[←hp1];split<;>exact⟨rfl,rfl,rfl,rfl⟩
 have no:∀j,j≠3→∀(q:fE) s y,r8 c { q with at_:=j } s y=y:=fun j hj q s y=>BL (p:={ q with at_:=j }) hj s y;rcases hj:p.at_ with _|_|_|_|_|_|j
 ·rw[if_neg (fun e=>by have:=e.2;omega)]at tu;subst tu;refine⟨?_,?_⟩
  ·show SR c p.who h (jC h p1.who p1.s).1 _ _ _ _;rw[q1.2.1,q1.2.2.1];exact .lock aW w0 (aDY dN hb hj) (BL aTZ) (no 1 aTZ _)
  show _=(jC h p1.who p1.s).1.time;rw[K7];exact ht
 ·rw[if_neg (fun e=>by have:=e.2;omega)]at tu;subst tu;refine⟨.still (BL aTZ) (no 2 aTZ _) (fun i=>?_) (fun i=>?_),ht⟩
  ·refine Ix h p1.s ?_ i p1.who 4 (eE p1.s 2);rfl
  refine xQ (dM h p1.who 4 (eE p1.s 2)) p1.s ?_ i;rfl
 ·rw[if_pos ⟨by simpa using kV,hj⟩]at tu;obtain⟨t1,t2,t3⟩:=tu;refine⟨⟨fun s z _ _ e=>e,fun s e=>e,fun s _=>rfl,fun s y _ bR g=>t2 s y (fun e=>bR (by rw[e];exact la0 aTZ aTZ)) g,fun s _ e1 e2=>?_,fun s hs hl g=>?_⟩,?_⟩
  ·have e2:la h s=p.who+1:=e2;omega
  ·rw[BL aTZ]at g;refine⟨?_,fun bR=>absurd hl bR⟩;rw[aO6 (by show 2+1=3;rfl)];show gW (if p1.s=s then BM c (pR h p1.who).time p1.act (hv h s) else hv h s) tb' s;rw[q1.2.2.1,q1.1];split
   ·rename_i e;subst e;have:=t3 (hv h p.s) g (gi.fq p.s) hq;rw[ht]at this;exact this
   rename_i e;exact t2 s _ (fun e' => e e'.symm) g
  rw[t1,ht];rfl
 ·rw[if_neg (fun e=>by have:=e.2;omega)]at tu;subst tu;have la3:=la0 aTZ aTZ
  have key:∀(h2:bF) (q:fE),(∀s,la h2 s=la h s)→h2.time=h.time→(∀s,hv h2 s=if p.s=s then BM c p.time p.act (hv h s) else hv h s)→SR c p.who h h2 (r8 c p) (r8 c { q with at_:=3+1 }) tb' tb' ∧ tb'.time=h2.time:=fun h2 q e1 e2 e3=>by
   refine⟨⟨fun s z _ _ e=>by rw[e1];exact e,fun s e=>by rw[e1];exact e,fun s bR=>?_,fun s y _ _ g=>g,fun s _ _ _=>no 4 aTZ q s,fun s hs hl g=>⟨?_,fun _=>no 4 aTZ q s⟩⟩,by rw[e2];exact ht⟩
   ·rw[e3,if_neg];rintro rfl;exact bR la3
   rw[no 4 aTZ,e3];unfold r8 at g;by_cases e:p.s=s
   ·rw[if_pos ⟨hj,e⟩]at g;rw[if_pos e];exact g
   rw[if_neg (fun hh=>e hh.2)]at g;rw[if_neg e];exact g
  have put:∀(b:dV) (f:eN) (who:Int) s,hv { gP (jK h who p.s) p.s { aR h p.s with book:=b } with feed:=iK h.feed p.s f } s=if p.s=s then (b,f) else hv h s:=fun b f who s=>by
   unfold hv;split
   ·rename_i e;subst e;refine DQ ?_ ?_
    ·show (aR (gP (jK h who p.s) p.s _) p.s).book=_;rw[S4 (by exact aW)]
    show iK h.feed p.s f p.s=f;rw[r4,if_pos rfl]
   rename_i e;refine DQ ?_ ?_
   ·show (aR (gP (jK h who p.s) p.s _) s).book=_;rcases yM (jK h who p.s) p.s { aR h p.s with book:=b } s with e' | ⟨e', _⟩
    ·rw[e'];rfl
    exact absurd e'.symm e
   show iK h.feed p.s f s=_;rw[r4,if_neg (fun e' => e e'.symm)]
  have lat:∀(b:dV) (f:eN) (who:Int) s,la { gP (jK h who p.s) p.s { aR h p.s with book:=b } with feed:=iK h.feed p.s f } s=la h s:=fun b f who s=>by
   refine xQ (jK h who p.s) p.s ?_ s;rfl
  cases ea:p1.act with
  | bad=>exact absurd (q1.1.symm.trans ea) hb
  | wr x=>
   simp only[jV,ea];rw[q1.2.1,q1.2.2.1,q1.2.2.2];have epa:p.act=.wr x:=q1.1.symm.trans ea;by_cases hc:p.time.closed=true
   ·have ew:k7 h p.who p.s x p.time=(jK h p.who p.s,5):=by
     unfold k7;rw[if_pos hc]
    rw[ew];refine key _ ⟨_,_,_,0,_,_,_⟩ (fun s=>rfl) Z fun s=>?_;rw[epa];unfold BM;simp only;rw[if_pos hc];split<;>rfl
   have ew:(k7 h p.who p.s x p.time).1={ gP (jK h p.who p.s) p.s { aR h p.s with book:=(f6 (aR h p.s).book x p.time.now h.cfg.sessions).1 } with feed:=iK h.feed p.s (l2 (h.feed p.s) (f6 (aR h p.s).book x p.time.now h.cfg.sessions).2.1 p.time.seq) }:=by
    unfold k7;rw[if_neg hc]
   rw[ew];refine key _ ⟨_,_,_,0,_,_,_⟩ (lat _ _ _) Z fun s=>?_;rw[put,epa,gi.cfg];unfold BM;simp only;rw[if_neg hc];by_cases e:p.s=s
   ·rw[if_pos e,if_pos e,←e];rfl
   rw[if_neg e,if_neg e]
  | sw=>
   simp only[jV,ea];rw[q1.2.2.1,q1.2.2.2];have epa:p.act=.sw:=q1.1.symm.trans ea;have ew:HT h 8 p.s p.time={ gP (jK h 8 p.s) p.s { aR h p.s with book:=(f5 (aR h p.s).book p.time.now).1 } with feed:=iK h.feed p.s (l2 (h.feed p.s) (f5 (aR h p.s).book p.time.now).2 p.time.seq) }:=Z;rw[ew];refine key _ ⟨_,_,_,0,_,_,_⟩ (lat _ _ _) Z fun s=>?_;rw[put,epa];unfold BM;simp only;by_cases e:p.s=s
   ·rw[if_pos e,if_pos e,←e];rfl
   rw[if_neg e,if_neg e]
 ·rw[if_neg (fun e=>by have:=e.2;omega)]at tu;subst tu;refine⟨.still (BL aTZ) (no 5 aTZ _) (fun i=>?_) (fun i=>?_),ht⟩
  ·unfold hv;refine DQ ?_ Z;refine DR (dM (dM h p1.who 1 (eE p1.s 4)) p1.who 4 (eE p1.s 3)) p1.s ?_ i;rfl
  refine xQ (dM (dM h p1.who 1 (eE p1.s 4)) p1.who 4 (eE p1.s 3)) p1.s ?_ i;rfl
 ·rw[if_neg (fun e=>by have:=e.2;omega)]at tu;subst tu;refine⟨.still (BL aTZ) (no 6 aTZ _) (fun i=>?_) (fun i=>?_),ht⟩
  ·refine Ix h p1.s ?_ i p1.who 4 (eE p1.s 2);rfl
  refine xQ (dM h p1.who 4 (eE p1.s 2)) p1.s ?_ i;rfl
 rw[if_neg (fun e=>by have:=e.2;omega)]at tu;subst tu;refine⟨?_,?_⟩
 ·show SR c p.who h (jE h p1.who p1.s).1 _ _ _ _;rw[q1.2.1,q1.2.2.1];exact .unlock aW w0 (BL aTZ) (no (j+6+1) aTZ _)
 show _=(jE h p1.who p1.s).1.time;rw[HU];exact ht
theorem aJ8 (ci:CI c) (gi:HI c h k) {p:cL} (ri:RI c p k) (dN:uH h p=true) {tb:cX} (ht:tb.time=h.time) (pos:Int):SR c (p.who:Int) h (jR h p pos).1 (fun _ y=>y) (fun _ y=>y) tb tb∧tb.time=(jR h p pos).1.time:=by
 refine⟨?_,by rw[Qq];exact ht⟩
 have id_:∀h2:bF,h2.feed=h.feed→h2.strs=h.strs→SR c (p.who:Int) h h2 (fun _ y=>y) (fun _ y=>y) tb tb:=fun h2 e1 e2=>by
  have es:∀s,aR h2 s=aR h s:=fun s=>by
   unfold aR;rw[e2]
  exact .still (fun _ _=>rfl) (fun _ _=>rfl) (fun s=>by unfold hv;rw[es,e1]) fun s=>by show (aR h2 s).latch=(aR h s).latch;rw[es]
 unfold jR;split
 ·exact id_ _ Z Z
 split
 ·exact id_ _ Z Z
 rename_i sW;obtain⟨sN,hsN,kB⟩:=Fj ci gi ri sW
 have O2:rS p=sN:=by
  unfold rS;rw[aQQ,hsN];exact aQP _
 unfold iO;split
 ·exact id_ _ Z Z
 ·exact id_ _ Z Z
 ·exact id_ _ Z Z
 ·exact id_ _ Z Z
 ·rename_i e;show SR c _ h (jC h p.who (rS p)).1 _ _ _ _;rw[O2];refine .lock kB (aRD _) ?_ (fun _ _=>rfl) fun _ _=>rfl;unfold uH at dN;simp only[aQV,aRW,decide_eq_true_eq]at dN
  have hw:uL p=(sN:Int):=by
   unfold uL;rw[if_pos e,aQQ,hsN];rfl
  rcases dN.2 with h|h
  ·rw[hw]at h;omega
  rw[hw,aQP]at h;exact bA h
 ·exact id_ _ Z Z
 ·exact id_ _ Z Z
 ·show SR c _ h (jE h p.who (rS p)).1 _ _ _ _;rw[O2];exact .unlock kB (aRD _) (fun _ _=>rfl) fun _ _=>rfl
 exact id_ _ Z Z
end Go.Proofs.YthilcgjhhhmgoaaGreat.X
