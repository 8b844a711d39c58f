/- One part of the proof: FRun5, FRun6, FRun7, PInv3, PInv4, PInv5, FRun8, FRun9, FRun10, FRef1, FRef2, PAwake, FAwake, FLaw4, PInv6, RowBase, PRef, PRef6, PRef7, PRef8, PRef9, PMap. No condition beyond those that each theorem names. -/
import Derived.Test.YthilcgjhhhmgoaaGreatS4
import Derived.KernelRfl
import Derived.Test.YthilcgjhhhmgoaaGreatRows
import Derived.Test.YthilcgjhhhmgoaaGreatChecked
import Derived.WalkKit
import Derived.ProofKit
import Derived.OpenShut
import Derived.ShutString
import Derived.ChangeOld
import Derived.Below
import Derived.SizedLaws
set_option linter.unusedVariables false
set_option linter.unusedSimpArgs false
set_option linter.unusedSectionVars false
set_option maxHeartbeats 1000000
namespace Go.Proofs.YthilcgjhhhmgoaaGreat.X
open Go.Proofs.Tryz
theorem Ic {n:Sz} {E:eI} {d:Option Nat} {ty t' : TypeId} {pos:String} {af:Array Edge} {g:Option (Nat × Bool)} {x:Operand} {nv:Value} {t:TW} {i mb:Nat} {o:Option fP} (h:ev E x=some nv) (hN:tJ t i mb nv o):Fr n ⟨d,.binOp .neq 111 x (.const .nilIface) t', ty,pos,af,g⟩ E (.bool !o.isNone):=by
 cases o with
 | none=>
  obtain rfl:nv=.nilIface:=hN;refine x4 h Z fun w=>?_
  have hg:eqGuard .neq 111 x (.const .nilIface) .nilIface .nilIface=pure ():=by cases x<;>rfl
  rw[hg,pure_bind];show (do pure (Value.bool (!(←Op.equal 111 .nilIface .nilIface))):Sem Value).run P w=_;rw[Sem.run_bind,Ry underlying111];rfl
 | some p=>
  obtain⟨tt,u,rfl,_⟩:=hN;refine x4 h Z fun w=>?_;have hg:eqGuard .neq 111 x (.const .nilIface) (.iface tt u) .nilIface=pure ():=Z;rw[hg,pure_bind];show (do pure (Value.bool (!(←Op.equal 111 (.iface tt u) .nilIface))):Sem Value).run P w=_;rw[Sem.run_bind,Rz underlying111];rfl
abbrev I3 (r:cM):eM→Bool:=fun c=>match c.now with
 | none=>true
 | some p=>!decide (PH p=(r.sw.stripe:Int))
theorem aL9 {rb:Nat} {r:cM} (t:TW) (hR:gC t rb r) (qL:r.clients.length≤1000) (F9:∀c∈r.clients,∀p,c.now=some p→z4 r.h p):aL 65 [Y rb] t No (fun v t' => v=.bool (ET r)):=by
 obtain⟨hb,cv,bs,kv,ps,hr,hH,bK,bU,bJ,hk⟩:=hR.out;obtain⟨Ap,cp,ecv,_⟩:=bK.form;rw[bU.1]at ecv;subst ecv;refine bG func65 Z ntmps65<|aD<|WL.a Z<|aB<|WC.seq<|aD<|WL.m Z<|aA (aT Z)<|WL.q 1 Z yI<|WL.r (aF Z BI (hr.cell Z)) ?_;refine aA (dC Z underlying104)<|WL.m Z<|aB<|WC.block<|WC.loop (σ:=Nat) (fun k t' => Bk t' rb [Y hb,.slice Ap r.clients.length cp,Y bs,O r.sweep,O r.n,O r.ticks,O r.sweeps,kv] 107 (.run)∧Sl t' jZ (.slice Ap r.clients.length cp) ps∧pO t' ps r.clients∧mJ t' bs r.sw∧k≤r.clients.length∧(r.clients.take k).all (I3 r)=true∧True) (fun k=>[(0,Y rb),(8,.slice Ap r.clients.length cp),(9,O (r.clients.length:Int)),(10,O (k:Int))]) (fun k=>r.clients.length-k) 0 ⟨Z,Z,Z,Z,trivial⟩ ⟨hr,bK,bU,bJ,aQC _,Z,trivial⟩ ?_;rintro k t1 ⟨hr,bK,bU,bJ,hk,tT,_⟩;refine aD<|aA (aN Z Z BO.lt)<|aB<|WC.seq ?_;refine bD Z (fun jQ=>?_) (fun jQ=>?_)
 ·have aW:k<r.clients.length:=by have:=bA jQ;omega
  refine WC.skip<|WQ.n<|WC.seq<|WC.block<|aD ?_;have jY:=aQA aW;obtain⟨cb,uA,⟨ov,mb,nv,hc,ho,hM,hN⟩,_⟩:=bU.at_ jY;obtain⟨bq,oq,capq,cq,eq1,IF,iA,fF,oL,II⟩:=bK.at_ uA;obtain⟨l7,_,_⟩:=Value.slice.inj eq1;obtain rfl:cq=[Y cb]:=iA;refine aA (bV (congrArg (fun A=>some (Value.slice A r.clients.length cp)) l7) Z EX aTZ aTZ (o' := oq+k*1) aT4)<|WL.r (aF Z Fx (fF.one Z))<|WL.a Z<|aB<|eK (fun w=>At w cb 3 [nv]∧At w rb 2 [Y bs]∧True) (.blk (.then_ (.then_ (.blk (.then_ .body))))) (⟨hc.at Z,hr.at Z,trivial⟩) ?_;obtain⟨bK,hr⟩:=Q2 (bK.n dW) (hr.n dW);have bU:=bU.step dW (fun _ _ _ h=>h);obtain⟨hN,hc,bJ⟩:=Q3 (hN.n dW) (hc.n dW) (bJ.step' dW iH);refine DL.m 0 Z Z<|aE 1 Z (aT Z)<|aE 2 Z (Fr.q 3 Z yJ)<|cR 3 Z (aF Z C8 (hc.cell Z))<|aE 4 Z (Ic Z hN)<|DL.m 5 Z Z ?_;refine oB 19 Z (fun AW=>?_) (fun AW=>?_)
  ·obtain⟨p,tt,u,tY,rfl,jD⟩:=hN.some_ (by simpa using AW);have LL:=F9 _ (aQN aW) p tY;refine DL.m 6 Z Z<|aE 7 Z (aT Z)<|aE 8 Z (Fr.q 3 Z yJ)<|DL.m 11 Z Z<|aE 12 Z (aT Z)<|aE 13 Z (Fr.q 2 Z NE)<|cD 9 Z (fun w hw=>aF Z C8 (hw.1.one Z))<|cD 14 Z (fun w hw=>aF Z PQ (hw.2.1.one Z))<|bH 10 Z (JW Z Z (aIU jD LL) aT2) (fun _ _ ⟨s,_⟩=>⟨hc.a s,hr.a s,trivial⟩) ?_;rintro _ t2 ⟨s2,rfl⟩;obtain⟨bK,hr⟩:=Q2 (bK.n s2) (hr.n s2);have bU:=bU.step s2 (fun _ _ _ h=>h);obtain⟨hc,bJ⟩:=Q2 (hc.n s2) (bJ.step' s2 iH);refine bH 15 Z (Ef.call Z Kp (Th _ bJ) aT2) (fun _ _ ⟨s,_⟩=>⟨hc.a s,hr.a s,trivial⟩) ?_;rintro _ t3 ⟨s3,rfl⟩;obtain⟨bK,hr⟩:=Q2 (bK.n s3) (hr.n s3);have bU:=bU.step s3 (fun _ _ _ h=>h);have bJ:=bJ.step' s3 iH;refine aE 16 Z (aN Z Z dO)<|aE 17 Z (cQ Z Z)<|cK<|WQ.n ?_;refine bD Z (fun iX=>?_) (fun iX=>?_)
   ·have IT:I3 r r.clients[k]=false:=by unfold I3;rw[tY];simp only;rw[show decide (PH p=(r.sw.stripe:Int))=true from iX];rfl
    exact aD<|WL.a Z<|aB<|WC.ret<|f4<|WQ.tr<|WQ.tr<|f4<|WQ.tr<|WQ.ret Z (.tmp Z .nil) (by rw[show ET r=false from aTA.2 ⟨_,aQN aW,fun h=>Bool.noConfusion (IT.symm.trans h)⟩];rfl)
   have IT:I3 r r.clients[k]=true:=by unfold I3;rw[tY];simp only;rw[show decide (PH p=(r.sw.stripe:Int))=false from iX];rfl
   exact WC.skip<|cE<|WQ.n<|WC.rg<|aA (aN Z Z (BO.add aTZ aTZ))<|WL.m Z<|WL.nil<|dX (k+1) ⟨Z,Z,Z,Z,trivial⟩ ⟨hr,bK,bU,bJ,aW,by rw[aQY aW,List.all_append,tT];simpa using IT,trivial⟩ aTZ
  have IT:I3 r r.clients[k]=true:=by unfold I3;rw[show r.clients[k].now=none by simpa using AW]
  refine aX 6 Z<|aX 7 Z<|aX 8 Z<|aX 9 Z<|aX 10 Z<|aX 11 Z<|aX 12 Z<|aX 13 Z<|aX 14 Z<|aX 15 Z ?_;refine aX 16 Z<|aE 17 Z (cG Z Z)<|cK<|WQ.n<|nH<|WC.skip<|cE<|WQ.n<|WC.rg<|aA (aN Z Z (BO.add aTZ aTZ)) ?_;exact WL.m Z<|WL.nil<|dX (k+1) ⟨Z,Z,Z,Z,trivial⟩ ⟨hr,bK,bU,bJ,aW,by rw[aQY aW,List.all_append,tT];simpa using IT,trivial⟩ aTZ
 have dA:k=r.clients.length:=by have:=aY jQ;omega
 exact WC.exit<|cN<|cN<|fK<|WQ.n<|aD<|WL.a Z<|aB<|WC.ret<|WQ.ret Z (.tmp Z .nil) (by rw[dA,aQU]at tT;rw[show ET r=true from tT];rfl)
theorem aME {rb:Nat} {r:cM} (by_:Int) (t:TW) (hR:gC t rb r) (yU:r.calls.length≤900000) (yN:0≤by_) (aJ:by_≤18446744073709551615) (T2:0≤r.ticks) (LI:r.ticks≤1000000) (ha:r.h.acts.length≤900000) (ht0:0≤r.h.time.now∧r.h.time.now≤18446744073709551615) (ht1:0≤r.h.time.seq∧r.h.time.seq≤18446744073709551615):aL 46 [Y rb,U by_] t (fun z=>z=.run∨z=.calls∨z=.hall∨z=.acts) (fun v t' => gC t' rb (xU r by_)):=by
 obtain⟨hb,cv,bs,kv,ps,hr,hH,bK,bU,bJ,hk⟩:=hR.out;obtain⟨Ap,cp,ecv,_⟩:=bK.form;rw[bU.1]at ecv;subst ecv;refine bG func46 Z ntmps46<|aD<|WL.m Z<|WL.m Z<|aA (aT Z)<|WL.q 5 Z YO<|WL.r (aF Z bE (hr.cell Z))<|WL.m Z<|aA (Fr.bd (vs:=[(0,O 9),(1,O r.ticks),(4,U by_)]) (cs:=#[O 9,O r.ticks,O 0,.string ⟨#[]⟩,O 0,O 0,O 0,U 0,.slice none 0 0,O 0,U by_,O 0,O 0,O 0,O 0,.slice none 0 0,.slice none 0 0,.bool false]) Z (fun w=>by kernel_rfl))<|aI (Ef.call Z YH (Fu (c:=(⟨9,r.ticks,fA,0,by_,0,0,0,gA⟩:bL)) (uv:=.slice none 0 0) _ hr hk (Sl.nil _ _ _ _) (Sl.nil _ _ _ _) (Sl.nil _ _ _ _) yU) (fun z h=>by rcases h with h|h<;>simp[h])) ?_;rintro _ t1 ⟨s1,rfl,kv2,hr,hk⟩;obtain⟨hH,bK⟩:=Q2 (hH.n s1) (bK.n s1);have bU:=bU.step s1 (fun i z hz e=>by rcases e with e|e<;>subst e<;>rcases hz.cli with e|e<;>cases e);have bJ:=bJ.step' s1 ⟨aUE,aUE,aUE⟩;refine WL.a Z<|aB ?_
 have fY:(jH r (⟨9,r.ticks,fA,0,by_,0,0,0,gA⟩:bL)).calls.length=r.calls.length+1:=by simp[jH]
 obtain⟨bk,ck1,csk,kG,_⟩:=hk.block (by intro e;rw[e]at fY;simp at fY);have mM:=hk;rw[kG]at mM;refine eK (fun w=>At w rb 7 [kv2]∧At w rb 7 [kv2]∧At w rb 4 [O (jH r (⟨9,r.ticks,fA,0,by_,0,0,0,gA⟩:bL)).n]∧True) .body (⟨hr.at Z,hr.at Z,hr.at Z,trivial⟩) ?_;obtain⟨hH,bK⟩:=Q2 (hH.n dW) (bK.n dW);have bU:=bU.step dW (fun _ _ _ h=>h);obtain⟨hk,hr,bJ⟩:=Q3 (hk.n dW) (hr.n dW) (bJ.step' dW iH);refine DL.m 0 Z Z<|aE 1 Z (aT Z)<|aE 2 Z (Fr.q 7 Z DY)<|DL.m 4 Z Z<|DL.m 5 Z Z<|aE 6 Z (aT Z)<|aE 7 Z (Fr.q 7 Z DY)<|DL.m 9 Z Z<|DL.m 10 Z Z<|aE 11 Z (aT Z) ?_;refine aE 12 Z (Fr.q 4 Z DX)<|DL.m 14 Z Z<|aE 15 Z (aT Z)<|aE 16 Z (Fr.q 4 Z DX)<|cD 3 Z (fun w hw=>aF Z DA (hw.1.one Z))<|cD 8 Z (fun w hw=>aF Z DA (hw.2.1.one Z))<|cD 13 Z (fun w hw=>aF Z bE (hw.2.2.1.one Z))<|cR 17 Z (aF Z bE (hr.cell Z))<|aE 18 Z (bV (congrArg some kG) Z vR aTZ (by rw[fY];omega) (o' := r.calls.length*18) aT4)<|aE 19 Z (eC Z HK) ?_;have mM:=hk;rw[kG]at mM;refine dY 20 Z (tH (dk:=gF) (i:=r.calls.length) (j:=12) (x0:=nL r (⟨9,r.ticks,fA,0,by_,0,0,0,gA⟩:bL)) (z:=w9 (nL r (⟨9,r.ticks,fA,0,by_,0,0,0,gA⟩:bL)) r.n) Z Z mM Z (by simp[gF]) (show (jH r (⟨9,r.ticks,fA,0,by_,0,0,0,gA⟩:bL)).calls[r.calls.length]?=some (nL r (⟨9,r.ticks,fA,0,by_,0,0,0,gA⟩:bL)) by simp[jH]) Z aT9 (fun t' c st h=>XA h) dF Z nofun (.inr (.inr (.inl rfl)))) (fun _ _ ⟨s,_⟩=>⟨hr.a s,hr.a s,hr.a s,trivial⟩) ?_;rintro _ t2 ⟨s2,hk⟩;obtain⟨hH,bK⟩:=Q2 (hH.n s2) (bK.n s2);have bU:=bU.step s2 (fun i z hz e=>by subst e;rcases hz.cli with e|e<;>cases e);obtain⟨hr,bJ⟩:=Q2 (hr.n s2) (bJ.step' s2 ⟨nofun,nofun,nofun⟩);refine aE 21 Z (bV (congrArg some kG) Z vR aTZ (by rw[fY];omega) (o' := r.calls.length*18) aT4)<|aE 22 Z (eC Z KX)<|dY 23 Z (tH (dk:=gF) (i:=r.calls.length) (j:=13) (x0:=w9 (nL r (⟨9,r.ticks,fA,0,by_,0,0,0,gA⟩:bL)) r.n) (z:=FG (w9 (nL r (⟨9,r.ticks,fA,0,by_,0,0,0,gA⟩:bL)) r.n) r.n) Z Z hk Z (by simp[gF]) (VS (show (jH r (⟨9,r.ticks,fA,0,by_,0,0,0,gA⟩:bL)).calls[r.calls.length]?=some (nL r (⟨9,r.ticks,fA,0,by_,0,0,0,gA⟩:bL)) by simp[jH])) Z aT9 (fun t' c st h=>W9 h) dF Z nofun (.inr (.inr (.inl rfl)))) (fun _ _ ⟨s,_⟩=>⟨hr.a s,hr.a s,hr.a s,trivial⟩) ?_;rintro _ t3 ⟨s3,hk⟩;obtain⟨hH,bK⟩:=Q2 (hH.n s3) (bK.n s3);have bU:=bU.step s3 (fun i z hz e=>by subst e;rcases hz.cli with e|e<;>cases e);obtain⟨hr,bJ⟩:=Q2 (hr.n s3) (bJ.step' s3 ⟨nofun,nofun,nofun⟩);refine cK<|WQ.n<|aD<|WL.m Z<|aA (aT Z)<|WL.q 5 Z YO<|WL.r (aF Z bE (hr.cell Z))<|aA (aN Z Z (BO.add (by show _≤r.ticks+1;omega) (by show r.ticks+1≤_;omega)))<|aA (aT Z)<|WL.q 5 Z YO ?_;refine WL.e0 (Ef.T [O (((jH r (⟨9,r.ticks,fA,0,by_,0,0,0,gA⟩:bL)).ticks)+1)] Z Z hr dF (.inr (.inl Z))) ?_;rintro _ t4 ⟨u4,s4,qP⟩;have hr:Bk t4 rb [Y hb,.slice Ap r.clients.length cp,Y bs,O (jH r (⟨9,r.ticks,fA,0,by_,0,0,0,gA⟩:bL)).sweep,O (jH r (⟨9,r.ticks,fA,0,by_,0,0,0,gA⟩:bL)).n,O (((jH r (⟨9,r.ticks,fA,0,by_,0,0,0,gA⟩:bL)).ticks)+1),O (jH r (⟨9,r.ticks,fA,0,by_,0,0,0,gA⟩:bL)).sweeps,kv2] _ _:=qP;clear qP;obtain⟨hH,bK⟩:=Q2 (hH.n s4) (bK.n s4);have bU:=bU.step s4 (fun i z hz e=>by subst e;rcases hz.cli with e|e<;>cases e);obtain⟨hk,bJ⟩:=Q2 (hk.n s4) (bJ.step' s4 ⟨nofun,nofun,nofun⟩);refine aB<|WC.rg<|WL.m Z<|aA (aT Z)<|WL.q 0 Z z9<|WL.r (aF Z BH (hr.cell Z))<|WL.m Z<|aI (Ef.call Z aCC (aEJ 9 by_ _ hH ha ht0 ht1 yN aJ) (fun z h=>by rcases h with h|h<;>simp[h])) ?_;rintro _ t5 ⟨s5,hH⟩;have bK:=bK.n s5;have bU:=bU.step s5 (fun i z hz e=>by rcases e with e|e<;>subst e<;>rcases hz.cli with e|e<;>cases e);have bJ:=bJ.step' s5 ⟨aUE,aUE,aUE⟩;obtain⟨hk,hr⟩:=Q2 (hk.n s5) (hr.n s5);refine WL.nil ?_
 exact WQ.end_ Z .nil (by
   refine⟨⟨hb,_,bs,kv2,ps,hr,hH,bK,bU,bJ,?_⟩⟩
   have e:(((jH r (⟨9,r.ticks,fA,0,by_,0,0,0,gA⟩:bL)).calls.set r.calls.length (w9 (nL r ⟨9,r.ticks,fA,0,by_,0,0,0,gA⟩) r.n)).set r.calls.length (FG (w9 (nL r ⟨9,r.ticks,fA,0,by_,0,0,0,gA⟩) r.n) r.n))=(xU r by_).calls:=by
    show ((r.calls++[_]).set r.calls.length _).set r.calls.length _=r.calls++[_];rw[List.set_set,List.set_append_right _ _ (aP9 _)];simp[FG,w9,nL]
   rw[←e,kG]
   exact hk)
abbrev Gv (k:Nat):bB→Prop:=fun z=>z=.sweep 0∨z=.hall∨z=.acts∨z=.strs∨(∃j,z=.ring k j∨z=.rrow k j)∨z=.obj 8 0
abbrev sT (k:Nat):bB→Prop:=fun z=>z=.run∨z=.calls∨Gv k z
theorem sTr {k:Nat}:∀z,(z=.run∨z=.calls)→sT k z:=fun _ h=>h.elim .inl fun h=>.inr (.inl h)
theorem sTs {k:Nat}:∀z,Gv k z→sT k z:=fun _ h=>.inr (.inr h)
theorem pO.step8 {t t' : TW} {ps:List Nat} {cs:List eM} {T:bB→Prop} (h:pO t ps cs) (hl:cs.length≤8) (s:bQ T t t') (hT:∀i,i<8→∀z,CT i z→¬T z):pO t' ps cs:=⟨h.1,fun i b c h1 h2=>(h.2 i b c h1 h2).step s (hT i (by have:=(aQG.1 h2).1;omega))⟩
theorem FH:∀i,i<8→∀z,CT i z→¬No z:=fun _ _ _ _ h=>h
theorem HA {g:bB} (h:g.cli=none) (hg:g≠.fz):∀i,i<8→∀z,CT i z→¬(z=g):=fun i _ z hz e=>by
 subst e;rcases hz.cli with e|e
 ·rw[e]at h;cases h
 ·exact hg e
theorem ct2 {A B:bB→Prop} (h1:∀i,i<8→∀z,CT i z→¬A z) (h2:∀i,i<8→∀z,CT i z→¬B z):∀i,i<8→∀z,CT i z→¬(A z∨B z):=fun i hi z hz h=>h.elim (h1 i hi z hz) (h2 i hi z hz)
theorem ctS {k:Nat}:∀i,i<8→∀z,CT i z→¬Gv k z:=fun i hi z hz h=>by
 rcases h with h|h|h|h|⟨j,h|h⟩|h<;>subst h
 all_goals rcases hz.cli with e|e
 all_goals first|cases e;done|(have e2:=aQB e;omega)
def vO (r:cM):Bool:=!j6 r.h r.sw.now||(decide (r.sweep<0)&&!ET r)
theorem aJS {r:cM} (h:vO r=true):uO r=(r,false):=by
 unfold uO;rw[if_pos];unfold vO at h;simpa using h
theorem Qp {r:cM} (h:vO r=false):uO r=(wU (eU r),true):=by
 unfold uO;rw[if_neg];intro h2
 have:vO r=true:=by
  unfold vO;simpa using h2
 rw[this]at h;cases h
theorem L7 (r:cM):(eU r).h=r.h∧(eU r).n=r.n∧(eU r).clients=r.clients∧(eU r).sw=r.sw:=by
 unfold eU;split<;>exact⟨rfl,rfl,rfl,rfl⟩
theorem aMB {rb:Nat} {r:cM} (t:TW) (hR:gC t rb r) (qL:r.clients.length≤8) (yU:r.calls.length≤900000) (F9:∀c∈r.clients,∀p,c.now=some p→z4 r.h p) (hs:r.sw.now.s<r.h.strs.length) (hs8:r.h.strs.length≤8) (sQ:j6 r.h r.sw.now=true→nC r.sw.now.act=false→z6 r.h r.sw.now) (aM:r.sw.stripe≤1000) (Cz:0≤r.sw.rounds) (nV:r.sw.rounds≤1000000) (GC:0≤r.sweeps) (yZ:r.sweeps≤1000000) (hsc:r.sweep<0∨r.sweep<(r.calls.length:Int)):aL 45 [Y rb] t (sT r.sw.now.s) (fun v t' => v=.bool (uO r).2∧gC t' rb (uO r).1):=by
 have EB:=hR;obtain⟨hb,cv,bs,kv,ps,hr,hH,bK,bU,bJ,hk⟩:=hR.out;obtain⟨Ap,cp,ecv,_⟩:=bK.form;rw[bU.1]at ecv;subst ecv;have hr1r:=nV;clear nV;refine bG func45 Z ntmps45<|aD<|WL.a Z<|aB<|WC.seq ?_;refine nJ (σ:=Unit) (fun _ t' => Bk t' rb [Y hb,.slice Ap r.clients.length cp,Y bs,O r.sweep,O r.n,O r.ticks,O r.sweeps,kv] 107 (.run)∧cJ t' hb r.h∧Sl t' jZ (.slice Ap r.clients.length cp) ps∧pO t' ps r.clients∧mJ t' bs r.sw∧aZ t' .calls 0 61 gF kv r.calls∧gC t' rb r∧True) (fun _=>[(0,Y rb),(2,.bool false),(25,.bool (vO r))]) ?_ ?_
 ·refine WC.dr (fun w=>At w rb 2 [Y bs]∧True) (.then_ (.then_ .body)) (⟨hr.at Z,trivial⟩) ?_;obtain⟨hH,bU,hk,bK,hr,bJ⟩:=Q6 (hH.n dW) (bU.step8 qL dW FH) (hk.n dW) (bK.n dW) (hr.n dW) (bJ.step' dW iH)
  have EB:gC _ rb r:=⟨⟨hb,_,bs,_,ps,hr,hH,bK,bU,bJ,hk⟩⟩
  refine DL.m 0 Z Z<|aE 1 Z (aT Z)<|aE 2 Z (Fr.q 2 Z NE)<|DL.m 4 Z Z<|aE 5 Z (aT Z)<|aE 6 Z (Fr.q 0 Z z9)<|cD 3 Z (fun w hw=>aF Z PQ (hw.1.one Z))<|cR 7 Z (aF Z BH (hr.cell Z))<|bH 8 Z (Ef.call Z aB8 (aNZ _ bJ hH hs hs8) aT2) aUP ?_;rintro _ t1 ⟨s1,rfl⟩;obtain⟨hH,bU,hk,bK,hr,bJ⟩:=Q6 (hH.n s1) (bU.step8 qL s1 FH) (hk.n s1) (bK.n s1) (hr.n s1) (bJ.step' s1 iH)
  have EB:gC _ rb r:=⟨⟨hb,_,bs,_,ps,hr,hH,bK,bU,bJ,hk⟩⟩
  refine aE 9 Z (eJ Z)<|DL.m 10 Z Z ?_;refine oB 14 Z (fun xO=>?_) (fun xO=>?_)
  focus
   refine aX 11 Z<|aX 12 Z<|aX 13 Z<|aX 14 Z<|aX 15 Z<|aX 16 Z<|aX 17 Z<|aX 18 Z<|aX 19 Z<|aX 20 Z ?_;refine aE 21 Z (cQ Z Z)<|cK ?_
   have eb:vO r=true:=by unfold vO;rw[show j6 r.h r.sw.now=false by simpa using xO];rfl
  rotate_left
  focus
   refine DL.m 11 Z Z<|aE 12 Z (aT Z)<|aE 13 Z (Fr.q 3 Z NF)<|cR 14 Z (aF Z bE (hr.cell Z))<|aE 15 Z (aN Z Z BO.lt)<|DL.m 16 Z Z ?_;refine oB 20 Z (fun mP=>?_) (fun mP=>?_)
   focus
    refine DL.m 17 Z Z<|bH 18 Z (Ef.call Z aB9 (aL9 _ EB aTZ F9) aT2) aUP ?_;rintro _ t2 ⟨s2,rfl⟩;obtain⟨hH,bU,hk,bK,hr,bJ⟩:=Q6 (hH.n s2) (bU.step8 qL s2 FH) (hk.n s2) (bK.n s2) (hr.n s2) (bJ.step' s2 iH)
    have EB:gC _ rb r:=⟨⟨hb,_,bs,_,ps,hr,hH,bK,bU,bJ,hk⟩⟩
    refine aE 19 Z (eJ Z)<|aE 20 Z (cQ Z Z)<|aE 21 Z (cG Z Z)<|cK ?_
    have eb:vO r=(!ET r):=by unfold vO;rw[show j6 r.h r.sw.now=true by simpa using xO,show decide (r.sweep<0)=true from mP];rfl
   rotate_left
   focus
    refine aX 17 Z<|aX 18 Z<|aX 19 Z<|aE 20 Z (cG Z Z)<|aE 21 Z (cG Z Z)<|cK ?_
    have eb:vO r=false:=by unfold vO;rw[show j6 r.h r.sw.now=true by simpa using xO,show decide (r.sweep<0)=false from mP];rfl
  all_goals
   exact g7 () ⟨Z,Z,by rw[eb];rfl,trivial⟩ ⟨hr,hH,bK,bU,bJ,hk,EB,trivial⟩
 rintro _ t3 ⟨hr,hH,bK,bU,bJ,hk,EB,_⟩;refine bD Z (fun pS=>?_) (fun pS=>?_)
 ·exact aD<|WL.a Z<|aB<|WC.ret<|WQ.tr<|WQ.ret Z (.tmp Z .nil) (by rw[aJS (show vO r=true from pS)];exact⟨Z,EB⟩)
 refine WC.skip<|WQ.n ?_
 obtain⟨r1,nV⟩:∃r1,r1=eU r:=⟨_,Z⟩
 refine nJ (σ:=Unit) (fun _ t' => cJ t' hb r.h∧Sl t' jZ (.slice Ap r.clients.length cp) ps∧pO t' ps r.clients∧mJ t' bs r.sw∧(∃kv1,Bk t' rb (xV r1 hb (.slice Ap r.clients.length cp) bs kv1) 107 .run∧aZ t' .calls 0 61 gF kv1 r1.calls)∧True) (fun _=>[(0,Y rb),(2,.bool false)]) ?_ ?_
 ·refine aD<|WL.m Z<|aA (aT Z)<|WL.q 3 Z NF<|WL.r (aF Z bE (hr.cell Z))<|aA (aN Z Z BO.lt)<|aB ?_;refine bD Z (fun qJ=>?_) (fun qJ=>?_)
  focus
   have OT:r.sweep<0:=bA qJ;refine eK (fun w=>At w rb 6 [O r.sweeps]∧True) (.then_ .body) (⟨hr.at Z,trivial⟩) ?_;obtain⟨hH,bU,hk,bK,hr,bJ⟩:=Q6 (hH.n dW) (bU.step8 qL dW FH) (hk.n dW) (bK.n dW) (hr.n dW) (bJ.step' dW iH)
   have EB:gC _ rb r:=⟨⟨hb,_,bs,_,ps,hr,hH,bK,bU,bJ,hk⟩⟩
   refine DL.m 0 Z Z<|DL.m 1 Z Z<|DL.m 2 Z Z<|aE 3 Z (aT Z)<|aE 4 Z (Fr.q 6 Z YP)<|DL.m 6 Z Z<|aE 7 Z (aT Z)<|aE 8 Z (Fr.q 2 Z NE)<|cD 5 Z (fun w hw=>aF Z bE (hw.1.one Z))<|cR 9 Z (aF Z PQ (hr.cell Z)) ?_;refine bH 10 Z (Ef.call Z Kp (Th _ bJ) aT2) aUP ?_;rintro _ t4 ⟨s4,rfl⟩;obtain⟨hH,bU,hk,bK,hr,bJ⟩:=Q6 (hH.n s4) (bU.step8 qL s4 FH) (hk.n s4) (bK.n s4) (hr.n s4) (bJ.step' s4 iH)
   have EB:gC _ rb r:=⟨⟨hb,_,bs,_,ps,hr,hH,bK,bU,bJ,hk⟩⟩
   refine aE 11 Z (Fr.bd (vs:=[(0,O 8),(1,O r.sweeps),(3,O (r.sw.stripe:Int))]) (cs:=#[O 8,O r.sweeps,O 0,.string ⟨#[]⟩,O 0,O 0,O 0,U 0,.slice none 0 0,O (r.sw.stripe:Int),U 0,O 0,O 0,O 0,O 0,.slice none 0 0,.slice none 0 0,.bool false]) Z (fun w=>by kernel_rfl))<|bH 12 Z (Ef.call Z YH (Fu (c:=(⟨8,r.sweeps,fA,r.sw.stripe,0,0,0,0,gA⟩:bL)) (uv:=.slice none 0 0) _ hr hk (Sl.nil _ _ _ _) (Sl.nil _ _ _ _) (Sl.nil _ _ _ _) yU) (sTr)) (fun _ _ ⟨_,_,_,hb,_⟩=>⟨hb.at Z,trivial⟩) ?_;rintro _ t5 ⟨s5,rfl,kv2,hr,hk⟩;obtain⟨hH,bU,bK,bJ⟩:=Q4 (hH.n s5) (bU.step8 qL s5 (ct2 (HA Z nofun) (HA Z nofun))) (bK.n s5) (bJ.step' s5 Tc);refine aE 13 Z (aT Z)<|aE 14 Z (Fr.q 3 Z NF)<|dY 15 Z (Ef.T [O (r.calls.length:Int)] Z Z hr dF (.inr (.inl Z))) aV1 ?_;rintro _ t6 ⟨u6,s6,qP⟩;have hr:Bk t6 rb [Y hb,.slice Ap r.clients.length cp,Y bs,O (r.calls.length:Int),O (jH r (⟨8,r.sweeps,fA,r.sw.stripe,0,0,0,0,gA⟩:bL)).n,O (jH r (⟨8,r.sweeps,fA,r.sw.stripe,0,0,0,0,gA⟩:bL)).ticks,O (jH r (⟨8,r.sweeps,fA,r.sw.stripe,0,0,0,0,gA⟩:bL)).sweeps,kv2] _ _:=qP;clear qP;obtain⟨hH,bU,hk,bK,bJ⟩:=Q5 (hH.n s6) (bU.step8 qL s6 (HA Z nofun)) (hk.n s6) (bK.n s6) (bJ.step' s6 ⟨nofun,nofun,nofun⟩);refine cK<|WQ.n<|WC.rg<|WL.m Z<|aA (aT Z)<|WL.q 6 Z YP<|WL.r (aF Z bE (hr.cell Z))<|aA (aN Z Z (BO.add (by show _≤r.sweeps+1;omega) (by show r.sweeps+1≤_;omega)))<|aA (aT Z)<|WL.q 6 Z YP ?_;refine WL.e0 (Ef.T [O (((jH r (⟨8,r.sweeps,fA,r.sw.stripe,0,0,0,0,gA⟩:bL)).sweeps)+1)] Z Z hr dF (.inr (.inl Z))) ?_;rintro _ t7 ⟨u7,s7,qP⟩;have hr:Bk t7 rb [Y hb,.slice Ap r.clients.length cp,Y bs,O (r.calls.length:Int),O (jH r (⟨8,r.sweeps,fA,r.sw.stripe,0,0,0,0,gA⟩:bL)).n,O (jH r (⟨8,r.sweeps,fA,r.sw.stripe,0,0,0,0,gA⟩:bL)).ticks,O (((jH r (⟨8,r.sweeps,fA,r.sw.stripe,0,0,0,0,gA⟩:bL)).sweeps)+1),kv2] _ _:=qP;clear qP;obtain⟨hH,bU,hk,bK,bJ⟩:=Q5 (hH.n s7) (bU.step8 qL s7 (HA Z nofun)) (hk.n s7) (bK.n s7) (bJ.step' s7 ⟨nofun,nofun,nofun⟩);refine WL.nil ?_
   have hI:(∃kv1,Bk t7 rb (xV r1 hb (.slice Ap r.clients.length cp) bs kv1) 107 .run∧aZ t7 .calls 0 61 gF kv1 r1.calls):=by rw[nV];unfold eU;rw[if_pos OT];exact⟨kv2,hr,hk⟩
  rotate_left
  focus
   have OT:¬r.sweep<0:=aY qJ;refine WC.skip ?_
   have hI:(∃kv1,Bk t3 rb (xV r1 hb (.slice Ap r.clients.length cp) bs kv1) 107 .run∧aZ t3 .calls 0 61 gF kv1 r1.calls):=by rw[nV];unfold eU;rw[if_neg OT];exact⟨kv,hr,hk⟩
  all_goals
   exact g7 () ⟨Z,Z,trivial⟩ ⟨hH,bK,bU,bJ,hI,trivial⟩
 rintro _ t8 ⟨hH,bK,bU,bJ,hI,_⟩;obtain⟨kv1,hr,hk⟩:=hI;refine eK (fun w=>At w rb 7 [kv1]∧True) .body (⟨hr.at Z,trivial⟩) ?_;obtain⟨hH,bU,hk,bK,hr,bJ⟩:=Q6 (hH.n dW) (bU.step8 qL dW FH) (hk.n dW) (bK.n dW) (hr.n dW) (bJ.step' dW iH);refine DL.m 0 Z Z<|aE 1 Z (aT Z)<|aE 2 Z (Fr.q 7 Z DY)<|DL.m 4 Z Z<|aE 5 Z (aT Z)<|aE 6 Z (Fr.q 3 Z NF)<|cD 3 Z (fun w hw=>aF Z DA (hw.1.one Z))<|cR 7 Z (aF Z bE (hr.cell Z)) ?_
 have aGN:0≤r1.sweep∧r1.sweep<(r1.calls.length:Int):=by
  rw[nV];unfold eU;split
  ·exact⟨by show (0:Int)≤(r.calls.length:Int);omega,by show (r.calls.length:Int)<((r.calls++[_]).length:Int);simp only[aQE,aQH,aQO];omega⟩
  omega
 obtain⟨j,hj⟩:=aRS aGN.1
 have oK:j<r1.calls.length:=by omega
 have CN:=aQA oK;obtain⟨bk,ck1,csk,kG,_⟩:=hk.block (by intro e;rw[e]at oK;exact absurd oK (aQW _));refine aE 8 Z (bV (congrArg some kG) Z vR aTZ aTZ (o' := j*18) (by rw[hj];simp))<|aE 9 Z (hZ Z)<|cK<|WQ.n<|WC.seq<|eK (fun w=>At w rb 2 [Y bs]∧At w rb 0 [Y hb]∧True) (.then_ .body) (⟨hr.at Z,hr.at Z,trivial⟩) ?_;obtain⟨hH,bU,hk,bK,hr,bJ⟩:=Q6 (hH.n dW) (bU.step8 qL dW FH) (hk.n dW) (bK.n dW) (hr.n dW) (bJ.step' dW iH);refine DL.m 0 Z Z<|aE 1 Z (aT Z)<|aE 2 Z (Fr.q 2 Z NE)<|DL.m 4 Z Z<|aE 5 Z (aT Z)<|aE 6 Z (Fr.q 0 Z z9)<|DL.m 8 Z Z<|aE 9 Z (aT Z)<|aE 10 Z (Fr.q 4 Z DX)<|cD 3 Z (fun w hw=>aF Z PQ (hw.1.one Z)) ?_;refine cD 7 Z (fun w hw=>aF Z BH (hw.2.1.one Z))<|cR 11 Z (aF Z bE (hr.cell Z))<|bH 12 Z (Ef.call Z aCA (aN2 r1.n _ bJ hH hs hs8 sQ aM Cz hr1r) (sTs)) (fun _ _ ⟨s,_⟩=>⟨(hr.step s aVA).at Z,(hr.step s aVA).at Z,trivial⟩) ?_;rintro _ t9 ⟨s9,rfl,hH,bJ⟩;have hr:=hr.step s9 aVA;have bK:=bK.step s9 aVA;have bU:=bU.step8 qL s9 ctS;have hk:=hk.step s9 aVA aVA
 obtain⟨q,hq⟩:∃q,q=pM r.h r.sw r1.n:=⟨_,Z⟩
 rw[←hq]at hH bJ;refine cK<|WQ.n ?_;refine bD Z (fun AL=>?_) (fun AL=>?_)
 ·refine aD<|WL.m Z<|WL.m Z<|aA (aT Z)<|WL.q 4 Z DX<|WL.r (aF Z bE (hr.cell Z))<|aA (aT Z)<|aA (eC Z KX) ?_;have mM:=hk;rw[kG]at mM;refine WL.e0 (tH (dk:=gF) (i:=j) (j:=13) (x0:=r1.calls[j]) (z:=FG r1.calls[j] r1.n) Z Z mM Z (by simp[gF]) CN Z aT9 (fun t' c st h=>W9 h) dF Z nofun (.inr (.inr (.inl rfl)))) ?_;rintro _ t10 ⟨s10,hk⟩;obtain⟨hH,bU,bK,hr,bJ⟩:=Q5 (hH.n s10) (bU.step8 qL s10 (HA Z nofun)) (bK.n s10) (hr.n s10) (bJ.step' s10 ⟨nofun,nofun,nofun⟩);refine aB<|aD<|WL.m Z<|aA (aT Z)<|WL.q 3 Z NF<|WL.e0 (Ef.T [O (-1)] Z Z hr dF (.inr (.inl Z))) ?_;rintro _ t11 ⟨u11,s11,qP⟩;have hr:Bk t11 rb [Y hb,.slice Ap r.clients.length cp,Y bs,O (-1),O r1.n,O r1.ticks,O r1.sweeps,kv1] _ _:=qP;clear qP;obtain⟨hH,bU,hk,bK,bJ⟩:=Q5 (hH.n s11) (bU.step8 qL s11 (HA Z nofun)) (hk.n s11) (bK.n s11) (bJ.step' s11 ⟨nofun,nofun,nofun⟩);refine aB<|aD<|WL.a Z<|aB<|WC.ret<|WQ.tr ?_
  exact WQ.ret Z (.tmp Z .nil) (by
        rw[Qp (show vO r=false from pS),←nV];obtain⟨e1,e2,e3,e4⟩:=L7 r;rw[←nV]at e1 e2 e3 e4
        have eq:q=pM r1.h r1.sw r1.n:=by { rw[e1,e4];exact hq }
        refine⟨Z,?_⟩;unfold wU;simp only[←eq];rw[if_pos (by rw[hq];exact AL)];refine⟨⟨hb,_,bs,kv1,ps,hr,hH,bK,by rw[←e3]at bU;exact bU,bJ,?_⟩⟩;show aZ _ .calls 0 61 gF _ (r1.calls.modify r1.sweep.toNat _);rw[show r1.sweep.toNat=j by omega,U1 _ CN,kG]
        exact hk)
 refine WC.skip<|WQ.n<|aD<|WL.m Z<|WL.m Z<|aA (aT Z)<|WL.q 2 Z NE<|WL.r (aF Z PQ (hr.cell Z))<|aI (Ef.call Z aCB (aN1 _ bJ) aT2) ?_;rintro _ t12 ⟨s12,rfl⟩;obtain⟨hH,bU,hk,bK,hr,bJ⟩:=Q6 (hH.n s12) (bU.step8 qL s12 FH) (hk.n s12) (bK.n s12) (hr.n s12) (bJ.step' s12 iH);refine aA (aT Z)<|aA (eC Z HK) ?_;have mM:=hk;rw[kG]at mM;refine WL.e0 (tH (dk:=gF) (i:=j) (j:=12) (x0:=r1.calls[j]) (z:=w9 r1.calls[j] q.2.1.now.placed) Z Z mM Z (by simp[gF]) CN Z aT9 (fun t' c st h=>XA h) dF Z nofun (.inr (.inr (.inl rfl)))) ?_;rintro _ t13 ⟨s13,hk⟩;obtain⟨hH,bU,bK,hr,bJ⟩:=Q5 (hH.n s13) (bU.step8 qL s13 (HA Z nofun)) (bK.n s13) (hr.n s13) (bJ.step' s13 ⟨nofun,nofun,nofun⟩);refine aB<|aD<|WL.a Z<|aB<|WC.ret ?_
 exact WQ.ret Z (.tmp Z .nil) (by
       rw[Qp (show vO r=false from pS),←nV];obtain⟨e1,e2,e3,e4⟩:=L7 r;rw[←nV]at e1 e2 e3 e4
       have eq:q=pM r1.h r1.sw r1.n:=by { rw[e1,e4];exact hq }
       refine⟨Z,?_⟩;unfold wU;simp only[←eq];rw[if_neg (by rw[hq];exact fun h=>Bool.noConfusion (AL.symm.trans h))];refine⟨⟨hb,_,bs,kv1,ps,hr,hH,bK,by rw[←e3]at bU;exact bU,bJ,?_⟩⟩;show aZ _ .calls 0 61 gF _ (r1.calls.modify r1.sweep.toNat _);rw[show r1.sweep.toNat=j by omega,U1 _ CN,kG]
       exact hk)
def RT:bB→Prop
 | .fz=>False
 | .loc _=>False
 | .nw _ _=>False
 | _=>True
theorem rtC {i:Nat}:∀z,cT i z→RT z:=fun _ h=>by
 rcases h with h|h|h|h|h|h|h|⟨s,h|⟨k,h|h⟩⟩|h|h|h|h|h<;>subst h<;>trivial
theorem rtS {k:Nat}:∀z,sT k z→RT z:=fun _ h=>by
 rcases h with h|h|h|h|h|h|⟨j,h|h⟩|h<;>subst h<;>trivial
theorem rtT:∀z,(z=.run∨z=.calls∨z=.hall∨z=.acts)→RT z:=fun _ h=>by
 rcases h with h|h|h|h<;>subst h<;>trivial
structure DO (r:cM):Prop where
 cl:r.clients.length≤8
 kl:r.calls.length≤900000
 sl:r.h.strs.length≤8
 s0:0≤r.h.cfg.stripes
 s1:r.h.cfg.stripes≤1000
 ol:∀c∈r.clients,c.ops.length≤1000
 ops:∀c∈r.clients,∀x∈c.ops,x.users.length≤900∧x.user.size≤1000000∧∀u∈x.users,u.size≤1000000
 pk:∀i c,r.clients[i]?=some c→∀p,(fI r i c).2.now=some p→z4 r.h p
 ck:∀i c,r.clients[i]?=some c→(fI r i c).2.now≠none→0≤(fI r i c).2.call∧(fI r i c).2.call<((fI r i c).1.calls.length:Int)
 pn:∀c∈r.clients,∀p,c.now=some p→z4 r.h p
 ws:r.sw.now.s<r.h.strs.length
 wk:j6 r.h r.sw.now=true→nC r.sw.now.act=false→z6 r.h r.sw.now
 st:r.sw.stripe≤1000
 rd:0≤r.sw.rounds∧r.sw.rounds≤1000000
 sv:0≤r.sweeps∧r.sweeps≤1000000
 tk:0≤r.ticks∧r.ticks≤1000000
 nn:0≤r.n∧r.n≤1000000
 sc:r.sweep<0∨r.sweep<(r.calls.length:Int)
 al:r.h.acts.length≤900000
 t0:0≤r.h.time.now∧r.h.time.now≤18446744073709551615
 t1:0≤r.h.time.seq∧r.h.time.seq≤18446744073709551615
theorem aLY {rb:Nat} {r:cM} (who:Int) (t:TW) (hR:gC t rb r) (k:DO r):aL 44 [Y rb,O who] t RT (fun v t' => v=.bool (oZ r who).2∧gC t' rb (oZ r who).1):=by
 by_cases h:who<0∨(r.clients.length:Int)≤who
 ·rw[show oZ r who=(r,false) by unfold oZ;rw[if_pos h]];exact (aLZ who t hR h).mono aT2 fun _ _ _ h=>h
 obtain⟨i,rfl⟩:=aRS (show 0≤who by omega)
 have hi:i<r.clients.length:=by omega
 have jY:=aQA hi;have hm:=aQN hi;have:=k.cl;exact (aLX t hR jY aTZ k.kl k.sl k.s0 k.s1 (k.ol _ hm) (k.ops _ hm) (k.pk _ _ jY) (k.ck _ _ jY)).mono rtC fun _ _ _ h=>h
theorem aMC {rb:Nat} {r:cM} (t:TW) (hR:gC t rb r) (k:DO r):aL 45 [Y rb] t RT (fun v t' => v=.bool (uO r).2∧gC t' rb (uO r).1):=
 (aMB t hR k.cl k.kl k.pn k.ws k.sl k.wk k.st k.rd.1 k.rd.2 k.sv.1 k.sv.2 k.sc).mono rtS fun _ _ _ h=>h
theorem aMF {rb:Nat} {r:cM} (by_:Int) (t:TW) (hR:gC t rb r) (k:DO r) (hb:0≤by_∧by_≤18446744073709551615):aL 46 [Y rb,U by_] t RT (fun v t' => gC t' rb (xU r by_)):=
 (aME by_ t hR k.kl hb.1 hb.2 k.tk.1 k.tk.2 k.al k.t0 k.t1).mono rtT fun _ _ _ h=>h
theorem gC.step {t t' : TW} {rb:Nat} {r:cM} {T:bB→Prop} (h:gC t rb r) (s:bQ T t t') (hT:∀z,T z→¬RT z) (h0:¬T .fz):gC t' rb r:=by
 obtain⟨hb,cv,bs,kv,ps,hr,hH,bK,bU,bJ,hk⟩:=h.out;have n:∀z,RT z→¬T z:=fun z h1 h2=>hT z h2 h1;exact⟨⟨hb,cv,bs,kv,ps,hr.step s (n _ trivial),hH.step s (n _ trivial) (n _ trivial) (n _ trivial) (fun _=>n _ trivial) (fun _ _=>n _ trivial) (fun _ _=>n _ trivial) h0,bK.step s h0,bU.step s (fun i z hz=>by rcases hz with h|h|h|h|h|h|h<;>subst h<;>first|exact n _ trivial|exact h0),bJ.step s (n _ trivial) (n _ trivial) h0,hk.step s (n _ trivial) h0⟩⟩
theorem Ie {t t' : TW} {rb:Nat} {r:cM} (h:gC t rb r) (s:bQ No t t'):gC t' rb r:=h.step s aT2 id
def lU (r:cM) (p:z5):cM × Bool:=if p.kind=0 then oZ r p.who else if p.kind=1 then uO r else if p.kind=2 then (xU r p.by_,true) else (r,false)
theorem Pt (r:cM) (p:z5):(lU r p).1.n=r.n:=by
 unfold lU;split
 ·unfold oZ;split
  ·rfl
  split
  ·rfl
  split
  ·exact (I7 _ _ _).2.1
  split<;>exact (I7 _ _ _).2.1
 split
 ·unfold uO wU;split
  ·rfl
  dsimp only;split<;>exact (L7 r).2.1
 split<;>rfl
theorem aLV {rb:Nat} {r:cM} (p:z5) (t:TW) (hR:gC t rb r) (k:DO r) (hb:0≤p.by_∧p.by_≤18446744073709551615):aL 23 [Y rb,.agg (Pk p).toArray] t RT (fun v t' => v=.bool (JF r p).2∧gC t' rb (JF r p).1):=by
 have hn:=k.nn;refine bG func23 Z ntmps23<|aD<|aI (dP (.loc 3) (cs:=[O p.kind,O p.who,U p.by_]) Z) ?_;rintro _ t1 ⟨b3,rfl,s1,aG,nb3,mb3⟩;have hR:=Ie hR s1;refine WL.a Z<|aB<|aD<|WL.a Z<|aB ?_;refine nJ (σ:=Unit) (fun _ t' => Bk t' b3 [O p.kind,O p.who,U p.by_] 78 (.loc 3)∧gC t' rb (lU r p).1∧True) (fun _=>[(0,Y rb),(4,.bool false),(5,.bool (lU r p).2)]) ?_ ?_
 ·refine aD<|WL.q 0 Z aDL<|WL.r (aF Z bE (aG.cell Z))<|aB<|WC.block<|aD<|aA (aN Z Z dO)<|WL.a Z<|aB ?_;refine bD Z (fun o8=>?_) (fun o8=>?_)
  focus
   refine WC.rg<|WL.m Z<|WL.q 1 Z aDM<|WL.r (aF Z bE (aG.cell Z))<|aI (Ef.call Z aBY (aLY p.who _ hR k) (fun _ h=>h)) ?_;rintro _ t2 ⟨s2,rfl,hR⟩;have aG:=aG.step s2 (fun h=>h);refine WL.a Z<|WL.nil<|cE ?_
   have ea:lU r p=oZ r p.who:=by { unfold lU;rw[if_pos (bA o8)] }
   have hI:gC t2 rb (lU r p).1:=by { rw[ea];exact hR }
  rotate_left
  focus
   refine aD<|aA (aN Z Z dO)<|WL.a Z<|aB ?_;refine bD Z (fun fH=>?_) (fun fH=>?_)
   focus
    refine WC.rg<|WL.m Z<|aI (Ef.call Z aBZ (aMC _ hR k) (fun _ h=>h)) ?_;rintro _ t3 ⟨s3,rfl,hR⟩;have aG:=aG.step s3 (fun h=>h);refine WL.a Z<|WL.nil<|cE ?_
    have ea:lU r p=uO r:=by { unfold lU;rw[if_neg (aY o8),if_pos (bA fH)] }
    have hI:gC t3 rb (lU r p).1:=by { rw[ea];exact hR }
   rotate_left
   focus
    refine aD<|aA (aN Z Z dO)<|WL.a Z<|aB ?_;refine bD Z (fun iW=>?_) (fun iW=>?_)
    focus
     refine aD<|WL.m Z<|WL.q 2 Z aDN<|WL.r (aF Z gT (aG.cell Z))<|aI (Ef.call Z aB0 (aMF p.by_ _ hR k hb) (fun _ h=>h)) ?_;rintro _ t4 ⟨s4,hR⟩;have aG:=aG.step s4 (fun h=>h);refine aB<|WC.rg<|WL.a Z<|WL.nil<|cE ?_
     have ea:lU r p=(xU r p.by_,true):=by { unfold lU;rw[if_neg (aY o8),if_neg (aY fH),if_pos (bA iW)] }
     have hI:gC t4 rb (lU r p).1:=by { rw[ea];exact hR }
    rotate_left
    focus
     refine WC.skip<|cE ?_
     have ea:lU r p=(r,false):=by { unfold lU;rw[if_neg (aY o8),if_neg (aY fH),if_neg (aY iW)] }
     have hI:gC t1 rb (lU r p).1:=by { rw[ea];exact hR }
  all_goals
   exact g7 () ⟨Z,Z,by rw[ea];rfl,trivial⟩ ⟨aG,hI,trivial⟩
 rintro _ t5 ⟨aG,FT,_⟩;obtain⟨hb,cv,bs,kv,ps,hr,hH,bK,bU,bJ,hk⟩:=FT.out;have en:=Pt r p;refine aD<|WL.m Z<|aA (aT Z)<|WL.q 4 Z DX<|WL.r (aF Z bE (hr.cell Z))<|aA (aN Z Z (BO.add aTZ aTZ))<|aA (aT Z)<|WL.q 4 Z DX<|WL.e0 (Ef.T [O (((lU r p).1.n)+1)] Z Z hr dF (.inr trivial)) ?_;rintro _ t6 ⟨u6,s6,qP⟩;have hr:Bk t6 rb [Y hb,cv,Y bs,O (lU r p).1.sweep,O (((lU r p).1.n)+1),O (lU r p).1.ticks,O (lU r p).1.sweeps,kv] _ _:=qP;clear qP;obtain⟨hH,bK⟩:=Q2 (hH.n s6) (bK.n s6);have bU:=bU.step s6 (fun i z hz e=>by subst e;rcases hz.cli with e|e<;>cases e);obtain⟨hk,bJ⟩:=Q2 (hk.n s6) (bJ.step' s6 ⟨nofun,nofun,nofun⟩);exact aB<|aD<|WL.m Z<|WL.a Z<|aB<|WC.ret<|WQ.ret Z (.tmp Z .nil) (⟨Z,⟨hb,cv,bs,kv,ps,hr,hH,bK,bU,bJ,hk⟩⟩)
variable {c:cY} {h:bF} {k:Nat}
structure vX (c:cY) (p:fE):Prop where
 s:(p.s:Int)<c.stripes
 who:p.who≤8
 t:0≤p.time.now∧p.time.now≤18446744073709551615
 act:∀x,p.act=.wr x→0≤x.ttl∧x.ttl≤18446744073709551615
theorem vX.put {p:fE} (w:vX c p) (a:Nat) (b e:Int):vX c { p with at_:=a,placed:=b,err:=e }:=⟨w.s,w.who,w.t,w.act⟩
theorem aO4 (g:HI c h k) {p:fE} (w:vX c p) (i:Nat):HI c (jV h p i).1 (k+1)∧vX c (jV h p i).2:=by
 rcases i with _|_|_|_|_|_|i
 ·exact⟨g.lock w.who p.s,w⟩
 ·exact⟨g.begin_ _ _,w⟩
 ·exact⟨g.take _,w.s,w.who,g.tn,w.act⟩
 ·cases e:p.act with
  | bad=>
   simp only[jV,e];exact⟨g.mono (aQI _),w⟩
  | wr x=>
   simp only[jV,e];exact⟨g.write _ _ _ _,w.s,w.who,w.t,by rw[←e];exact w.act⟩
  | sw=>
   simp only[jV,e];exact⟨g.sweep _ _ _,w.s,w.who,w.t,by rw[←e];exact w.act⟩
 ·exact⟨g.publish _ _,w⟩
 ·exact⟨g.end_ _ _,w⟩
 exact⟨g.unlock _ _,w⟩
theorem Hn (g:HI c h k) {p:fE} (w:vX c p) (pos:Int):HI c (dQ h p pos).1 (k+1)∧vX c (dQ h p pos).2:=by
 unfold dQ;split
 ·exact⟨g.mono (aQI _),w⟩
 split
 ·exact⟨g.mono (aQI _),w.s,w.who,w.t,w.act⟩
 have w1:vX c (if p.at_=2 then { p with placed:=pos } else p):=by
  split
  ·exact⟨w.s,w.who,w.t,w.act⟩
  exact w
 obtain⟨g2,w2⟩:=aO4 g w1 p.at_;exact⟨g2,w2.s,w2.who,w2.t,w2.act⟩
theorem HI.lt (g:HI c h k) {s:Nat} (hs:(s:Int)<c.stripes):s<h.strs.length:=by
 have:=g.len;omega
theorem Um (g:HI c h k) (hk:k≤10000) (hc:c.stripes≤8) (hq:c.queue≤16) {p:fE} (w:vX c p):z6 h p where
 ha:=by have:=g.al;omega
 hs:=g.lt w.s
 hs8:=by have:=g.len;omega
 hw:=by have:=w.who;omega
 hc0:=(g.st p.s).c0.1
 hc1:=by have:=(g.st p.s).c0.2;omega
 hl0:=(g.st p.s).l0.1
 hl1:=by have:=(g.st p.s).l0.2;omega
 ht0:=g.tn
 ht1:=g.sq
 hp0:=w.t.1
 hp1:=w.t.2
 hks:=by have:=g.fk p.s;omega
 hok:=fun i _=>by have:=g.fq p.s i;constructor<;>omega
 act:=by
  have hb:=(g.st p.s).bk.2
  cases e:p.act with
  | bad=>trivial
  | wr x=>exact⟨⟨hb.1,by have:=hb.2.1;omega,fun e he=>by have:=hb.2.2 e he;omega⟩,w.act x e⟩
  | sw=>exact hb.mono aTZ aTZ
variable {c:cY} {h:bF} {k:Nat}
theorem Ny:∀(f:Nat) (l:List (List cI)) (a:List Nat) (o:List cI),(xR f l a o).length≤o.length+f
 | 0,_,_,_=>aP9 _
 | f+1,l,a,o=>by
  simp only[xR]
  cases nB l a l.length with
  | none=>exact aSH _ _
  | some j=>
   simp only;refine aP8 (Ny f l _ _) ?_
   have:(oN l a j).toList.length≤1:=by cases oN l a j<;>simp
   simp only[aQE];omega
theorem Oe:∀(l:List (List cI)) (a:List Nat) (m:Nat),(∀x∈l,x.length≤m)→sZ l a≤l.length*m
 | [],_,_,_=>by simp[sZ]
 | x::l,[],m,_=>by simp[sZ]
 | x::l,a::bs', m,h=>by
  have h1:=h x (aRK ..);have h2:=Oe l bs' m (fun y hy=>h y (aRQ _ hy));simp only[sZ,aQH,Nat.succ_mul];omega
theorem Oi {l:List (List cI)} {m:Nat} (h:∀x∈l,x.length≤m):y6 l≤l.length*m:=Oe l _ m h
theorem aCX {l:List (List cI)} {m:Nat} (h:∀x∈l,x.length≤m):(tM l).length≤l.length*m+1:=by
 have h1:=Ny (y6 l+1) l (List.replicate l.length 0) [];have h2:=Oi h;unfold tM;simp only[aQO]at h1;omega
def gH (x:dE):Bool:=!dH x&&decide (x.kind=8)
theorem ZM {x:dE} {s n:Nat} {a:fD} (h:a∈l6 x s n):match a with
  | .lock s' => s' < n∨s' = s
  | .unlock s' => s' = s
  | .drain s' => s' < n∧gH x=true
  | .last s' => s' < n∧gH x=true
  | _=>True:=by
 unfold l6 at h;split at h
 ·simp only[aRO,aS5,or_false]at h;subst h;trivial
 ·rename_i hb;split at h
  ·rename_i h8
   have hp:gH x=true:=by
    unfold gH;rw[aQJ h8];simpa using hb
   simp only[aQX,aRL,aRZ,aRO,aS5,or_false]at h;rcases h with ((⟨i,hi,rfl⟩|rfl)|⟨i,hi,rfl⟩)|⟨i,hi,rfl⟩
   ·exact .inl hi
   ·trivial
   ·exact⟨hi,hp⟩
   ·exact⟨hi,hp⟩
  ·split at h
   ·simp only[aRO,aS5,or_false]at h;subst h;trivial
   ·simp only[aRO,aS5,or_false]at h;rcases h with rfl|rfl|rfl|rfl
    ·exact .inr Z
    ·trivial
    ·trivial
    ·rfl
structure DI (c:cY) (p:dG):Prop where
 who:p.who<8
 n:(p.n:Int)=c.stripes
 s:(p.s:Int)<c.stripes
 acts:p.acts=l6 p.op p.s p.n
 all:gH p.op=true→p.all.length=p.n
 al:p.all.length≤p.n
 e16:∀x∈p.all,x.length≤16
 ev:p.events.length≤200
theorem Xw (who:Nat) (hw:who<8) (x:dE) (s n:Nat) (hn:(n:Int)=c.stripes) (hs:(s:Int)<c.stripes):DI c (kT who x s n):=by
 refine⟨hw,hn,hs,Z,fun hp=>?_,?_,?_,by simp[kT]⟩
 ·have:dH x=false∧x.kind=8:=by
   have h:gH x=true:=hp;unfold gH at h;simpa using h
  simp[kT,this]
 ·simp only[kT];split<;>simp
 simp only[kT];split
 ·intro y hy;rw[aTL hy];simp
 intro y hy;cases hy
theorem aD4 (g:HI c h k) (Cx:0≤c.queue) (hq:c.queue≤16) (OC:c.stripes≤8) (m:eO) {p:dG} (d:DI c p) (a:fD):HI c (eF h m p a).1 (k+1)∧DI c (eF h m p a).2.2.1:=by
 cases a with
 | bad=>exact⟨g.mono (aQI _),⟨d.who,d.n,d.s,d.acts,d.all,d.al,d.e16,d.ev⟩⟩
 | shut=>exact⟨g.shut _,⟨d.who,d.n,d.s,d.acts,d.all,d.al,d.e16,d.ev⟩⟩
 | look=>exact⟨g.look _,⟨d.who,d.n,d.s,d.acts,d.all,d.al,d.e16,d.ev⟩⟩
 | watch=>
  simp only[eF];split
  ·exact⟨g.mono (aQI _),⟨d.who,d.n,d.s,d.acts,d.all,d.al,d.e16,d.ev⟩⟩
  split
  ·exact⟨g.mono (aQI _),⟨d.who,d.n,d.s,d.acts,d.all,d.al,d.e16,d.ev⟩⟩
  exact⟨g.watch _ _ _ _,d⟩
 | lock s=>exact⟨g.lock (by have:=d.who;omega) s,d⟩
 | unlock s=>exact⟨g.unlock _ s,d⟩
 | drain s=>
  refine⟨g.drain Cx _ s,⟨d.who,d.n,d.s,d.acts,fun hp=>by show (p.all.set s _).length=_;rw[aQZ];exact d.all hp,by show (p.all.set s _).length≤_;rw[aQZ];exact d.al,fun x hx=>?_,d.ev⟩⟩;rcases LV hx with rfl|hx
  ·have:=(g.fq s p.who).2;omega
  exact d.e16 x hx
 | last s=>
  refine⟨g.unlock _ s,⟨d.who,d.n,d.s,d.acts,d.all,d.al,d.e16,?_⟩⟩;simp only[eF];split
  ·have h1:=aCX d.e16;have h2:=d.al;have h3:=d.n;have:p.all.length*16≤8*16:=aQM _ aTZ;omega
  exact d.ev
theorem aFF (g:HI c h k) (Cx:0≤c.queue) (hq:c.queue≤16) (OC:c.stripes≤8) (m:eO) {p:dG} (d:DI c p) (pos:Int):HI c (fR h m p pos).1 (k+1)∧DI c (fR h m p pos).2.2:=by
 unfold fR;split
 ·exact⟨g.mono (aQI _),d⟩
 cases e:p.acts[p.at_]? with
 | none=>exact⟨g.mono (aQI _),d⟩
 | some a=>
  obtain⟨g2,d2⟩:=aD4 g Cx hq OC m d a;exact⟨g2,d2.who,d2.n,d2.s,d2.acts,d2.all,d2.al,d2.e16,d2.ev⟩
theorem Xx (g:HI c h k) (hk:k≤10000) (OC:c.stripes≤8) (hq:c.queue≤16) {p:dG} (d:DI c p) {a:fD} (ha:p.acts[p.at_]?=some a):QJ h p a where
 ha:=by have:=g.al;omega
 hs8:=by have:=g.len;omega
 hw:=d.who
 hN:=by have:=d.n;omega
 act:=by
  have hm:=ZM (d.acts ▸ aQL ha);have hn:∀s:Nat,s<p.n→s<h.strs.length:=fun s hs=>g.lt (by have:=d.n;omega)
  have hl:∀s:Nat,0≤(aR h s).latch∧(aR h s).latch≤1000:=fun s=>by
   have:=(g.st s).l0;exact⟨this.1,by omega⟩
  cases a with
  | bad=>trivial
  | shut=>trivial
  | look=>trivial
  | watch=>exact⟨g.lt d.s,by have:=g.fk p.s;omega⟩
  | lock s=>
   rcases hm with hm|rfl
   ·exact hn s hm
   ·exact g.lt d.s
  | unlock s=>
   obtain rfl:s=p.s:=hm;exact⟨g.lt d.s,hl _⟩
  | drain s=>exact⟨hn s hm.1,by have:=(g.fq s p.who).2;omega,by rw[d.all hm.2];exact hm.1⟩
  | last s=>
   have h1:=Oi d.e16;have h2:=d.al;have h3:=d.n;have:p.all.length*16≤8*16:=aQM _ aTZ;exact⟨hn s hm.1,(hl s).1,(hl s).2,by omega,by omega⟩
theorem Xy (g:HI c h k) (hk:k≤10000) (OC:c.stripes≤8) (hq:c.queue≤16) {p:dG} (d:DI c p):z4 h (.d p):=by
 refine⟨?_,fun s hs=>?_,fun a ha _=>Xx g hk OC hq d ha⟩
 ·have:=aD7 p.op p.s p.n;have:=d.n;rw[d.acts];omega
 unfold tW at hs
 cases e:p.acts[p.at_]? with
 | none=>
  rw[e]at hs;simp only at hs;omega
 | some a=>
  rw[e]at hs;have hm:=ZM (d.acts ▸ aQL e)
  cases a with
  | lock s' =>
   have fM : (s' : Int)=s:=hs
   obtain rfl:s' = s:=by omega
   rcases hm with hm|rfl
   ·exact g.lt (by have:=d.n;omega)
   exact g.lt d.s
  | _=>simp[D9]at hs
variable {c:cY} {h:bF} {k:Nat}
structure CI (c:cY):Prop where
 st:1≤c.stripes∧c.stripes≤8
 qu:1≤c.queue∧c.queue≤16
 re:0≤c.retries∧c.retries≤4
 ep:0≤c.epochs∧c.epochs≤18446744073709551615
theorem KB (h:qB c=true) (h0:0≤c.epochs) (h1:c.epochs≤18446744073709551615):CI c:=by
 unfold qB at h;simp only[aQV,decide_eq_true_eq]at h;exact⟨h.1.1.1.1,h.1.1.2,h.2,h0,h1⟩
theorem Mb {κ β:Type} [DecidableEq κ]:∀(l:List (κ × β)) (a:κ) (i:Nat) {j:Nat} {x:β},mL l a i=some (j,x)→∃q∈l,q.2=x
 | [],_,_,_,_,h=>by cases h
 | q::l,a,i,j,x,h=>by
  unfold mL at h;split at h
  ·obtain⟨_,rfl⟩:=Prod.mk.inj (aQB h);exact⟨q,aRK ..,Z⟩
  ·obtain⟨q', h1,h2⟩:=Mb l a (i+1) h;exact⟨q', aRQ _ h1,h2⟩
theorem aDZ {κ β:Type} [DecidableEq κ] {l:List (κ × β)} {a:κ} {x:β} (h:tQ l a=some x):∃q∈l,q.2=x:=by
 unfold tQ at h
 cases e:mL l a 0 with
 | none=>rw[e]at h;cases h
 | some q=>
  rw[e]at h;obtain rfl:q.2=x:=aQB h;exact Mb l a 0 e
theorem Me {κ β:Type} [DecidableEq κ] {l:List (κ × β)} {a:κ} {x:β} {q:κ × β} (h:q∈lP l a x):q=(a,x)∨q∈l:=by
 unfold lP at h;split at h
 ·rcases List.mem_or_eq_of_mem_set h with h|h
  ·exact .inr h
  exact .inl h
 rcases aQX.1 h with h|h
 ·exact .inr h
 exact .inl (aQR.1 h)
theorem aNU {users:List ByteArray} {n:Int} (hn:1≤n) {x:Int} (h:x∈r5 users n):∃s:Nat,x=(s:Int)∧(s:Int)<n:=by
 unfold r5 at h;obtain⟨s,hs,rfl⟩:=aRL.1 h;obtain⟨_,h2⟩:=List.mem_filter.1 hs;obtain⟨u,_,hu⟩:=aRX.1 h2;have:=bA hu;exact⟨s,Z,by have:=(JI u hn).2;omega⟩
theorem aNT (users:List ByteArray) (n:Int):(r5 users n).length≤8:=by
 unfold r5;rw[aQ5];exact aP8 (aRA _ _) (by rw[aRY];exact aP9 _)
structure RI (c:cY) (p:cL) (k:Nat):Prop where
 who:p.who<8
 ul:p.users.length≤8
 us:∀u∈p.users,u.size≤16
 of_:p.of_=c.stripes
 st:p.stripes=r5 p.users c.stripes
 ph:p.phase≤8
 at_:p.stripes≠[]→p.at_<p.stripes.length
 ep:p.epochs.length=p.stripes.length
 er:∀e∈p.epochs,0≤e∧e≤(k:Int)
 se:∀q∈p.seen,p5 q.2 k
 tr:0≤p.tries∧p.tries≤4
 v:p.phase≠8→p.values=[]
 vl:p.values.length≤8
theorem RI.mono {p:cL} (r:RI c p k) {k' : Nat} (hk:k≤k'):RI c p k' := ⟨r.who,r.ul,r.us,r.of_,r.st,r.ph,r.at_,r.ep,fun e he=>⟨(r.er e he).1,by have:=(r.er e he).2;omega⟩,fun q hq=>(r.se q hq).mono hk,r.tr,r.v,r.vl⟩
theorem Et {α:Type} {l:List α} (h:l≠[]):0<l.length:=List.length_pos_iff.2 h
theorem Qa {p:cL} (r:RI c p k) (hv:p.values=[]) {t:Int} (ht:0≤t∧t≤4):RI c (GJ { p with tries:=t }) k:=
 ⟨r.who,r.ul,r.us,r.of_,r.st,by show (0:Nat)≤8;decide,Et,by simp[GJ],fun e he=>by
  have:e=0:=aTL he;subst this
  exact⟨aQK _,by omega⟩,fun q hq=>(by cases hq),ht,fun _=>hv,r.vl⟩
theorem aO3 {x:dE}:(jB x).length≤8∧∀u∈jB x,u.size≤16:=by
 unfold jB;split
 ·exact⟨by simp,fun u h=>by cases h⟩
 rename_i hb
 have hb:dH x=false:=by simpa using hb
 unfold zS;unfold dH at hb;split
 ·rename_i h4;rw[if_neg aTZ,if_neg aTZ,if_pos aTZ]at hb;refine⟨by simp,fun u hu=>?_⟩;rw[aQR.1 hu]
  have:pF x.user=true:=by simpa using hb
  unfold pF at this;simp only[aQV,decide_eq_true_eq]at this;exact this.2
 split
 ·rename_i h5;rw[if_neg aTZ,if_neg aTZ,if_neg aTZ,if_pos h5]at hb;obtain⟨aJ,aV⟩:=Bool.or_eq_false_iff.1 hb
  have aV:(decide (1≤(x.users.length:Int)∧(x.users.length:Int)≤8))=true:=by simpa using aV
  have aV:=bA aV;refine⟨by omega,fun u hu=>?_⟩
  have:pF u=true:=by
   have:=List.any_eq_false.1 aJ u hu;simpa using this
  unfold pF at this;simp only[aQV,decide_eq_true_eq]at this;exact this.2
 exact⟨by simp,fun u h=>by cases h⟩
theorem aJ9 (ci:CI c) (who:Nat) (hw:who<8) (x:dE):RI c (VA who x c.stripes c.retries) k:=by
 have hu:=aO3 (x:=x)
 have r0:RI c (⟨who,jB x,c.stripes,r5 (jB x) c.stripes,0,0,c.retries,List.replicate (r5 (jB x) c.stripes).length 0,false,false,[],DH,0,-1,0,[]⟩:cL) k:=
  ⟨hw,hu.1,hu.2,rfl,rfl,by show (0:Nat)≤8;decide,Et,by simp,fun e he=>by
   have:e=0:=aTL he;subst this
   exact⟨aQK _,by omega⟩,fun q hq=>(by cases hq),ci.re,fun _=>rfl,aQC _⟩
 exact Qa r0 Z ci.re
theorem RI.next {p:cL} (r:RI c p k) (hv:p.values=[]) {ph:Nat} (hp:ph≤8):RI c (fB p ph).1 k∧(fB p ph).1.values=[]:=by
 unfold fB;split
 ·rename_i h1;exact⟨⟨r.who,r.ul,r.us,r.of_,r.st,r.ph,fun _=>h1,r.ep,r.er,r.se,r.tr,fun _=>hv,r.vl⟩,hv⟩
 exact⟨⟨r.who,r.ul,r.us,r.of_,r.st,hp,Et,r.ep,r.er,r.se,r.tr,fun _=>hv,r.vl⟩,hv⟩
theorem RI.answer {p:cL} (r:RI c p k) (hv:p.values=[]) {ph:Nat} (hp:ph=8):RI c { f8 p with phase:=ph } k:=by
 subst hp;unfold f8;split
 ·exact⟨r.who,r.ul,r.us,r.of_,r.st,aP9 _,r.at_,r.ep,r.er,r.se,r.tr,fun h=>absurd Z h,aQC _⟩
 exact⟨r.who,r.ul,r.us,r.of_,r.st,aP9 _,r.at_,r.ep,r.er,r.se,r.tr,fun h=>absurd Z h,by show (p.values++p.users.map (fT p)).length≤8;rw[hv];simpa using r.ul⟩
theorem RI.answer' {p:cL} (r:RI c p k) (hv:p.values=[]) (hp:p.phase=8):RI c (f8 p) k:=by
 have:=r.answer hv hp.symm.symm
 have e:{ f8 p with phase:=p.phase }=f8 p:=by unfold f8;split<;>rfl
 rwa [e]at this
theorem RI.judge {p:cL} (r:RI c p k) (hv:p.values=[]):RI c (oR p) k:=by
 unfold oR;split
 ·exact r.answer hv Z
 split
 ·exact⟨r.who,r.ul,r.us,r.of_,r.st,by show (4:Nat)≤8;decide,r.at_,r.ep,r.er,r.se,r.tr,fun _=>hv,r.vl⟩
 rename_i h2;refine Qa r hv ?_;have:=r.tr;omega
theorem aJL (p:cL) (ph:Nat) (h:(fB p ph).2=true):(fB p ph).1.phase=ph:=by
 unfold fB at h ⊢;split
 ·rename_i h1;rw[if_pos h1]at h;cases h
 rfl
theorem aI8 (g:HI c h k) {p:cL} (r:RI c p k) (pos:Int) (hn:p.phase≠8):HI c (iO h p pos).1 (k+1)∧RI c (iO h p pos).2 (k+1):=by
 have hv:=r.v hn;have r1:=r.mono (aQI k);have hc:=fun s=>(g.st s).c0
 have look:HI c (oQ h p pos).1 (k+1)∧(p.phase≤6→RI c (oQ h p pos).2 (k+1)):=
  ⟨g.look _,fun h6=>⟨r1.who,r1.ul,r1.us,r1.of_,r1.st,by show p.phase+1≤8;omega,r1.at_,r1.ep,r1.er,r1.se,r1.tr,fun _=>hv,r1.vl⟩⟩
 unfold iO;split
 ·refine⟨g.epoch _ _,(RI.next (p:={ p with epochs:=p.epochs.set p.at_ (aR h (rS p)).cv,spent:=_ }) ⟨r1.who,r1.ul,r1.us,r1.of_,r1.st,r1.ph,r1.at_,by show (p.epochs.set _ _).length=_;rw[aQZ];exact r1.ep,fun e he=>?_,r1.se,r1.tr,r1.v,r1.vl⟩ hv aT0).1⟩;rcases LV he with rfl|he
  ·exact⟨(hc _).1,by have:=(hc (rS p)).2;omega⟩
  exact r1.er e he
 ·refine⟨g.snap _ _,(RI.next (p:={ p with seen:=lP p.seen (rS p:Int) (aR h (rS p)).snap }) ⟨r1.who,r1.ul,r1.us,r1.of_,r1.st,r1.ph,r1.at_,r1.ep,r1.er,fun q hq=>?_,r1.tr,r1.v,r1.vl⟩ hv aT0).1⟩;rcases Me hq with rfl|hq
  ·exact (g.st _).sn.mono (aQI _)
  exact r1.se q hq
 ·rename_i e;exact⟨look.1,look.2 aTZ⟩
 ·refine⟨g.epoch _ _,?_⟩
  have r2:RI c { p with valid:=p.valid&&decide (p.epochs.getD p.at_ 0=(aR h (rS p)).cv∧p.epochs.getD p.at_ 0%2=0∧p.epochs.getD p.at_ 0<gX h.cfg.epochs) } (k+1):=⟨r1.who,r1.ul,r1.us,r1.of_,r1.st,r1.ph,r1.at_,r1.ep,r1.er,r1.se,r1.tr,r1.v,r1.vl⟩
  have r3:=r2.next hv (ph:=8) (aP9 _);show RI c (if _ then _ else _) _;split
  ·exact r3.1.judge r3.2
  exact r3.1
 ·exact⟨g.lock (by have:=r.who;omega) _,(r1.next hv aT0).1⟩
 ·rename_i e;exact⟨look.1,look.2 aTZ⟩
 ·refine⟨g.read _ _,(RI.next (p:={ p with seen:=lP p.seen (rS p:Int) (aR h (rS p)).book }) ⟨r1.who,r1.ul,r1.us,r1.of_,r1.st,r1.ph,r1.at_,r1.ep,r1.er,fun q hq=>?_,r1.tr,r1.v,r1.vl⟩ hv aT0).1⟩;rcases Me hq with rfl|hq
  ·exact (g.st _).bk.mono (aQI _)
  exact r1.se q hq
 ·refine⟨g.unlock _ _,?_⟩;have r3:=r1.next hv (ph:=8) (aP9 _);show RI c (if _ then _ else _) _;split
  ·rename_i e;exact r3.1.answer' r3.2 (aJL _ _ e)
  exact r3.1
 exact⟨g.mono (aQI _),r1⟩
theorem aJT (g:HI c h k) {p:cL} (r:RI c p k) (pos:Int):HI c (jR h p pos).1 (k+1)∧RI c (jR h p pos).2 (k+1):=by
 unfold jR;have r1:=r.mono (aQI k);split
 ·exact⟨g.mono (aQI _),r1⟩
 rename_i he;split
 ·rename_i hs;exact⟨g.mono (aQI _),r1.who,r1.ul,r1.us,r1.of_,r1.st,aP9 _,r1.at_,r1.ep,r1.er,r1.se,r1.tr,fun h=>absurd Z h,aQC _⟩
 refine aI8 g r pos fun e=>he ?_;unfold uH;rw[aQJ e];rfl
theorem Fj (ci:CI c) (g:HI c h k) {p:cL} (r:RI c p k) (hs:p.stripes≠[]):∃s:Nat,p.stripes[p.at_]?=some (s:Int)∧s<h.strs.length:=by
 have aW:=r.at_ hs;obtain⟨s,e,h2⟩:=aNU (x:=p.stripes[p.at_]) ci.st.1 (by rw[←r.st];exact aQN aW);exact⟨s,by rw[aQA aW,e],g.lt h2⟩
theorem Iv {b:dV} (hb:p5 b k) (hk:k≤10000):zU b:=⟨hb.2.1,by have:=hb.2.2.1;omega,fun e he=>by have:=hb.2.2.2 e he;omega⟩
def RE (p:cL):Prop:=p.stripes=[]→p.phase=0∨p.phase=8
theorem aJJ (p:cL):(oR p).stripes=p.stripes:=by
 unfold oR f8 GJ;split
 ·split<;>rfl
 split<;>rfl
theorem aIX (p:cL):(f8 p).stripes=p.stripes:=by
 unfold f8;split<;>rfl
theorem aJC (h:bF) (p:cL) (pos:Int):(iO h p pos).2.stripes=p.stripes:=by
 unfold iO;split
 ·exact (ES _ _).2
 ·exact (ES _ _).2
 ·rfl
 ·show cL.stripes (if _ then _ else _)=_;split
  ·rw[aJJ];exact (ES _ _).2
  exact (ES _ _).2
 ·exact (ES _ _).2
 ·rfl
 ·exact (ES _ _).2
 ·show cL.stripes (if _ then _ else _)=_;split
  ·rw[aIX];exact (ES _ _).2
  exact (ES _ _).2
 rfl
theorem RE.step {p:cL} (r:RE p) (h:bF) (pos:Int):RE (jR h p pos).2:=by
 unfold jR;split
 ·exact r
 split
 ·exact fun _=>.inr Z
 rename_i hs;intro e;rw[aJC]at e;exact absurd e hs
theorem aKF (who:Nat) (x:dE) (n t:Int):RE (VA who x n t):=fun _=>.inl rfl
theorem aKA (ci:CI c) (g:HI c h k) (hk:k≤10000) {p:cL} (r:RI c p k) (re:RE p):z4 h (.r p):=by
 refine⟨fun e=>?_,fun s hs=>?_,fun he hs=>⟨by have:=g.al;omega,by have:=g.len;have:=ci.st;omega,by have:=r.who;omega,r.ph,r.at_ hs,by rw[r.st];exact aNT _ _,Fj ci g r hs,r.ep,fun e h=>⟨(r.er e h).1,by have:=(r.er e h).2;omega⟩,⟨r.tr.1,by have:=r.tr.2;omega⟩,by rw[g.cfg];exact ci.ep,fun s _=>⟨(g.st s).l0.1,by have:=(g.st s).l0.2;omega⟩,⟨by have:=r.ul;omega,fun u hu=>by have:=r.us u hu;omega,by rw[r.of_];have:=ci.st;omega,fun x=>?_,r.v fun e=>?_⟩⟩⟩
 ·by_cases hs:p.stripes=[]
  ·have:=re hs;omega
  exact r.at_ hs
 ·unfold uL at hs;split at hs
  ·by_cases e:p.stripes=[]
   ·rw[e]at hs;simp at hs
   obtain⟨s', h1,h2⟩:=Fj ci g r e;rw[aQQ,h1]at hs;have:(s' : Int)=s:=hs
   obtain rfl:s' = s:=by omega
   exact h2
  omega
 ·cases e:tQ p.seen x with
  | none=>exact Iv (M7 0) (aQC _)
  | some b=>
   obtain⟨q,hq,rfl⟩:=aDZ e;exact Iv (r.se q hq) hk
 unfold uH at he;rw[aQJ e]at he;cases he
def DV (s:iI) (k:Nat):List eM:=(s.clients.take k).map fun l=>⟨l,0,[],none,-1⟩
theorem Xe {s:iI} {k:Nat} (h:k<s.clients.length):DV s (k+1)=DV s k++[⟨s.clients[k],0,[],none,-1⟩]:=by
 unfold DV;rw[aQY h,aR9];rfl
theorem Ji {s:iI} {k:Nat} (h:k≤s.clients.length):(DV s k).length=k:=by
 simp[DV,h]
theorem pO.add {t:TW} {ps:List Nat} {cs:List eM} {b:Nat} {c:eM} (h:pO t ps cs) (hc:DN t cs.length b c):pO t (ps++[b]) (cs++[c]):=by
 refine⟨by simp[h.1],fun i b2 c2 h1 h2=>?_⟩;have hi:=(aQG.1 h2).1;rw[aQE,aQH,aQO]at hi;rcases aTS (show i≤cs.length by omega)with hi|hi
 ·rw[aRI hi]at h2;rw[aRI (by rw[h.1];exact hi)]at h1;exact h.2 i b2 c2 h1 h2
 subst hi;rw[aQ7 (aP9 _),aSJ]at h2;rw[aQ7 (by rw[h.1];exact aP9 _),h.1,aSJ]at h1;obtain rfl:=aQB h1;obtain rfl:=aQB h2;exact hc
theorem Xd {s:iI} (h:g8 s=0):qB s.cfg=true:=by
 unfold g8 at h;split at h
 ·cases h
 cases e:qB s.cfg
 ·simp_all
 rfl
theorem aLU {s:iI} {cv pv:Value} (t:TW) (hc:Sl t (fG nX) cv s.clients) (hp:Sl t xP pv s.picks) (h1:s.clients.length≤1000000) (h2:s.picks.length≤1000000) (h3:∀l∈s.clients,l.length≤1000000) (sO:0≤s.cfg.epochs) (vC:s.cfg.epochs≤18446744073709551615):aL 22 [.agg (kR s.cfg++[cv,pv]).toArray] t (fun z=>z=.sweep 0) (fun v t' => if g8 s=0 then ∃rb fp,v=.tuple #[Y rb,O 0]∧t.w.heap.size≤rb∧gC t' rb (zG s fp) else v=.tuple #[.pointer none,O (g8 s)]):=by
 obtain⟨Ac,cc,rfl,_⟩:=hc.form;obtain⟨Ap,cp,rfl,_⟩:=hp.form;have hz:t.w.heap.size≤t.w.heap.size:=aP9 _;refine bG func22 Z ntmps22<|aD<|aI (dP (.loc 1) (cs:=[O s.cfg.stripes,O s.cfg.sessions,O s.cfg.queue,O s.cfg.watches,O s.cfg.retries,U s.cfg.epochs,U s.cfg.start,.slice Ac s.clients.length cc,.slice Ap s.picks.length cp]) Z) ?_;rintro _ t1 ⟨b1,rfl,s1,aJ,nb1,mb1⟩;obtain⟨hc,hp,hz⟩:=Q3 (hc.n s1) (hp.n s1) (aP8 hz s1.size);refine WL.a Z<|WL.a Z<|aB<|WC.seq<|aD<|WL.r (Rd.la Z M2 (aJ.at (vs:=[O s.cfg.stripes,O s.cfg.sessions,O s.cfg.queue,O s.cfg.watches,O s.cfg.retries,U s.cfg.epochs,U s.cfg.start,.slice Ac s.clients.length cc,.slice Ap s.picks.length cp]) Z))<|aI (Ef.call Z aBV (aH5 s _ _ _ hc hp h1 h2) aT2) ?_;rintro _ t2 ⟨s2,rfl⟩;obtain⟨aJ,hc,hz⟩:=Q3 (aJ.n s2) (hc.n s2) (aP8 hz s2.size);refine WL.a Z<|aB<|aD<|WL.m Z<|aA (aN Z Z BO.ne)<|aB ?_;refine bD Z (fun lS=>?_) (fun lS=>?_)
 ·have jP:g8 s≠0:=aY (iG lS);exact aD<|WL.m Z<|WL.a Z<|WL.a Z<|aB<|WC.ret<|WQ.tr<|WQ.ret Z (.tmp Z (.tmp Z .nil)) (by rw[if_neg jP];rfl)
 have jP:g8 s=0:=bA (iG lS);refine WC.skip<|WQ.n<|aD<|WL.q 0 Z Y3<|WL.r (Rd.la Z DP (aJ.at (vs:=[O s.cfg.stripes,O s.cfg.sessions,O s.cfg.queue,O s.cfg.watches,O s.cfg.retries,U s.cfg.epochs,U s.cfg.start]) Z))<|aI (Ef.call Z aBW (aEI s.cfg _ sO vC) aT2) ?_;rintro v18 t3 ⟨s3,K1⟩;obtain⟨aJ,hc,hz⟩:=Q3 (aJ.n s3) (hc.n s3) (aP8 hz s3.size);have TM:qB s.cfg=true:=Xd jP;rw[if_neg (by simp[TM])]at K1;obtain⟨hb,fp,rfl,nhb,hH⟩:=K1;refine WL.m Z<|aA (Fr.ext Z Z)<|aA (Fr.ext Z Z)<|WL.a Z<|WL.a Z<|aB<|WC.seq<|aD<|WL.m Z<|aA (aN Z Z BO.ne) ?_;refine aB<|nH<|WC.skip<|WQ.n<|aD<|WL.m Z<|WL.m Z<|aI (Ef.call Z aBX (aN0 _ _) (fun _ h=>h)) ?_;rintro _ t4 ⟨s4,bs,rfl,nbs,bJ⟩;obtain⟨hH,aJ,hc,hz⟩:=Q4 (hH.n s4) (aJ.n s4) (hc.n s4) (aP8 hz s4.size);refine aA (Fr.bd (vs:=[(0,Y hb),(2,Y bs),(3,O (-1))]) (cs:=#[Y hb,.slice none 0 0,Y bs,O (-1),O 0,O 0,O 0,.slice none 0 0]) Z (fun w=>by kernel_rfl))<|aI (dP (.run) (cs:=[Y hb,.slice none 0 0,Y bs,O (-1),O 0,O 0,O 0,.slice none 0 0]) Z) ?_;rintro _ t5 ⟨b28,rfl,s5,eL,nb28,mb28⟩;obtain⟨hH,aJ,hc,bJ,hz⟩:=Q5 (hH.n s5) (aJ.n s5) (hc.n s5) (bJ.step' s5 iH) (aP8 hz s5.size);refine WL.a Z<|aB<|WC.seq<|aD<|WL.q 7 Z B5<|WL.r (aF Z C9 (aJ.cell Z))<|aA (dC Z underlying25)<|WL.m Z<|aB<|WC.block ?_;refine WC.loop (σ:=Nat) (fun k t' => Sl t' (fG nX) (.slice Ac s.clients.length cc) s.clients∧t.w.heap.size≤t'.w.heap.size∧Bk t' b1 [O s.cfg.stripes,O s.cfg.sessions,O s.cfg.queue,O s.cfg.watches,O s.cfg.retries,U s.cfg.epochs,U s.cfg.start,.slice Ac s.clients.length cc,.slice Ap s.picks.length cp] 28 (.loc 1)∧cJ t' hb (sH s.cfg fp)∧mJ t' bs ⟨0,0,zO 0⟩∧k≤s.clients.length∧(∃cv ps,Bk t' b28 [Y hb,cv,Y bs,O (-1),O 0,O 0,O 0,.slice none 0 0] 107 .run∧aZ t' (.loc 48) t.w.heap.size 108 jZ cv ps∧pO t' ps (DV s k))∧True) (fun k=>[(2,.pointer none),(3,O 0),(7,Y b28),(30,.slice Ac s.clients.length cc),(31,O (s.clients.length:Int)),(32,O (k:Int))]) (fun k=>s.clients.length-k) 0 ⟨Z,Z,Z,Z,Z,Z,trivial⟩ ⟨hc,hz,aJ,hH,bJ,aQC _,⟨_,_,eL,aZ.nil _ _ _ _ _,Z,fun i b c h=>by simp at h⟩,trivial⟩ ?_;rintro k t6 ⟨hc,hz,aJ,hH,bJ,hk,hI,_⟩;obtain⟨cv,ps,eL,bK,bU⟩:=hI;obtain⟨Aq,cq,rfl,_⟩:=bK.form;refine aD<|aA (aN Z Z BO.lt)<|aB<|WC.seq ?_;refine bD Z (fun H6=>?_) (fun H6=>?_)
 ·have aW:k<s.clients.length:=by have:=bA H6;omega
  refine WC.skip<|WQ.n<|WC.seq<|WC.block<|aD ?_;obtain⟨bo,oo,capo,co,eo,Mw,⟨ov,rfl,ho⟩,D7,TY,TT⟩:=hc.at_ (aQA aW);obtain⟨HO,_,_⟩:=Value.slice.inj eo;obtain⟨Ao,cpo,rfl,_⟩:=ho.form;have LJ:=h3 _ (aQN aW)
  have bZ:ps.length=k:=by rw[bU.1,Ji hk]
  refine aA (bV (congrArg (fun A=>some (Value.slice A s.clients.length cc)) HO) Z PU aTZ aTZ (o' := oo+k*1) aT4)<|WL.r (aF Z GO (D7.one Z))<|WL.a Z<|aB<|WC.dr (fun _=>True) (.blk (.then_ (.then_ (.blk (.then_ .body))))) (trivial) ?_;obtain⟨hH,aJ,eL,hc,bK,bJ,hz⟩:=Q7 (hH.n dW) (aJ.n dW) (eL.n dW) (hc.n dW) (bK.n dW) (bJ.step' dW iH) (aP8 hz dW.size);have bU:=bU.step dW (fun _ _ _ h=>h);have ho:=ho.n dW;refine DL.m 0 Z Z<|DL.m 1 Z Z<|aE 2 Z (aT Z)<|aE 3 Z (Fr.q 1 Z yI)<|DL.m 6 Z Z ?_;refine gV (i:=4) (j:=5) aT1 ?_ ?_
  focus
   refine cO.r Z (aF Z BI (eL.cell Z))<|bH 5 Z (cP (.loc 41) (vs:=[]) (cs:=[]) (e:=56) Z (fun w=>by kernel_rfl)) aT7 ?_;rintro _ t7 ⟨b41,rfl,s7,dK,nb41,_⟩;obtain⟨hH,aJ,eL,hc,bK,bJ,hz⟩:=Q7 (hH.n s7) (aJ.n s7) (eL.n s7) (hc.n s7) (bK.n s7) (bJ.step' s7 iH) (aP8 hz s7.size);have bU:=bU.step s7 (fun _ _ _ h=>h);have ho:=ho.n s7;refine bH 7 Z (lY Z Z PV XP aT0 (oX (g:=.loc 41) (B:=t.w.heap.size) dK nb41 Z aT0) ho (aQ1 (aR1 nb41 dK.lt)) aVI aT0 nofun (.inl (aP9 _))) aT7 ?_;rintro v43 t8 ⟨s8,gK⟩;obtain⟨hH,aJ,eL,hc,bK,bJ,hz⟩:=Q7 (hH.n s8) (aJ.n s8) (eL.n s8) (hc.n s8) (bK.n s8) (bJ.step' s8 ⟨nofun,nofun,nofun⟩) (aP8 hz s8.size);have bU:=bU.step s8 (fun i z hz e=>by subst e;rcases hz.cli with e|e<;>cases e);obtain⟨A43,c43,rfl,_⟩:=gK.form;refine bH 8 Z (Ef.call Z R2 (TP k _) aT2) aT7 ?_;rintro _ t9 ⟨s9,b44,rfl,n44,hM⟩;obtain⟨hH,aJ,eL,hc,bK,bJ,hz⟩:=Q7 (hH.n s9) (aJ.n s9) (eL.n s9) (hc.n s9) (bK.n s9) (bJ.step' s9 iH) (aP8 hz s9.size);have bU:=bU.step s9 (fun _ _ _ h=>h);have gK:=gK.n s9;refine aE 9 Z (Fr.bd (vs:=[(0,.slice A43 ([]++s.clients[k]).length c43),(2,Y b44),(4,O (-1))]) (cs:=#[.slice A43 ([]++s.clients[k]).length c43,O 0,Y b44,.nilIface,O (-1)]) Z (fun w=>by kernel_rfl))<|bH 10 Z (dP (.client k) (cs:=[.slice A43 ([]++s.clients[k]).length c43,O 0,Y b44,.nilIface,O (-1)]) Z) aT7 ?_;rintro _ t10 ⟨b46,rfl,s10,gE,nb46,mb46⟩;obtain⟨hH,aJ,eL,hc,bK,bJ,hz⟩:=Q7 (hH.n s10) (aJ.n s10) (eL.n s10) (hc.n s10) (bK.n s10) (bJ.step' s10 iH) (aP8 hz s10.size);have bU:=bU.step s10 (fun _ _ _ h=>h);obtain⟨gK,hM⟩:=Q2 (gK.n s10) (hM.n s10);refine bH 11 Z (cP (.loc 47) (vs:=[(0,Y b46)]) (cs:=[Y b46]) (e:=108) Z (fun w=>by kernel_rfl)) aT7 ?_;rintro _ t11 ⟨b47,rfl,s11,xF,nb47,_⟩;obtain⟨hH,aJ,eL,hc,bK,bJ,hz⟩:=Q7 (hH.n s11) (aJ.n s11) (eL.n s11) (hc.n s11) (bK.n s11) (bJ.step' s11 iH) (aP8 hz s11.size);have bU:=bU.step s11 (fun _ _ _ h=>h);obtain⟨gK,hM,gE⟩:=Q3 (gK.n s11) (hM.n s11) (gE.n s11);refine bH 12 Z (fO (dk:=jZ) (y1:=b46) Z Z xF Z EX KG aT0 bK hz aTZ aT0 nofun (.inl (aP9 _))) aT7 ?_;rintro v48 t12 ⟨s12,uB⟩;obtain⟨hH,aJ,eL,hc,bJ,hz⟩:=Q6 (hH.n s12) (aJ.n s12) (eL.n s12) (hc.n s12) (bJ.step' s12 ⟨nofun,nofun,nofun⟩) (aP8 hz s12.size);have bU:=bU.step s12 (fun i z hz e=>by subst e;rcases hz.cli with e|e<;>cases e);obtain⟨gK,hM,gE⟩:=Q3 (gK.n s12) (hM.n s12) (gE.n s12);obtain⟨A2,c2,rfl,_⟩:=uB.form;refine aE 13 Z (aT Z)<|aE 14 Z (Fr.q 1 Z yI)<|dY 15 Z (Ef.T [.slice A2 (ps++[b46]).length c2] Z Z eL JJ (.inl nb28)) aT7 ?_;rintro _ t13 ⟨u13,s13,HZ⟩
  rotate_left
  focus
   refine eH Z (cP (.loc 41) (vs:=[]) (cs:=[]) (e:=56) Z (fun w=>by kernel_rfl)) aT7 ?_;rintro _ t14 ⟨b41,rfl,s14,dK,nb41,_⟩;obtain⟨hH,aJ,eL,hc,bK,bJ,hz⟩:=Q7 (hH.n s14) (aJ.n s14) (eL.n s14) (hc.n s14) (bK.n s14) (bJ.step' s14 iH) (aP8 hz s14.size);have bU:=bU.step s14 (fun _ _ _ h=>h);have ho:=ho.n s14;refine gV (i:=4) (j:=7) aT1 ?_ ?_
   focus
    refine cO.r Z (aF Z BI (eL.cell Z))<|bH 7 Z (lY Z Z PV XP aT0 (oX (g:=.loc 41) (B:=t.w.heap.size) dK nb41 Z aT0) ho (aQ1 (aR1 nb41 dK.lt)) aVI aT0 nofun (.inl (aP9 _))) aT7 ?_;rintro v43 t15 ⟨s15,gK⟩;obtain⟨hH,aJ,eL,hc,bK,bJ,hz⟩:=Q7 (hH.n s15) (aJ.n s15) (eL.n s15) (hc.n s15) (bK.n s15) (bJ.step' s15 ⟨nofun,nofun,nofun⟩) (aP8 hz s15.size);have bU:=bU.step s15 (fun i z hz e=>by subst e;rcases hz.cli with e|e<;>cases e);obtain⟨A43,c43,rfl,_⟩:=gK.form;refine bH 8 Z (Ef.call Z R2 (TP k _) aT2) aT7 ?_;rintro _ t16 ⟨s16,b44,rfl,n44,hM⟩;obtain⟨hH,aJ,eL,hc,bK,bJ,hz⟩:=Q7 (hH.n s16) (aJ.n s16) (eL.n s16) (hc.n s16) (bK.n s16) (bJ.step' s16 iH) (aP8 hz s16.size);have bU:=bU.step s16 (fun _ _ _ h=>h);have gK:=gK.n s16;refine aE 9 Z (Fr.bd (vs:=[(0,.slice A43 ([]++s.clients[k]).length c43),(2,Y b44),(4,O (-1))]) (cs:=#[.slice A43 ([]++s.clients[k]).length c43,O 0,Y b44,.nilIface,O (-1)]) Z (fun w=>by kernel_rfl))<|bH 10 Z (dP (.client k) (cs:=[.slice A43 ([]++s.clients[k]).length c43,O 0,Y b44,.nilIface,O (-1)]) Z) aT7 ?_;rintro _ t17 ⟨b46,rfl,s17,gE,nb46,mb46⟩;obtain⟨hH,aJ,eL,hc,bK,bJ,hz⟩:=Q7 (hH.n s17) (aJ.n s17) (eL.n s17) (hc.n s17) (bK.n s17) (bJ.step' s17 iH) (aP8 hz s17.size);have bU:=bU.step s17 (fun _ _ _ h=>h);obtain⟨gK,hM⟩:=Q2 (gK.n s17) (hM.n s17);refine bH 11 Z (cP (.loc 47) (vs:=[(0,Y b46)]) (cs:=[Y b46]) (e:=108) Z (fun w=>by kernel_rfl)) aT7 ?_;rintro _ t18 ⟨b47,rfl,s18,xF,nb47,_⟩;obtain⟨hH,aJ,eL,hc,bK,bJ,hz⟩:=Q7 (hH.n s18) (aJ.n s18) (eL.n s18) (hc.n s18) (bK.n s18) (bJ.step' s18 iH) (aP8 hz s18.size);have bU:=bU.step s18 (fun _ _ _ h=>h);obtain⟨gK,hM,gE⟩:=Q3 (gK.n s18) (hM.n s18) (gE.n s18);refine bH 12 Z (fO (dk:=jZ) (y1:=b46) Z Z xF Z EX KG aT0 bK hz aTZ aT0 nofun (.inl (aP9 _))) aT7 ?_;rintro v48 t19 ⟨s19,uB⟩;obtain⟨hH,aJ,eL,hc,bJ,hz⟩:=Q6 (hH.n s19) (aJ.n s19) (eL.n s19) (hc.n s19) (bJ.step' s19 ⟨nofun,nofun,nofun⟩) (aP8 hz s19.size);have bU:=bU.step s19 (fun i z hz e=>by subst e;rcases hz.cli with e|e<;>cases e);obtain⟨gK,hM,gE⟩:=Q3 (gK.n s19) (hM.n s19) (gE.n s19);obtain⟨A2,c2,rfl,_⟩:=uB.form;refine aE 13 Z (aT Z)<|aE 14 Z (Fr.q 1 Z yI)<|dY 15 Z (Ef.T [.slice A2 (ps++[b46]).length c2] Z Z eL JJ (.inl nb28)) aT7 ?_;rintro _ t13 ⟨u20,s13,HZ⟩
   rotate_left
   focus
    refine eH Z (lY Z Z PV XP aT0 (oX (g:=.loc 41) (B:=t.w.heap.size) dK nb41 Z aT0) ho (aQ1 (aR1 nb41 dK.lt)) aVI aT0 nofun (.inl (aP9 _))) aT7 ?_;rintro v43 t21 ⟨s21,gK⟩;obtain⟨hH,aJ,eL,hc,bK,bJ,hz⟩:=Q7 (hH.n s21) (aJ.n s21) (eL.n s21) (hc.n s21) (bK.n s21) (bJ.step' s21 ⟨nofun,nofun,nofun⟩) (aP8 hz s21.size);have bU:=bU.step s21 (fun i z hz e=>by subst e;rcases hz.cli with e|e<;>cases e);obtain⟨A43,c43,rfl,_⟩:=gK.form;refine gV (i:=4) (j:=8) aT1 ?_ ?_
    focus
     refine cO.r Z (aF Z BI (eL.cell Z))<|bH 8 Z (Ef.call Z R2 (TP k _) aT2) aT7 ?_;rintro _ t22 ⟨s22,b44,rfl,n44,hM⟩;obtain⟨hH,aJ,eL,hc,bK,bJ,hz⟩:=Q7 (hH.n s22) (aJ.n s22) (eL.n s22) (hc.n s22) (bK.n s22) (bJ.step' s22 iH) (aP8 hz s22.size);have bU:=bU.step s22 (fun _ _ _ h=>h);have gK:=gK.n s22;refine aE 9 Z (Fr.bd (vs:=[(0,.slice A43 ([]++s.clients[k]).length c43),(2,Y b44),(4,O (-1))]) (cs:=#[.slice A43 ([]++s.clients[k]).length c43,O 0,Y b44,.nilIface,O (-1)]) Z (fun w=>by kernel_rfl))<|bH 10 Z (dP (.client k) (cs:=[.slice A43 ([]++s.clients[k]).length c43,O 0,Y b44,.nilIface,O (-1)]) Z) aT7 ?_;rintro _ t23 ⟨b46,rfl,s23,gE,nb46,mb46⟩;obtain⟨hH,aJ,eL,hc,bK,bJ,hz⟩:=Q7 (hH.n s23) (aJ.n s23) (eL.n s23) (hc.n s23) (bK.n s23) (bJ.step' s23 iH) (aP8 hz s23.size);have bU:=bU.step s23 (fun _ _ _ h=>h);obtain⟨gK,hM⟩:=Q2 (gK.n s23) (hM.n s23);refine bH 11 Z (cP (.loc 47) (vs:=[(0,Y b46)]) (cs:=[Y b46]) (e:=108) Z (fun w=>by kernel_rfl)) aT7 ?_;rintro _ t24 ⟨b47,rfl,s24,xF,nb47,_⟩;obtain⟨hH,aJ,eL,hc,bK,bJ,hz⟩:=Q7 (hH.n s24) (aJ.n s24) (eL.n s24) (hc.n s24) (bK.n s24) (bJ.step' s24 iH) (aP8 hz s24.size);have bU:=bU.step s24 (fun _ _ _ h=>h);obtain⟨gK,hM,gE⟩:=Q3 (gK.n s24) (hM.n s24) (gE.n s24);refine bH 12 Z (fO (dk:=jZ) (y1:=b46) Z Z xF Z EX KG aT0 bK hz aTZ aT0 nofun (.inl (aP9 _))) aT7 ?_;rintro v48 t25 ⟨s25,uB⟩;obtain⟨hH,aJ,eL,hc,bJ,hz⟩:=Q6 (hH.n s25) (aJ.n s25) (eL.n s25) (hc.n s25) (bJ.step' s25 ⟨nofun,nofun,nofun⟩) (aP8 hz s25.size);have bU:=bU.step s25 (fun i z hz e=>by subst e;rcases hz.cli with e|e<;>cases e);obtain⟨gK,hM,gE⟩:=Q3 (gK.n s25) (hM.n s25) (gE.n s25);obtain⟨A2,c2,rfl,_⟩:=uB.form;refine aE 13 Z (aT Z)<|aE 14 Z (Fr.q 1 Z yI)<|dY 15 Z (Ef.T [.slice A2 (ps++[b46]).length c2] Z Z eL JJ (.inl nb28)) aT7 ?_;rintro _ t13 ⟨u26,s13,HZ⟩
    rotate_left
    focus
     refine eH Z (Ef.call Z R2 (TP k _) aT2) aT7 ?_;rintro _ t27 ⟨s27,b44,rfl,n44,hM⟩;obtain⟨hH,aJ,eL,hc,bK,bJ,hz⟩:=Q7 (hH.n s27) (aJ.n s27) (eL.n s27) (hc.n s27) (bK.n s27) (bJ.step' s27 iH) (aP8 hz s27.size);have bU:=bU.step s27 (fun _ _ _ h=>h);have gK:=gK.n s27;refine aE 9 Z (Fr.bd (vs:=[(0,.slice A43 ([]++s.clients[k]).length c43),(2,Y b44),(4,O (-1))]) (cs:=#[.slice A43 ([]++s.clients[k]).length c43,O 0,Y b44,.nilIface,O (-1)]) Z (fun w=>by kernel_rfl)) ?_;refine gV (i:=4) (j:=10) aT1 ?_ ?_
     focus
      refine cO.r Z (aF Z BI (eL.cell Z))<|bH 10 Z (dP (.client k) (cs:=[.slice A43 ([]++s.clients[k]).length c43,O 0,Y b44,.nilIface,O (-1)]) Z) aT7 ?_;rintro _ t28 ⟨b46,rfl,s28,gE,nb46,mb46⟩;obtain⟨hH,aJ,eL,hc,bK,bJ,hz⟩:=Q7 (hH.n s28) (aJ.n s28) (eL.n s28) (hc.n s28) (bK.n s28) (bJ.step' s28 iH) (aP8 hz s28.size);have bU:=bU.step s28 (fun _ _ _ h=>h);obtain⟨gK,hM⟩:=Q2 (gK.n s28) (hM.n s28);refine bH 11 Z (cP (.loc 47) (vs:=[(0,Y b46)]) (cs:=[Y b46]) (e:=108) Z (fun w=>by kernel_rfl)) aT7 ?_;rintro _ t29 ⟨b47,rfl,s29,xF,nb47,_⟩;obtain⟨hH,aJ,eL,hc,bK,bJ,hz⟩:=Q7 (hH.n s29) (aJ.n s29) (eL.n s29) (hc.n s29) (bK.n s29) (bJ.step' s29 iH) (aP8 hz s29.size);have bU:=bU.step s29 (fun _ _ _ h=>h);obtain⟨gK,hM,gE⟩:=Q3 (gK.n s29) (hM.n s29) (gE.n s29);refine bH 12 Z (fO (dk:=jZ) (y1:=b46) Z Z xF Z EX KG aT0 bK hz aTZ aT0 nofun (.inl (aP9 _))) aT7 ?_;rintro v48 t30 ⟨s30,uB⟩;obtain⟨hH,aJ,eL,hc,bJ,hz⟩:=Q6 (hH.n s30) (aJ.n s30) (eL.n s30) (hc.n s30) (bJ.step' s30 ⟨nofun,nofun,nofun⟩) (aP8 hz s30.size);have bU:=bU.step s30 (fun i z hz e=>by subst e;rcases hz.cli with e|e<;>cases e);obtain⟨gK,hM,gE⟩:=Q3 (gK.n s30) (hM.n s30) (gE.n s30);obtain⟨A2,c2,rfl,_⟩:=uB.form;refine aE 13 Z (aT Z)<|aE 14 Z (Fr.q 1 Z yI)<|dY 15 Z (Ef.T [.slice A2 (ps++[b46]).length c2] Z Z eL JJ (.inl nb28)) aT7 ?_;rintro _ t13 ⟨u31,s13,HZ⟩
     rotate_left
     focus
      refine eH Z (dP (.client k) (cs:=[.slice A43 ([]++s.clients[k]).length c43,O 0,Y b44,.nilIface,O (-1)]) Z) aT7 ?_;rintro _ t32 ⟨b46,rfl,s32,gE,nb46,mb46⟩;obtain⟨hH,aJ,eL,hc,bK,bJ,hz⟩:=Q7 (hH.n s32) (aJ.n s32) (eL.n s32) (hc.n s32) (bK.n s32) (bJ.step' s32 iH) (aP8 hz s32.size);have bU:=bU.step s32 (fun _ _ _ h=>h);obtain⟨gK,hM⟩:=Q2 (gK.n s32) (hM.n s32);refine gV (i:=4) (j:=11) aT1 ?_ ?_
      focus
       refine cO.r Z (aF Z BI (eL.cell Z))<|bH 11 Z (cP (.loc 47) (vs:=[(0,Y b46)]) (cs:=[Y b46]) (e:=108) Z (fun w=>by kernel_rfl)) aT7 ?_;rintro _ t33 ⟨b47,rfl,s33,xF,nb47,_⟩;obtain⟨hH,aJ,eL,hc,bK,bJ,hz⟩:=Q7 (hH.n s33) (aJ.n s33) (eL.n s33) (hc.n s33) (bK.n s33) (bJ.step' s33 iH) (aP8 hz s33.size);have bU:=bU.step s33 (fun _ _ _ h=>h);obtain⟨gK,hM,gE⟩:=Q3 (gK.n s33) (hM.n s33) (gE.n s33);refine bH 12 Z (fO (dk:=jZ) (y1:=b46) Z Z xF Z EX KG aT0 bK hz aTZ aT0 nofun (.inl (aP9 _))) aT7 ?_;rintro v48 t34 ⟨s34,uB⟩;obtain⟨hH,aJ,eL,hc,bJ,hz⟩:=Q6 (hH.n s34) (aJ.n s34) (eL.n s34) (hc.n s34) (bJ.step' s34 ⟨nofun,nofun,nofun⟩) (aP8 hz s34.size);have bU:=bU.step s34 (fun i z hz e=>by subst e;rcases hz.cli with e|e<;>cases e);obtain⟨gK,hM,gE⟩:=Q3 (gK.n s34) (hM.n s34) (gE.n s34);obtain⟨A2,c2,rfl,_⟩:=uB.form;refine aE 13 Z (aT Z)<|aE 14 Z (Fr.q 1 Z yI)<|dY 15 Z (Ef.T [.slice A2 (ps++[b46]).length c2] Z Z eL JJ (.inl nb28)) aT7 ?_;rintro _ t13 ⟨u35,s13,HZ⟩
      rotate_left
      focus
       refine eH Z (cP (.loc 47) (vs:=[(0,Y b46)]) (cs:=[Y b46]) (e:=108) Z (fun w=>by kernel_rfl)) aT7 ?_;rintro _ t36 ⟨b47,rfl,s36,xF,nb47,_⟩;obtain⟨hH,aJ,eL,hc,bK,bJ,hz⟩:=Q7 (hH.n s36) (aJ.n s36) (eL.n s36) (hc.n s36) (bK.n s36) (bJ.step' s36 iH) (aP8 hz s36.size);have bU:=bU.step s36 (fun _ _ _ h=>h);obtain⟨gK,hM,gE⟩:=Q3 (gK.n s36) (hM.n s36) (gE.n s36);refine cR 4 Z (aF Z BI (eL.cell Z))<|bH 12 Z (fO (dk:=jZ) (y1:=b46) Z Z xF Z EX KG aT0 bK hz aTZ aT0 nofun (.inl (aP9 _))) aT7 ?_;rintro v48 t37 ⟨s37,uB⟩;obtain⟨hH,aJ,eL,hc,bJ,hz⟩:=Q6 (hH.n s37) (aJ.n s37) (eL.n s37) (hc.n s37) (bJ.step' s37 ⟨nofun,nofun,nofun⟩) (aP8 hz s37.size);have bU:=bU.step s37 (fun i z hz e=>by subst e;rcases hz.cli with e|e<;>cases e);obtain⟨gK,hM,gE⟩:=Q3 (gK.n s37) (hM.n s37) (gE.n s37);obtain⟨A2,c2,rfl,_⟩:=uB.form;refine aE 13 Z (aT Z)<|aE 14 Z (Fr.q 1 Z yI)<|dY 15 Z (Ef.T [.slice A2 (ps++[b46]).length c2] Z Z eL JJ (.inl nb28)) aT7 ?_;rintro _ t13 ⟨u38,s13,HZ⟩
  all_goals
   have eL:Bk t13 b28 [Y hb,.slice A2 (ps++[b46]).length c2,Y bs,O (-1),O 0,O 0,O 0,.slice none 0 0] _ _:=HZ;clear HZ;obtain⟨hH,aJ,hc,bJ,hz⟩:=Q5 (hH.n s13) (aJ.n s13) (hc.n s13) (bJ.step' s13 ⟨nofun,nofun,nofun⟩) (aP8 hz s13.size);have bU:=bU.step s13 (fun i z hz e=>by subst e;rcases hz.cli with e|e<;>cases e);obtain⟨gK,hM,gE,uB⟩:=Q4 (gK.n s13) (hM.n s13) (gE.n s13) (uB.n s13);refine cK<|cE<|WQ.n<|WC.rg<|aA (aN Z Z (BO.add aTZ aTZ))<|WL.m Z<|WL.nil ?_;have q1:=TW.tagv_step t13 (v:=.slice A43 ([]++s.clients[k]).length c43) (g' := .fz) gK.tags;refine WQ.tag (.slice A43 ([]++s.clients[k]).length c43) .fz (.inl gK.base) ?_;have hf:=gK.freeze nofun;obtain⟨hH,hM,aJ,eL,gE,hc,uB,bJ⟩:=Q8 (hH.n q1) (hM.n q1) (aJ.n q1) (eL.n q1) (gE.n q1) (hc.n q1) (uB.n q1) (bJ.step' q1 ⟨nofun,nofun,nofun⟩);have bU:=bU.step q1 (fun i z hz e=>by subst e;rcases hz.cli with e|e<;>cases e)
   have gN:DN (t13.tagv (.slice A43 ([]++s.clients[k]).length c43) .fz) (DV s k).length b46 ⟨s.clients[k],0,[],none,-1⟩:=by rw[Ji hk];exact⟨_,b44,.nilIface,gE,by simpa using hf,hM,Z⟩
   have NZ:(∃cv ps,Bk (t13.tagv (.slice A43 ([]++s.clients[k]).length c43) .fz) b28 [Y hb,cv,Y bs,O (-1),O 0,O 0,O 0,.slice none 0 0] 107 .run∧aZ (t13.tagv (.slice A43 ([]++s.clients[k]).length c43) .fz) (.loc 48) t.w.heap.size 108 jZ cv ps∧pO (t13.tagv (.slice A43 ([]++s.clients[k]).length c43) .fz) ps (DV s (k+1))):=⟨_,_,eL,uB,by rw[Xe aW];exact bU.add gN⟩
   exact dX (k+1) ⟨Z,Z,Z,Z,Z,Z,trivial⟩ ⟨hc,hz,aJ,hH,bJ,aW,NZ,trivial⟩ aTZ
 have dA:k=s.clients.length:=by have:=aY H6;omega
 refine WC.exit<|cN<|cN<|fK<|WQ.n<|aD<|WL.m Z<|WL.a Z<|WL.a Z<|aB ?_;refine WC.ret ?_;have q2:=TW.tagv_step t6 (g' := .fz) bK.tags;obtain⟨hH,eL,bJ⟩:=Q3 (hH.n q2) (eL.n q2) (bJ.step' q2 ⟨nofun,nofun,nofun⟩);have bU:=bU.step q2 (fun i z hz e=>by subst e;rcases hz.cli with e|e<;>cases e);refine WQ.tag _ .fz (.inl bK.base) ?_;have aGH:=bK.freeze nofun
 exact WQ.ret Z (.tmp Z (.tmp Z .nil)) (by
   rw[if_pos jP];refine⟨b28,fp,Z,nb28,⟨hb,_,bs,_,ps,eL,hH,aGH,?_,bJ,aZ.nil _ _ _ _ _⟩⟩;show pO _ ps (s.clients.map _);rw[dA]at bU;unfold DV at bU;rw[aQU]at bU
   exact bU)
theorem aLP {s:iI} {fp:Nat→Nat} {k:Nat} (h:k<s.picks.length):iY s fp (k+1)=(JF (iY s fp k) s.picks[k]).1:=by
 unfold iY;rw[aQY h,aRF];rfl
theorem Rw {s:iI} {cv pv:Value} (t:TW) (hc:Sl t (fG nX) cv s.clients) (hp:Sl t xP pv s.picks) (h1:s.clients.length≤1000000) (h2:s.picks.length≤1000000) (h3:∀l∈s.clients,l.length≤1000000) (sO:0≤s.cfg.epochs) (vC:s.cfg.epochs≤18446744073709551615) (xG:∀p∈s.picks,0≤p.by_∧p.by_≤18446744073709551615) (hok:g8 s=0→∀fp k,k<s.picks.length→DO (iY s fp k)):aL 9 [.agg (kR s.cfg++[cv,pv]).toArray] t RT (fun v t' => if g8 s=0 then ∃rb fp,v=.tuple #[Y rb,O 0]∧gC t' rb (iY s fp s.picks.length) else v=.tuple #[.pointer none,O (g8 s)]):=by
 obtain⟨Ac,cc,rfl,_⟩:=hc.form;obtain⟨Ap,cp,rfl,_⟩:=hp.form;refine bG func9 Z ntmps9<|aD<|aI (dP (.loc 1) (cs:=[O s.cfg.stripes,O s.cfg.sessions,O s.cfg.queue,O s.cfg.watches,O s.cfg.retries,U s.cfg.epochs,U s.cfg.start,.slice Ac s.clients.length cc,.slice Ap s.picks.length cp]) Z) ?_;rintro _ t1 ⟨b1,rfl,s1,aJ,nb1,mb1⟩;obtain⟨hc,hp⟩:=Q2 (hc.n s1) (hp.n s1);refine WL.a Z<|WL.a Z<|aB<|aD<|WL.r (Rd.la Z M2 (aJ.at (vs:=[O s.cfg.stripes,O s.cfg.sessions,O s.cfg.queue,O s.cfg.watches,O s.cfg.retries,U s.cfg.epochs,U s.cfg.start,.slice Ac s.clients.length cc,.slice Ap s.picks.length cp]) Z))<|aI (Ef.call Z aBA (aLU _ hc hp h1 h2 h3 sO vC) (fun _ h=>by subst h;trivial)) ?_;rintro v10 t2 ⟨s2,o6⟩;obtain⟨aJ,hp⟩:=Q2 (aJ.n s2) (hp.n s2)
 obtain⟨oq,rfl,l9,Do⟩:∃o,v10=.tuple #[.pointer o,O (g8 s)]∧(g8 s≠0→o=none)∧(g8 s=0→∃rb fp,o=some ⟨rb,0,none⟩∧gC t2 rb (zG s fp)):=by
  by_cases e:g8 s=0
  ·rw[if_pos e]at o6;obtain⟨rb,fp,e1,_,hR⟩:=o6;exact⟨_,by rw[e1,e],fun h=>absurd e h,fun _=>⟨rb,fp,Z,hR⟩⟩
  rw[if_neg e]at o6;exact⟨_,o6,fun _=>rfl,fun h=>absurd h e⟩
 refine WL.m Z<|aA (Fr.ext Z Z)<|aA (Fr.ext Z Z)<|WL.a Z<|WL.a Z<|aB<|WC.seq<|aD<|WL.m Z<|aA (aN Z Z BO.ne) ?_;refine aB ?_;refine bD Z (fun fH=>?_) (fun fH=>?_)
 ·have jP:g8 s≠0:=aY (iG fH);exact aD<|WL.m Z<|WL.a Z<|WL.a Z<|aB<|WC.ret<|WQ.tr<|WQ.ret Z (.tmp Z (.tmp Z .nil)) (by rw[if_neg jP];rfl)
 have jP:g8 s=0:=bA (iG fH);obtain⟨rb,fp,rfl,hR⟩:=Do jP;refine WC.skip<|WQ.n<|WC.seq<|aD<|WL.q 8 Z NR<|WL.r (aF Z VQ (aJ.cell Z))<|aA (dC Z underlying26)<|WL.m Z<|aB<|WC.block ?_;refine WC.loop (σ:=Nat) (fun k t' => Sl t' xP (.slice Ap s.picks.length cp) s.picks∧Bk t' b1 [O s.cfg.stripes,O s.cfg.sessions,O s.cfg.queue,O s.cfg.watches,O s.cfg.retries,U s.cfg.epochs,U s.cfg.start,.slice Ac s.clients.length cc,.slice Ap s.picks.length cp] 28 (.loc 1)∧k≤s.picks.length∧gC t' rb (iY s fp k)∧True) (fun k=>[(2,.pointer none),(3,O 0),(4,Y rb),(17,.slice Ap s.picks.length cp),(18,O (s.picks.length:Int)),(19,O (k:Int))]) (fun k=>s.picks.length-k) 0 ⟨Z,Z,Z,Z,Z,Z,trivial⟩ ⟨hp,aJ,aQC _,hR,trivial⟩ ?_;rintro k t3 ⟨hp,aJ,hk,hR,_⟩;refine aD<|aA (aN Z Z BO.lt)<|aB<|WC.seq ?_;refine bD Z (fun qI=>?_) (fun qI=>?_)
 ·have aW:k<s.picks.length:=by have:=bA qI;omega
  refine WC.skip<|WQ.n<|WC.seq<|WC.block<|aD ?_;obtain⟨bo,oo,capo,co,eo,Mw,rfl,D7,TY,TT⟩:=hp.at_ (aQA aW);obtain⟨HO,_,_⟩:=Value.slice.inj eo;refine aA (bV (congrArg (fun A=>some (Value.slice A s.picks.length cp)) HO) Z Sv aTZ aTZ (o' := oo+k*3) aT4)<|WL.r (Rd.la Z Ik D7)<|aI (Ef.al (.loc 7) aP0) ?_;rintro _ t4 ⟨b7,rfl,s4,aQ,nb7,mb7⟩;obtain⟨aJ,hp⟩:=Q2 (aJ.n s4) (hp.n s4);have hR:=gC.step hR s4 aT2 id;refine WL.e0 (Ef.T [O s.picks[k].kind,O s.picks[k].who,U s.picks[k].by_] Z Z aQ Ha (.inl nb7)) ?_;rintro _ t5 ⟨u5,s5,eG⟩;have aQ:Bk t5 b7 [O s.picks[k].kind,O s.picks[k].who,U s.picks[k].by_] _ _:=eG;clear eG;obtain⟨aJ,hp⟩:=Q2 (aJ.n s5) (hp.n s5);have hR:=gC.step hR s5 (fun z h1 h2=>by subst h1;exact h2) nofun;refine aB<|WC.rg<|WL.m Z<|WL.r (Rd.la Z Ik (aQ.at (vs:=[O s.picks[k].kind,O s.picks[k].who,U s.picks[k].by_]) Z))<|aI (Ef.call Z aBB (aLV s.picks[k] _ hR (hok jP fp k aW) (xG _ (aQN aW))) (fun _ h=>h)) ?_;rintro _ t6 ⟨s6,rfl,FT⟩;have hp:=hp.step s6 (fun h=>h);have aJ:=aJ.step s6 (fun h=>h);exact WL.nil<|cE<|WQ.n<|WC.rg<|aA (aN Z Z (BO.add aTZ aTZ))<|WL.m Z<|WL.nil<|dX (k+1) ⟨Z,Z,Z,Z,Z,Z,trivial⟩ ⟨hp,aJ,aW,by rw[aLP aW];exact FT,trivial⟩ aTZ
 have dA:k=s.picks.length:=by have:=aY qI;omega
 refine WC.exit<|cN<|cN<|fK<|WQ.n<|aD<|WL.m Z<|WL.a Z<|WL.a Z<|aB ?_;exact WC.ret<|WQ.ret Z (.tmp Z (.tmp Z .nil)) (by rw[if_pos jP,←dA];exact⟨rb,fp,Z,hR⟩)
theorem aL0 {x:bL} {uv vv ev:Value} (t:TW) (hu:Sl t dJ uv x.op.users) (hv:Sl t pV vv x.reply.values) (he:Sl t eB ev x.reply.events) (h1:x.op.users.length≤1000000) (h2:x.reply.values.length≤1000000) (h3:x.reply.events.length≤1000000):aL 48 [.agg (W8 x uv vv ev).toArray] t No (fun r t' => ∃c,r=.agg c.toArray∧gF.R t' x c):=by
 refine bG func48 Z ntmps48<|aD<|aI (dP (.loc 1) (cs:=[O x.who,O x.nth,O x.op.kind,.string x.op.user,O x.op.id,O x.op.status,O x.op.prio,U x.op.ttl,uv,O x.stripe,U x.by_,O x.began,O x.placed,O x.ended,O x.reply.err,vv,ev,.bool x.reply.lost]) Z) ?_;rintro _ t1 ⟨b1,rfl,s1,aJ,nb1,mb1⟩;obtain⟨he,hu,hv⟩:=Q3 (he.n s1) (hu.n s1) (hv.n s1);refine aI (Ef.al (.loc 2) WE) ?_;rintro _ t2 ⟨b2,rfl,s2,aV,nb2,mb2⟩;obtain⟨aJ,he,hu,hv⟩:=Q4 (aJ.n s2) (he.n s2) (hu.n s2) (hv.n s2);refine aB<|aD<|aI (cP (.loc 3) (vs:=[]) (cs:=[]) (e:=9) Z (fun w=>by kernel_rfl)) ?_;rintro _ t3 ⟨b3,rfl,s3,aG,nb3,_⟩;obtain⟨aJ,aV,he,hu,hv⟩:=Q5 (aJ.n s3) (aV.n s3) (he.n s3) (hu.n s3) (hv.n s3);refine WL.q 2 Z SG<|WL.q 8 Z wC<|WL.r (aF Z nE (aJ.cell Z))<|aI (lY Z Z jT NA aT0 (oX (g:=.loc 3) (B:=t.w.heap.size) aG nb3 Z aT0) hu (aQ1 (aR1 nb3 aG.lt)) aVI aT0 nofun (.inl (aP9 _))) ?_;rintro v7 t4 ⟨s4,pB⟩;obtain⟨aJ,aV,he,hv⟩:=Q4 (aJ.n s4) (aV.n s4) (he.n s4) (hv.n s4);rw[aRB]at pB;obtain⟨A7,c7,rfl,_⟩:=pB.form;refine WL.q 2 Z SG<|WL.q 8 Z wC<|WL.e0 (Ef.T [.slice A7 x.op.users.length c7] Z Z aJ MI (.inl nb1)) ?_;rintro _ t5 ⟨u5,s5,l8⟩;have aJ:Bk t5 b1 [O x.who,O x.nth,O x.op.kind,.string x.op.user,O x.op.id,O x.op.status,O x.op.prio,U x.op.ttl,.slice A7 x.op.users.length c7,O x.stripe,U x.by_,O x.began,O x.placed,O x.ended,O x.reply.err,vv,ev,.bool x.reply.lost] _ _:=l8;clear l8;obtain⟨aV,he,pB,hv⟩:=Q4 (aV.n s5) (he.n s5) (pB.n s5) (hv.n s5);refine aB<|aD<|aI (cP (.loc 10) (vs:=[]) (cs:=[]) (e:=72) Z (fun w=>by kernel_rfl)) ?_;rintro _ t6 ⟨b10,rfl,s6,dI,nb10,_⟩;obtain⟨aJ,aV,he,pB,hv⟩:=Q5 (aJ.n s6) (aV.n s6) (he.n s6) (pB.n s6) (hv.n s6);refine WL.q 14 Z D4<|WL.q 15 Z tO<|WL.r (aF Z zH (aJ.cell Z))<|aI (lY Z Z BK BY aT0 (oX (g:=.loc 10) (B:=t.w.heap.size) dI nb10 Z aT0) hv (aQ1 (aR1 nb10 dI.lt)) aVI aT0 nofun (.inl (aP9 _))) ?_;rintro v14 t7 ⟨s7,sV⟩;obtain⟨aJ,aV,he,pB⟩:=Q4 (aJ.n s7) (aV.n s7) (he.n s7) (pB.n s7);rw[aRB]at sV;obtain⟨A14,c14,rfl,_⟩:=sV.form;refine WL.q 14 Z D4<|WL.q 15 Z tO<|WL.e0 (Ef.T [.slice A14 x.reply.values.length c14] Z Z aJ zR (.inl nb1)) ?_;rintro _ t8 ⟨u8,s8,l8⟩;have aJ:Bk t8 b1 [O x.who,O x.nth,O x.op.kind,.string x.op.user,O x.op.id,O x.op.status,O x.op.prio,U x.op.ttl,.slice A7 x.op.users.length c7,O x.stripe,U x.by_,O x.began,O x.placed,O x.ended,O x.reply.err,.slice A14 x.reply.values.length c14,ev,.bool x.reply.lost] _ _:=l8;clear l8;obtain⟨aV,he,pB,sV⟩:=Q4 (aV.n s8) (he.n s8) (pB.n s8) (sV.n s8);refine aB<|aD<|aI (cP (.loc 17) (vs:=[]) (cs:=[]) (e:=74) Z (fun w=>by kernel_rfl)) ?_;rintro _ t9 ⟨b17,rfl,s9,CE,nb17,_⟩;obtain⟨aJ,aV,he,pB,sV⟩:=Q5 (aJ.n s9) (aV.n s9) (he.n s9) (pB.n s9) (sV.n s9);refine WL.q 14 Z D4<|WL.q 16 Z KW<|WL.r (aF Z mV (aJ.cell Z))<|aI (lY Z Z j5 m0 aT0 (oX (g:=.loc 17) (B:=t.w.heap.size) CE nb17 Z aT0) he (aQ1 (aR1 nb17 CE.lt)) aVI aT0 nofun (.inl (aP9 _))) ?_;rintro v21 t10 ⟨s10,vG⟩;obtain⟨aJ,aV,pB,sV⟩:=Q4 (aJ.n s10) (aV.n s10) (pB.n s10) (sV.n s10);rw[aRB]at vG;obtain⟨A21,c21,rfl,_⟩:=vG.form;refine WL.q 14 Z D4<|WL.q 16 Z KW<|WL.e0 (Ef.T [.slice A21 x.reply.events.length c21] Z Z aJ oW (.inl nb1)) ?_;rintro _ t11 ⟨u11,s11,l8⟩;have aJ:Bk t11 b1 [O x.who,O x.nth,O x.op.kind,.string x.op.user,O x.op.id,O x.op.status,O x.op.prio,U x.op.ttl,.slice A7 x.op.users.length c7,O x.stripe,U x.by_,O x.began,O x.placed,O x.ended,O x.reply.err,.slice A14 x.reply.values.length c14,.slice A21 x.reply.events.length c21,.bool x.reply.lost] _ _:=l8;clear l8;obtain⟨aV,vG,pB,sV⟩:=Q4 (aV.n s11) (vG.n s11) (pB.n s11) (sV.n s11);refine aB<|aD<|WL.r (Rd.la Z G8 (aJ.at (vs:=[O x.who,O x.nth,O x.op.kind,.string x.op.user,O x.op.id,O x.op.status,O x.op.prio,U x.op.ttl,.slice A7 x.op.users.length c7,O x.stripe,U x.by_,O x.began,O x.placed,O x.ended,O x.reply.err,.slice A14 x.reply.values.length c14,.slice A21 x.reply.events.length c21,.bool x.reply.lost]) Z))<|WL.e0 (Ef.T [O x.who,O x.nth,O x.op.kind,.string x.op.user,O x.op.id,O x.op.status,O x.op.prio,U x.op.ttl,.slice A7 x.op.users.length c7,O x.stripe,U x.by_,O x.began,O x.placed,O x.ended,O x.reply.err,.slice A14 x.reply.values.length c14,.slice A21 x.reply.events.length c21,.bool x.reply.lost] Z Z aV MJ (.inl nb2)) ?_
 rintro _ t12 ⟨u12,s12,gM⟩;have aV:Bk t12 b2 [O x.who,O x.nth,O x.op.kind,.string x.op.user,O x.op.id,O x.op.status,O x.op.prio,U x.op.ttl,.slice A7 x.op.users.length c7,O x.stripe,U x.by_,O x.began,O x.placed,O x.ended,O x.reply.err,.slice A14 x.reply.values.length c14,.slice A21 x.reply.events.length c21,.bool x.reply.lost] _ _:=gM;clear gM;obtain⟨vG,pB,sV⟩:=Q3 (vG.n s12) (pB.n s12) (sV.n s12);refine aB<|WC.ret ?_;have q0:=TW.tagv_step t12 (v:=.slice A7 x.op.users.length c7) (g' := .fz) pB.tags;refine WQ.tag (.slice A7 x.op.users.length c7) .fz (.inl pB.base) ?_;have fhru:=pB.freeze nofun;obtain⟨aV,vG,sV⟩:=Q3 (aV.n q0) (vG.n q0) (sV.n q0);have q1:=TW.tagv_step _ (v:=.slice A14 x.reply.values.length c14) (g' := .fz) sV.tags;refine WQ.tag (.slice A14 x.reply.values.length c14) .fz (.inl sV.base) ?_;have fhrv:=sV.freeze nofun;obtain⟨fhru,aV,vG⟩:=Q3 (fhru.n q1) (aV.n q1) (vG.n q1);have q2:=TW.tagv_step _ (v:=.slice A21 x.reply.events.length c21) (g' := .fz) vG.tags;refine WQ.tag (.slice A21 x.reply.events.length c21) .fz (.inl vG.base) ?_;have fhre:=vG.freeze nofun;obtain⟨fhru,fhrv,aV⟩:=Q3 (fhru.n q2) (fhrv.n q2) (aV.n q2);exact WQ.ret Z (.cell Z (eQ G8 Z (aV.at (vs:=[O x.who,O x.nth,O x.op.kind,.string x.op.user,O x.op.id,O x.op.status,O x.op.prio,U x.op.ttl,.slice A7 x.op.users.length c7,O x.stripe,U x.by_,O x.began,O x.placed,O x.ended,O x.reply.err,.slice A14 x.reply.values.length c14,.slice A21 x.reply.events.length c21,.bool x.reply.lost]) Z)) .nil) (⟨_,Z,_,_,_,Z,fhru,fhrv,fhre⟩)
theorem aLR (b:Nat) (t:TW):aL 24 [Y b] t No (fun r t' => ∃b1,r=.func (.func 47) #[] #[Y b1]∧Bk t' b1 [Y b] 31 (.loc 1)):=by
 refine bG func24 Z ntmps24<|aD<|aI (dP (.loc 1) (cs:=[Y b]) Z) ?_;rintro _ t1 ⟨b1,rfl,s1,aJ,nb1,mb1⟩;exact WL.a Z<|aB<|aD<|aA (tI Z)<|WL.a Z<|aB<|WC.ret<|WQ.ret Z (.tmp Z .nil) (⟨_,Z,aJ⟩)
theorem aLS {rb hb bs b1:Nat} {cv:Value} (Ak:Option Addr) (ck:Nat) (r:cM) (hl:r.calls.length≤900000) (vH:∀x∈r.calls,x.op.users.length≤1000000∧x.reply.values.length≤1000000∧x.reply.events.length≤1000000):WV 47 [Y b1] (fun t=>Bk t b1 [Y rb] 31 (.loc 1)∧Bk t rb (xV r hb cv bs (.slice Ak r.calls.length ck)) 107 .run∧aZ t .calls 0 61 gF (.slice Ak r.calls.length ck) r.calls) r.calls.length (fun i t vs=>∃x c,r.calls[i]?=some x∧gF.R t x c∧vs=[.agg c.toArray]):=by
 intro l J t GB AZ IW h0J;obtain⟨aJ,hr,hk⟩:=AZ _ _ h0J;refine bG func47 Z ntmps47<|aD<|WL.r (aF Z aMT (aJ.cell Z))<|aA (aT Z)<|WL.q 7 Z DY<|WL.r (aF Z DA (hr.cell Z))<|aA (dC Z underlying35)<|WL.m Z<|aB<|WC.block ?_;refine WC.loop (σ:=Nat) (fun j t' => Bk t' b1 [Y rb] 31 (.loc 1)∧Bk t' rb (xV r hb cv bs (.slice Ak r.calls.length ck)) 107 .run∧aZ t' .calls 0 61 gF (.slice Ak r.calls.length ck) r.calls∧j≤r.calls.length∧J j t' ∧ True) (fun j=>[(0,.func (.yield l) #[] #[]),(8,.slice Ak r.calls.length ck),(9,O (r.calls.length:Int)),(10,O (j:Int))]) (fun j=>r.calls.length-j) 0 ⟨Z,Z,Z,Z,trivial⟩ ⟨aJ,hr,hk,aQC _,h0J,trivial⟩ ?_;rintro j t1 ⟨aJ,hr,hk,yS,h0J,_⟩;refine aD<|aA (aN Z Z BO.lt)<|aB<|WC.seq ?_;refine bD Z (fun jQ=>?_) (fun jQ=>?_)
 ·have aW:j<r.calls.length:=by have:=bA jQ;omega
  refine WC.skip<|WQ.n<|WC.seq<|WC.block<|aD ?_;obtain⟨b2,c2,d2,e2,qH,⟨uv,vv,ev,rfl,hu,hv,he⟩,hA,LG,_⟩:=hk.at_ (aQA aW);obtain⟨kY,_,_⟩:=Value.slice.inj e2;obtain⟨z1,z2,z3⟩:=vH _ (aQN aW);obtain⟨Au,cu,rfl,_⟩:=hu.form;obtain⟨Av,cw,rfl,_⟩:=hv.form;obtain⟨Ae,ce,rfl,_⟩:=he.form;rw[←aQF (j*gF.k)]at hA;refine aA (bV (congrArg (fun A=>some (Value.slice A r.calls.length ck)) kY) Z vR aTZ aTZ (o' := 0+j*18) aT4)<|WL.r (Rd.la Z G8 hA)<|aI (Ef.al (.loc 4) WE) ?_;rintro _ t2 ⟨b4,rfl,s2,aP,nb4,mb4⟩;obtain⟨he,hu,hv⟩:=Q3 (he.n s2) (hu.n s2) (hv.n s2);refine WL.e0 (Ef.T [O r.calls[j].who,O r.calls[j].nth,O r.calls[j].op.kind,.string r.calls[j].op.user,O r.calls[j].op.id,O r.calls[j].op.status,O r.calls[j].op.prio,U r.calls[j].op.ttl,.slice Au r.calls[j].op.users.length cu,O r.calls[j].stripe,U r.calls[j].by_,O r.calls[j].began,O r.calls[j].placed,O r.calls[j].ended,O r.calls[j].reply.err,.slice Av r.calls[j].reply.values.length cw,.slice Ae r.calls[j].reply.events.length ce,.bool r.calls[j].reply.lost] Z Z aP MJ (.inl nb4)) ?_;rintro _ t3 ⟨u3,s3,eD⟩;have aP:Bk t3 b4 [O r.calls[j].who,O r.calls[j].nth,O r.calls[j].op.kind,.string r.calls[j].op.user,O r.calls[j].op.id,O r.calls[j].op.status,O r.calls[j].op.prio,U r.calls[j].op.ttl,.slice Au r.calls[j].op.users.length cu,O r.calls[j].stripe,U r.calls[j].by_,O r.calls[j].began,O r.calls[j].placed,O r.calls[j].ended,O r.calls[j].reply.err,.slice Av r.calls[j].reply.values.length cw,.slice Ae r.calls[j].reply.events.length ce,.bool r.calls[j].reply.lost] _ _:=eD;clear eD;obtain⟨aJ,hk,hr⟩:=Q3 (aJ.step (u3.from s2 (.inl mb4)) id) (hk.step (u3.from s2 (.inl mb4)) id id) (hr.step (u3.from s2 (.inl mb4)) id);have h0J:=GB _ _ _ (u3.from s2 (.inl mb4)) h0J;obtain⟨he,hu,hv⟩:=Q3 (he.n s3) (hu.n s3) (hv.n s3);refine aB<|QV<|lD (x6 Z)<|WI.r (Rd.la Z G8 (aP.at (vs:=[O r.calls[j].who,O r.calls[j].nth,O r.calls[j].op.kind,.string r.calls[j].op.user,O r.calls[j].op.id,O r.calls[j].op.status,O r.calls[j].op.prio,U r.calls[j].op.ttl,.slice Au r.calls[j].op.users.length cu,O r.calls[j].stripe,U r.calls[j].by_,O r.calls[j].began,O r.calls[j].placed,O r.calls[j].ended,O r.calls[j].reply.err,.slice Av r.calls[j].reply.values.length cw,.slice Ae r.calls[j].reply.events.length ce,.bool r.calls[j].reply.lost]) Z))<|w8 (Ef.call Z aB2 (aL0 _ hu hv he z1 z2 z3) aT2) ?_;rintro _ t4 ⟨s4,c16,rfl,hR⟩;obtain⟨aJ,hk,hr⟩:=Q3 (aJ.n s4) (hk.n s4) (hr.n s4);have h0J:=GB _ _ _ s4 h0J;refine QX Z Z (IW _ _ _ aW ⟨_,c16,aQA aW,hR,Z⟩ h0J) ?_;rintro _ t5 ⟨s5,rfl,h0J⟩;obtain⟨aJ,hr,hk⟩:=AZ _ _ h0J;refine lD (eJ Z)<|MZ<|nH<|WC.skip<|cE<|WQ.n<|WC.rg<|aA (aN Z Z (BO.add aTZ aTZ))<|WL.m Z<|WL.nil ?_;exact dX (j+1) ⟨Z,Z,Z,Z,trivial⟩ ⟨aJ,hr,hk,aW,h0J,trivial⟩ aTZ
 have dA:j=r.calls.length:=by have:=aY jQ;omega
 exact WC.exit<|cN<|cN<|fK<|WQ.end_ Z .nil (by rw[dA]at h0J;exact h0J)
theorem Rv {rb:Nat} {r:cM} (t:TW) (hR:gC t rb r) (hl:r.calls.length≤900000) (vH:∀x∈r.calls,x.op.users.length≤1000000∧x.reply.values.length≤1000000∧x.reply.events.length≤1000000):aL 10 [Y rb] t No (fun v t' => Sl t' gF v r.calls):=by
 obtain⟨N,hN⟩:=t.fresh;have hz:t.w.heap.size≤t.w.heap.size:=aP9 _;obtain⟨hb,cv,bs,kv,ps,hr,-,-,-,-,hk⟩:=hR.out;obtain⟨Ak,ck,rfl,_⟩:=hk.form;refine P8 func10 Z ntmps10 aT4<|aD<|WL.a Z<|aB<|aD<|aI (Ef.al (.nw N 3) aPW) ?_;rintro _ t1 ⟨b3,rfl,s1,aG,nb3,mb3⟩;obtain⟨hk,hr,hz⟩:=Q3 (hk.n s1) (hr.n s1) (aP8 hz s1.size);refine aB<|WC.seq<|aD<|WL.m Z<|aI (Ef.call Z aBD (aLR _ _) aT2) ?_;rintro _ t2 ⟨s2,b1,rfl,h1⟩;obtain⟨aG,hk,hr,hz⟩:=Q4 (aG.n s2) (hk.n s2) (hr.n s2) (aP8 hz s2.size);refine aB<|WC.block ?_;refine Ig (N:=N) (n:=r.calls.length) (Er:=fun i t vs=>∃x c,r.calls[i]?=some x∧gF.R t x c∧vs=[.agg c.toArray]) (fun z=>z=.nw N 1∨z=.nw N 3) (fun i t' => Bk t' rb [Y hb,cv,Y bs,O r.sweep,O r.n,O r.ticks,O r.sweeps,.slice Ak r.calls.length ck] 107 (.run)∧aZ t' .calls 0 61 gF (.slice Ak r.calls.length ck) r.calls∧t.w.heap.size≤t'.w.heap.size∧Bk t' b1 [Y rb] 31 (.loc 1)∧(∃A c,Bk t' b3 [.slice A (r.calls.take i).length c] 35 (.nw N 3)∧aZ t' (.nw N 1) t.w.heap.size 61 gF (.slice A (r.calls.take i).length c) (r.calls.take i))∧True) Z Z aB1 (aLS (rb:=rb) (hb:=hb) (bs:=bs) (cv:=cv) Ak ck r hl vH) hN (aUE) (fun q hq=>.inr fun k hk=>by rcases hq with rfl|rfl<;>exact hN k hk _) ?_ ?_ ⟨hr,hk,hz,h1,⟨_,_,aG,aZ.nil _ _ _ _ _⟩,trivial⟩ (by rintro i t vs ⟨x,c,_,_,rfl⟩;rfl) Z ?_ ?_
 ·rintro i ta tb sq ⟨hr,hk,hz,h1,hI,_⟩;obtain⟨h1,hk,hr,hz⟩:=Q4 (h1.n sq) (hk.n sq) (hr.n sq) (aP8 hz sq.size);have hI:=aR5 hI fun A1 h=>aR5 h fun c1 h=>Exists.intro A1 (Exists.intro c1 (And.intro (h.1.step sq nofun) (h.2.step sq nofun nofun)));exact⟨hr,hk,hz,h1,hI,trivial⟩
 ·rintro i ta ⟨hr,hk,hz,h1,hI,_⟩;exact⟨h1,hr,hk⟩
 ·rintro i l t3 _ hi ⟨x,c,LE,⟨uv,vv,ev,rfl,hu,hv,he⟩,rfl⟩ ⟨hr,hk,hz,h1,hI,_⟩;obtain⟨Au,cu,rfl,_⟩:=hu.form;obtain⟨Av,cw,rfl,_⟩:=hv.form;obtain⟨Ae,ce,rfl,_⟩:=he.form;obtain⟨A1,c1,aG,ho⟩:=hI
  have pC:r.calls.take i++[x]=r.calls.take (i+1):=by rw[aQY hi];rw[aQA hi]at LE;rw[aQB LE]
  refine fZ.rg<|w8 (Ef.al (.loc 4) WE) ?_;rintro _ t4 ⟨b4,rfl,s4,aP,nb4,mb4⟩;obtain⟨h1,aG,he,hk,ho,hr,hu,hv,hz⟩:=Q9 (h1.n s4) (aG.n s4) (he.n s4) (hk.n s4) (ho.n s4) (hr.n s4) (hu.n s4) (hv.n s4) (aP8 hz s4.size);refine WI.e0 (Ef.T [O x.who,O x.nth,O x.op.kind,.string x.op.user,O x.op.id,O x.op.status,O x.op.prio,U x.op.ttl,.slice Au x.op.users.length cu,O x.stripe,U x.by_,O x.began,O x.placed,O x.ended,O x.reply.err,.slice Av x.reply.values.length cw,.slice Ae x.reply.events.length ce,.bool x.reply.lost] Z Z aP MJ (.inl nb4)) ?_;rintro _ t5 ⟨u5,s5,eD⟩;have aP:Bk t5 b4 [O x.who,O x.nth,O x.op.kind,.string x.op.user,O x.op.id,O x.op.status,O x.op.prio,U x.op.ttl,.slice Au x.op.users.length cu,O x.stripe,U x.by_,O x.began,O x.placed,O x.ended,O x.reply.err,.slice Av x.reply.values.length cw,.slice Ae x.reply.events.length ce,.bool x.reply.lost] _ _:=eD;clear eD;obtain⟨h1,aG,he,hk,ho,hr,hu,hv,hz⟩:=Q9 (h1.n s5) (aG.n s5) (he.n s5) (hk.n s5) (ho.n s5) (hr.n s5) (hu.n s5) (hv.n s5) (aP8 hz s5.size);refine WI.nil ?_;refine QY fun t6 s6=>?_;obtain⟨h1,aG,aP,he,hk,ho,hr,hu,hv,hz⟩:=yA (h1.n s6) (aG.n s6) (aP.n s6) (he.n s6) (hk.n s6) (ho.n s6) (hr.n s6) (hu.n s6) (hv.n s6) (aP8 hz s6.size);refine fZ.block<|fZ.rg<|WI.r (aF Z DA (aG.cell Z))<|WI.r (Rd.la Z G8 (aP.at (vs:=[O x.who,O x.nth,O x.op.kind,.string x.op.user,O x.op.id,O x.op.status,O x.op.prio,U x.op.ttl,.slice Au x.op.users.length cu,O x.stripe,U x.by_,O x.began,O x.placed,O x.ended,O x.reply.err,.slice Av x.reply.values.length cw,.slice Ae x.reply.events.length ce,.bool x.reply.lost]) Z))<|w8 (cP (.loc 10) (vs:=[(0,.agg #[O x.who,O x.nth,O x.op.kind,.string x.op.user,O x.op.id,O x.op.status,O x.op.prio,U x.op.ttl,.slice Au x.op.users.length cu,O x.stripe,U x.by_,O x.began,O x.placed,O x.ended,O x.reply.err,.slice Av x.reply.values.length cw,.slice Ae x.reply.events.length ce,.bool x.reply.lost])]) (cs:=[O x.who,O x.nth,O x.op.kind,.string x.op.user,O x.op.id,O x.op.status,O x.op.prio,U x.op.ttl,.slice Au x.op.users.length cu,O x.stripe,U x.by_,O x.began,O x.placed,O x.ended,O x.reply.err,.slice Av x.reply.values.length cw,.slice Ae x.reply.events.length ce,.bool x.reply.lost]) (e:=61) Z (fun w=>by kernel_rfl)) ?_;rintro _ t7 ⟨b10,rfl,s7,dI,nb10,_⟩;obtain⟨h1,aG,he,hk,ho,hr,hu,hv,hz⟩:=Q9 (h1.n s7) (aG.n s7) (he.n s7) (hk.n s7) (ho.n s7) (hr.n s7) (hu.n s7) (hv.n s7) (aP8 hz s7.size);refine w8 (fO (dk:=gF) (y1:=x) Z Z dI ⟨_,_,_,Z,hu,hv,he⟩ vR XQ aT0 ho hz aUA aT0 nofun (.inr (.inl rfl))) ?_;rintro v11 t8 ⟨s8,gR⟩;obtain⟨h1,aG,hk,hr,hz⟩:=Q5 (h1.n s8) (aG.n s8) (hk.n s8) (hr.n s8) (aP8 hz s8.size);rw[pC]at gR;obtain⟨A2,c2,rfl,_⟩:=gR.form;refine WI.e0 (Ef.T [.slice A2 (r.calls.take (i+1)).length c2] Z Z aG VY (.inr (.inr Z))) ?_;rintro _ t9 ⟨u9,s9,AG⟩;have aG:Bk t9 b3 [.slice A2 (r.calls.take (i+1)).length c2] _ _:=AG;clear AG;obtain⟨h1,hk,gR,hr,hz⟩:=Q5 (h1.n s9) (hk.n s9) (gR.n s9) (hr.n s9) (aP8 hz s9.size);exact WI.nil<|cE<|WQ.round ⟨hr,hk,hz,h1,⟨_,_,aG,gR⟩,trivial⟩
 rintro D t10 ⟨hr,hk,hz,h1,hI,_⟩ hD;rw[aQU]at hI;obtain⟨A1,c1,aG,ho⟩:=hI;refine cE<|WQ.n<|aD<|WL.r (aF Z DA (aG.cell Z))<|WL.a Z<|aB<|WC.ret ?_;have f2:=ho.freeze nofun;have q2:=TW.tagv_step _ (g' := .fz) ho.tags;refine WQ.tag _ .fz (.inl ho.base) ?_;have hD:=hD.n q2;refine QZ Z hD hN fun tz sz=>?_;obtain⟨f2,hz⟩:=Q2 (f2.n sz) (aP8 hz sz.size);exact⟨_,(.tmp Z .nil),f2⟩
def vZ (x:dE) (k:Nat):Bool:=decide ((x.users.length:Int)<1)||decide (8<(x.users.length:Int))||(x.users.take k).any fun u=>!pF u
theorem In {x:dE} {k:Nat} (h:k<x.users.length):vZ x (k+1)=(vZ x k||!pF x.users[k]):=by
 unfold vZ;rw[aQY h,List.any_append];simp[Bool.or_assoc]
theorem Wv {x:dE} (h:x.kind=5):vZ x x.users.length=dH x:=by
 unfold vZ dH;rw[aQU,if_neg aTZ,if_neg aTZ,if_neg aTZ,if_pos h];cases (x.users.any fun u=>!pF u)
 ·simp only[aSZ,Bool.false_or];rw[←Bool.decide_or,←decide_not];exact decide_eq_decide.2 aTZ
 simp
def iC (x:dE):Bool:=decide (0≤x.id∧x.id≤255)
def gY (x:dE):Bool:=decide (x.kind=4∨x.kind=6∨x.kind=7)
def zI (x:dE):Bool:=decide (x.user.size≤40)&&decide (x.users.length≤20)&&x.users.all fun u=>decide (u.size≤40)
def DC (x:dE):Bool:=decide (x.user.size≤40)&&decide (x.users.length≤20)
theorem Gk (x:dE):zI x=(DC x&&x.users.all fun u=>decide (u.size≤40)):=rfl
def qY (s:iI) (n:Int):Bool:=decide (s.clients.length≤20)&&decide ((s.picks.length:Int)≤n)&&s.clients.all fun l=>decide (l.length≤50)&&l.all zI
theorem PO (s:ByteArray) (t:TW):aL 38 [.string s] t No (fun r _=>r=.bool (pF s)):=by
 refine bG func38 Z ntmps38<|aD<|WL.a Z<|aB<|aD<|WL.m Z<|aA (GW Z underlying9)<|aA (aN Z Z lN)<|WL.m Z ?_;refine eP 6 Z (fun vF=>?_) (fun vF=>?_)
 ·exact WL.m Z<|aA (GW Z underlying9)<|aA (aN Z Z BO.lt)<|aA (cQ Z Z)<|WL.a Z<|aB<|WC.ret<|WQ.ret Z (.tmp Z .nil) (by have h:=bA vF;simp only[dB,pF];rw[aQJ (show s.size≠0 by omega),aR4];congr 1;exact decide_eq_decide.2 aTZ)
 exact WL.s<|WL.s<|WL.s<|aA (cG Z Z)<|WL.a Z<|aB<|WC.ret<|WQ.ret Z (.tmp Z .nil) (by have h:=aY vF;simp only[dB,pF];rw[aQS (show ¬s.size≠0 by omega)];rfl)
theorem aK7 (x:dE) (u:Value) (t:TW) (hu:Sl t dJ u x.users) (hl:x.users.length≤1000000):aL 17 [.agg (nZ x u).toArray] t No (fun r _=>r=.bool (dH x)):=by
 obtain⟨A,cu,rfl,IG⟩:=hu.form;refine bG func17 Z ntmps17<|aD<|aI (dP (.loc 1) (cs:=[O x.kind,.string x.user,O x.id,O x.status,O x.prio,U x.ttl,.slice A x.users.length cu]) Z) ?_;rintro _ t1 ⟨b1,rfl,s1,aJ,nb1,mb1⟩;have hu:=hu.n s1;refine WL.a Z<|aB ?_;refine nJ (σ:=Unit) (fun _ t' => Sl t' dJ (.slice A x.users.length cu) x.users∧Bk t' b1 [O x.kind,.string x.user,O x.id,O x.status,O x.prio,U x.ttl,.slice A x.users.length cu] 56 (.loc 1)∧True) (fun _=>[(1,Y b1),(2,.bool false),(3,.bool (iC x))]) ?_ ?_
 ·refine WC.rg<|WL.q 2 Z xB<|WL.r (aF Z bE (aJ.cell Z))<|aA (aN Z Z lX)<|WL.m Z ?_;refine eP 9 Z (fun rP=>?_) (fun rP=>?_)
  ·exact WL.q 2 Z xB<|WL.r (aF Z bE (aJ.cell Z))<|aA (aN Z Z BO.lt)<|aA (cQ Z Z)<|WL.a Z<|WL.nil<|g7 () ⟨Z,Z,by rw[show iC x=decide (x.id<256) by have:=bA rP;unfold iC;exact decide_eq_decide.2 aTZ];rfl,trivial⟩ ⟨hu,aJ,trivial⟩
  exact WL.s<|WL.s<|WL.s<|aA (cG Z Z)<|WL.a Z<|WL.nil<|g7 () ⟨Z,Z,by rw[show iC x=false by have:=aY rP;unfold iC;exact aQS aTZ];rfl,trivial⟩ ⟨hu,aJ,trivial⟩
 rintro _ t2 ⟨hu,aJ,_⟩;refine WC.seq<|aD<|WL.q 0 Z o5<|WL.r (aF Z bE (aJ.cell Z))<|aA (aN Z Z dO)<|aB ?_;refine bD Z (fun eY=>?_) (fun eY=>?_)
 ·refine aD<|WL.q 1 Z iS<|WL.r (aF Z fN (aJ.cell Z))<|aI (Ef.call Z NB (PO _ _) aT2) ?_;rintro _ t3 ⟨s3,rfl⟩;have aJ:=aJ.n s3;refine WL.m Z ?_;refine eP 20 Z (fun mP=>?_) (fun mP=>?_)
  ·refine WL.m Z<|aA (cQ Z Z)<|WL.m Z ?_;refine eP 23 Z (fun kO=>?_) (fun kO=>?_)
   ·refine WL.q 3 Z NT<|WL.r (aF Z bE (aJ.cell Z))<|aA (aN Z Z lN)<|aA (cQ Z Z)<|WL.m Z ?_;refine eP 28 Z (fun yY=>?_) (fun yY=>?_)
    ·refine WL.q 3 Z NT<|WL.r (aF Z bE (aJ.cell Z))<|aA (aN Z Z BO.lt)<|aA (cQ Z Z)<|WL.m Z ?_;refine eP 33 Z (fun CU=>?_) (fun CU=>?_)
     ·refine WL.q 4 Z NU<|WL.r (aF Z bE (aJ.cell Z))<|aA (aN Z Z lX)<|aA (cQ Z Z)<|WL.m Z ?_;refine eP 38 Z (fun T7=>?_) (fun T7=>?_)
      ·exact WL.q 4 Z NU<|WL.r (aF Z bE (aJ.cell Z))<|aA (aN Z Z BO.lt)<|aA (cQ Z Z)<|aA (eJ Z)<|WL.a Z<|aB<|WC.ret<|WQ.tr<|WQ.ret Z (.tmp Z .nil) (by have hi:=bA (show decide (0≤x.id∧x.id≤255)=true from kO);have:=bA yY;have:=bA CU;have:=bA T7;simp only[dB,dH];rw[if_pos (bA eY),show pF x.user=true from mP,show gU x.id x.status x.prio=decide (x.prio<10) from decide_eq_decide.2 aTZ];rfl)
      exact WL.s<|WL.s<|WL.s<|aA (cG Z Z)<|aA (eJ Z)<|WL.a Z<|aB<|WC.ret<|WQ.tr<|WQ.ret Z (.tmp Z .nil) (by first|(simp[dB,dH,gU,iC,gY,bA eY,mP,kO,bA yY,bA CU,aY T7];done)|(simp[dB,dH,gU,iC,gY,bA eY,mP,kO,bA yY,bA CU,aY T7];omega)|(simp_all[dB,dH,gU,iC,gY];done)|(simp_all[dB,dH,gU,iC,gY];omega))
     refine WL.s<|WL.s<|WL.s<|aA (cG Z Z)<|WL.m Z<|WL.s<|WL.s<|WL.s<|aA (cG Z Z)<|aA (eJ Z) ?_;exact WL.a Z<|aB<|WC.ret<|WQ.tr<|WQ.ret Z (.tmp Z .nil) (by first|(simp[dB,dH,gU,iC,gY,bA eY,mP,kO,bA yY,aY CU];done)|(simp[dB,dH,gU,iC,gY,bA eY,mP,kO,bA yY,aY CU];omega)|(simp_all[dB,dH,gU,iC,gY];done)|(simp_all[dB,dH,gU,iC,gY];omega))
    refine WL.s<|WL.s<|WL.s<|aA (cG Z Z)<|WL.m Z<|WL.s<|WL.s<|WL.s<|aA (cG Z Z)<|WL.m Z ?_;exact WL.s<|WL.s<|WL.s<|aA (cG Z Z)<|aA (eJ Z)<|WL.a Z<|aB<|WC.ret<|WQ.tr<|WQ.ret Z (.tmp Z .nil) (by first|(simp[dB,dH,gU,iC,gY,bA eY,mP,kO,aY yY];done)|(simp[dB,dH,gU,iC,gY,bA eY,mP,kO,aY yY];omega)|(simp_all[dB,dH,gU,iC,gY];done)|(simp_all[dB,dH,gU,iC,gY];omega))
   refine WL.s<|WL.s<|WL.s<|aA (cG Z Z)<|WL.m Z<|WL.s<|WL.s<|WL.s<|aA (cG Z Z)<|WL.m Z ?_;refine WL.s<|WL.s<|WL.s<|aA (cG Z Z)<|WL.m Z<|WL.s<|WL.s<|WL.s<|aA (cG Z Z)<|aA (eJ Z) ?_;exact WL.a Z<|aB<|WC.ret<|WQ.tr<|WQ.ret Z (.tmp Z .nil) (by first|(simp[dB,dH,gU,iC,gY,bA eY,mP,kO];done)|(simp[dB,dH,gU,iC,gY,bA eY,mP,kO];omega)|(simp_all[dB,dH,gU,iC,gY];done)|(simp_all[dB,dH,gU,iC,gY];omega))
  refine WL.s<|aA (cG Z Z)<|WL.m Z<|WL.s<|WL.s<|WL.s<|aA (cG Z Z)<|WL.m Z<|WL.s<|WL.s ?_;refine WL.s<|aA (cG Z Z)<|WL.m Z<|WL.s<|WL.s<|WL.s<|aA (cG Z Z)<|WL.m Z<|WL.s<|WL.s ?_;exact WL.s<|aA (cG Z Z)<|aA (eJ Z)<|WL.a Z<|aB<|WC.ret<|WQ.tr<|WQ.ret Z (.tmp Z .nil) (by first|(simp[dB,dH,gU,iC,gY,bA eY,mP];done)|(simp[dB,dH,gU,iC,gY,bA eY,mP];omega)|(simp_all[dB,dH,gU,iC,gY];done)|(simp_all[dB,dH,gU,iC,gY];omega))
 refine WC.skip<|WQ.n<|WC.seq<|aD<|WL.q 0 Z o5<|WL.r (aF Z bE (aJ.cell Z))<|aA (aN Z Z dO)<|WL.m Z ?_;refine eP 47 Z (fun sU=>?_) (fun sU=>?_)
 ·refine WL.s<|WL.s<|WL.s<|aA (cQ Z Z)<|aB<|jN<|aD<|WL.q 1 Z iS<|WL.r (aF Z fN (aJ.cell Z))<|aI (Ef.call Z NB (PO _ _) aT2) ?_;rintro _ t4 ⟨s4,rfl⟩;refine WL.m Z ?_;refine eP 55 Z (fun IS=>?_) (fun IS=>?_)
  focus
   refine WL.m Z<|aA (cQ Z Z) ?_
  rotate_left
  focus
   refine WL.s<|aA (cG Z Z) ?_
  all_goals
   exact aA (eJ Z)<|WL.a Z<|aB<|WC.ret<|WQ.tr<|WQ.ret Z (.tmp Z .nil) (by first|(simp[dB,dH,gU,iC,gY,aY eY,bA sU,IS];done)|(simp[dB,dH,gU,iC,gY,aY eY,bA sU,IS];omega)|(simp_all[dB,dH,gU,iC,gY];done)|(simp_all[dB,dH,gU,iC,gY];omega))
 refine WL.q 0 Z o5<|WL.r (aF Z bE (aJ.cell Z))<|aA (aN Z Z dO)<|aA (cG Z Z)<|aB ?_;refine bD Z (fun sM=>?_) (fun sM=>?_)
 ·refine aD<|WL.q 1 Z iS<|WL.r (aF Z fN (aJ.cell Z))<|aI (Ef.call Z NB (PO _ _) aT2) ?_;rintro _ t5 ⟨s5,rfl⟩;refine WL.m Z ?_;refine eP 55 Z (fun IS=>?_) (fun IS=>?_)
  focus
   refine WL.m Z<|aA (cQ Z Z) ?_
  rotate_left
  focus
   refine WL.s<|aA (cG Z Z) ?_
  all_goals
   exact aA (eJ Z)<|WL.a Z<|aB<|WC.ret<|WQ.tr<|WQ.ret Z (.tmp Z .nil) (by first|(simp[dB,dH,gU,iC,gY,aY eY,aY sU,bA sM,IS];done)|(simp[dB,dH,gU,iC,gY,aY eY,aY sU,bA sM,IS];omega)|(simp_all[dB,dH,gU,iC,gY];done)|(simp_all[dB,dH,gU,iC,gY];omega))
 refine WC.skip<|WQ.n<|WC.seq ?_;refine nJ (σ:=Unit) (fun _ t' => Sl t' dJ (.slice A x.users.length cu) x.users∧Bk t' b1 [O x.kind,.string x.user,O x.id,O x.status,O x.prio,U x.ttl,.slice A x.users.length cu] 56 (.loc 1)∧True) (fun _=>[(1,Y b1),(2,.bool false),(71,.bool (gY x))]) ?_ ?_
 ·refine WC.rg<|WL.q 0 Z o5<|WL.r (aF Z bE (aJ.cell Z))<|aA (aN Z Z dO)<|WL.m Z ?_;refine eP 62 Z (fun Cp=>?_) (fun Cp=>?_)
  ·refine WL.s<|WL.s<|WL.s<|aA (cQ Z Z)<|WL.m Z<|WL.s<|WL.s<|WL.s<|aA (cQ Z Z)<|WL.nil ?_;exact g7 () ⟨Z,Z,by rw[show gY x=true by have:=bA Cp;unfold gY;exact aQJ aTZ];rfl,trivial⟩ ⟨hu,aJ,trivial⟩
  refine WL.q 0 Z o5<|WL.r (aF Z bE (aJ.cell Z))<|aA (aN Z Z dO)<|aA (cG Z Z)<|WL.m Z ?_;refine eP 67 Z (fun Cr=>?_) (fun Cr=>?_)
  ·exact WL.s<|WL.s<|WL.s<|aA (cQ Z Z)<|WL.nil<|g7 () ⟨Z,Z,by rw[show gY x=true by have:=bA Cr;unfold gY;exact aQJ aTZ];rfl,trivial⟩ ⟨hu,aJ,trivial⟩
  exact WL.q 0 Z o5<|WL.r (aF Z bE (aJ.cell Z))<|aA (aN Z Z dO)<|aA (cG Z Z)<|WL.nil<|g7 () ⟨Z,Z,by rw[show gY x=decide (x.kind=7) by have:=aY Cp;have:=aY Cr;unfold gY;exact decide_eq_decide.2 aTZ];rfl,trivial⟩ ⟨hu,aJ,trivial⟩
 rintro _ t6 ⟨hu,aJ,_⟩;refine bD Z (fun CK=>?_) (fun CK=>?_)
 ·refine aD<|WL.q 1 Z iS<|WL.r (aF Z fN (aJ.cell Z))<|aI (Ef.call Z NB (PO _ _) aT2) ?_;rintro _ t7 ⟨s7,rfl⟩;exact aA (eJ Z)<|WL.a Z<|aB<|WC.ret<|WQ.tr<|WQ.ret Z (.tmp Z .nil) (by first|(simp[dB,dH,gU,iC,gY,aY eY,aY sU,aY sM,CK];done)|(simp[dB,dH,gU,iC,gY,aY eY,aY sU,aY sM,CK];omega)|(simp_all[dB,dH,gU,iC,gY];done)|(simp_all[dB,dH,gU,iC,gY];omega))
 refine WC.skip<|WQ.n<|WC.seq<|aD<|WL.q 0 Z o5<|WL.r (aF Z bE (aJ.cell Z))<|aA (aN Z Z dO)<|aB ?_;refine bD Z (fun CL=>?_) (fun CL=>?_)
 ·refine nJ (σ:=Unit) (fun _ t' => Sl t' dJ (.slice A x.users.length cu) x.users∧Bk t' b1 [O x.kind,.string x.user,O x.id,O x.status,O x.prio,U x.ttl,.slice A x.users.length cu] 56 (.loc 1)∧True) (fun _=>[(1,Y b1),(2,.bool false),(4,.bool (vZ x 0))]) ?_ ?_
  ·refine WC.rg<|WL.q 6 Z wC<|WL.r (aF Z nE (aJ.cell Z))<|aA (dC Z underlying54)<|aA (aN Z Z BO.lt)<|WL.m Z ?_;refine eP 83 Z (fun Cu=>?_) (fun Cu=>?_)
   ·exact WL.s<|WL.s<|WL.s<|WL.s<|aA (cQ Z Z)<|WL.a Z<|WL.nil<|g7 () ⟨Z,Z,by rw[show vZ x 0=true by unfold vZ;rw[show decide ((x.users.length:Int)<1)=true from Cu];rfl];rfl,trivial⟩ ⟨hu,aJ,trivial⟩
   exact WL.q 6 Z wC<|WL.r (aF Z nE (aJ.cell Z))<|aA (dC Z underlying54)<|aA (aN Z Z lN)<|aA (cG Z Z)<|WL.a Z<|WL.nil<|g7 () ⟨Z,Z,by rw[show vZ x 0=decide (8<(x.users.length:Int)) by unfold vZ;rw[show decide ((x.users.length:Int)<1)=false from Cu];simp];rfl,trivial⟩ ⟨hu,aJ,trivial⟩
  rintro _ t8 ⟨hu,aJ,_⟩;refine WC.seq<|aD<|WL.a Z<|aB<|WC.block<|WC.loop (σ:=Nat) (fun k t' => Sl t' dJ (.slice A x.users.length cu) x.users∧Bk t' b1 [O x.kind,.string x.user,O x.id,O x.status,O x.prio,U x.ttl,.slice A x.users.length cu] 56 (.loc 1)∧k≤x.users.length∧True) (fun k=>[(1,Y b1),(2,.bool false),(4,.bool (vZ x k)),(5,O (k:Int))]) (fun k=>x.users.length-k) 0 ⟨Z,Z,Z,Z,trivial⟩ ⟨hu,aJ,aQC _,trivial⟩ ?_;rintro k t9 ⟨hu,aJ,hk,_⟩;refine WC.seq<|aD<|WL.m Z<|WL.q 6 Z wC<|WL.r (aF Z nE (aJ.cell Z))<|aA (dC Z underlying54)<|aA (aN Z Z BO.lt)<|aB ?_;refine bD Z (fun Bp=>?_) (fun Bp=>?_)
  ·have aW:k<x.users.length:=by have:=bA Bp;omega
   refine WC.skip<|WQ.n<|WC.seq<|WC.block<|WC.rg<|WL.m Z<|WL.m Z ?_;refine eP 97 Z (fun Cw=>?_) (fun Cw=>?_)
   focus
    refine WL.s<|WL.s<|WL.s<|WL.s<|WL.s<|WL.s<|WL.s<|aA (cQ Z Z) ?_
   rotate_left
   focus
    refine WL.q 6 Z wC<|WL.r (aF Z nE (aJ.cell Z))<|WL.m Z ?_;obtain⟨b,o,cap,c,e1,kA,hR,hA,kN,eA⟩:=hu.at_ (aQA aW);obtain⟨rfl,_,rfl⟩:=Value.slice.inj e1;obtain rfl:c=[.string x.users[k]]:=hR;refine aA (bV Z Z jT aTZ aTZ)<|WL.r (aF Z fN (hA.one Z))<|aI (Ef.call Z NB (PO _ _) aT2) ?_;rintro _ t10 ⟨s10,rfl⟩;obtain⟨aJ,hu⟩:=Q2 (aJ.n s10) (hu.n s10);refine aA (eJ Z)<|aA (cG Z Z) ?_
   all_goals
    refine WL.a Z<|WL.nil<|cE<|WQ.n<|WC.rg<|WL.re 4 (v' := .bool (vZ x (k+1))) Z (by first|exact congrArg Value.bool (by rw[In aW,show vZ x k=true from Cw];rfl)|exact congrArg Value.bool (by rw[In aW,show vZ x k=false from Cw,Bool.false_or]))<|WL.m Z<|aA (aN Z Z (BO.add aTZ aTZ))<|WL.a Z<|WL.nil ?_;exact dX (k+1) ⟨Z,Z,Z,Z,trivial⟩ ⟨hu,aJ,aW,trivial⟩ aTZ
  have dA:k=x.users.length:=by have:=aY Bp;omega
  refine WC.exit<|cN<|cN<|fK<|WQ.n<|aD<|WL.m Z<|WL.a Z<|aB<|WC.ret ?_;exact WQ.tr<|WQ.ret Z (.tmp Z .nil) (by rw[dA,Wv (bA CL)];rfl)
 refine WC.skip<|WQ.n<|aD<|WL.q 0 Z o5<|WL.r (aF Z bE (aJ.cell Z))<|aA (aN Z Z BO.ne)<|WL.m Z ?_;refine eP 110 Z (fun OX=>?_) (fun OX=>?_)
 ·exact WL.q 0 Z o5<|WL.r (aF Z bE (aJ.cell Z))<|aA (aN Z Z BO.ne)<|aA (cQ Z Z)<|WL.a Z<|aB<|WC.ret<|WQ.ret Z (.tmp Z .nil) (by first|(simp[dB,dH,gU,iC,gY,aY eY,aY sU,aY sM,CK,aY CL,aY (iG OX)];done)|(simp[dB,dH,gU,iC,gY,aY eY,aY sU,aY sM,CK,aY CL,aY (iG OX)];omega)|(simp_all[dB,dH,gU,iC,gY];done)|(simp_all[dB,dH,gU,iC,gY];omega))
 exact WL.s<|WL.s<|WL.s<|aA (cG Z Z)<|WL.a Z<|aB<|WC.ret<|WQ.ret Z (.tmp Z .nil) (by first|(simp[dB,dH,gU,iC,gY,aY eY,aY sU,aY sM,CK,aY CL,bA (iG OX)];done)|(simp[dB,dH,gU,iC,gY,aY eY,aY sU,aY sM,CK,aY CL,bA (iG OX)];omega)|(simp_all[dB,dH,gU,iC,gY];done)|(simp_all[dB,dH,gU,iC,gY];omega))
theorem aK8 (x:dE) (u:Value) (t:TW) (hu:Sl t dJ u x.users):aL 21 [.agg (nZ x u).toArray] t No (fun r _=>r=.bool (zI x)):=by
 obtain⟨A,cu,rfl,IG⟩:=hu.form;refine bG func21 Z ntmps21<|aD<|aI (dP (.loc 1) (cs:=[O x.kind,.string x.user,O x.id,O x.status,O x.prio,U x.ttl,.slice A x.users.length cu]) Z) ?_;rintro _ t1 ⟨b1,rfl,s1,aJ,nb1,mb1⟩;have hu:=hu.n s1;refine WL.a Z<|aB<|WC.seq ?_;refine nJ (σ:=Unit) (fun _ t' => Sl t' dJ (.slice A x.users.length cu) x.users∧Bk t' b1 [O x.kind,.string x.user,O x.id,O x.status,O x.prio,U x.ttl,.slice A x.users.length cu] 56 (.loc 1)∧True) (fun _=>[(1,Y b1),(2,.bool false),(13,.bool (!DC x))]) ?_ ?_
 ·refine WC.rg<|WL.q 1 Z iS<|WL.r (aF Z fN (aJ.cell Z))<|aA (GW Z underlying9)<|aA (aN Z Z lN)<|WL.m Z ?_;refine eP 8 Z (fun lI=>?_) (fun lI=>?_)
  ·exact WL.s<|WL.s<|WL.s<|WL.s<|aA (cQ Z Z)<|WL.nil<|g7 () ⟨Z,Z,by rw[show DC x=false by have:=bA lI;unfold DC;rw[aQS aTZ];rfl];rfl,trivial⟩ ⟨hu,aJ,trivial⟩
  exact WL.q 6 Z wC<|WL.r (aF Z nE (aJ.cell Z))<|aA (dC Z underlying54)<|aA (aN Z Z lN)<|aA (cG Z Z)<|WL.nil<|g7 () ⟨Z,Z,by rw[show (!DC x)=decide (20<(x.users.length:Int)) by have:=aY lI;unfold DC;rw[aQJ (show x.user.size≤40 by omega),aR4,←decide_not];exact decide_eq_decide.2 aTZ];rfl,trivial⟩ ⟨hu,aJ,trivial⟩
 rintro _ t2 ⟨hu,aJ,_⟩;refine bD Z (fun lS=>?_) (fun lS=>?_)
 ·exact aD<|WL.a Z<|aB<|WC.ret<|WQ.tr<|WQ.ret Z (.tmp Z .nil) (by rw[Gk,show DC x=false by simpa using lS];rfl)
 have rE:DC x=true:=by simpa using lS
 have aGJ:x.users.length≤20:=by unfold DC at rE;simp at rE;exact rE.2
 refine WC.skip<|WQ.n<|WC.seq<|aD<|WL.a Z<|aB<|WC.block<|WC.loop (σ:=Nat) (fun k t' => Sl t' dJ (.slice A x.users.length cu) x.users∧Bk t' b1 [O x.kind,.string x.user,O x.id,O x.status,O x.prio,U x.ttl,.slice A x.users.length cu] 56 (.loc 1)∧k≤x.users.length∧(∀i (h:i<x.users.length),i<k→x.users[i].size≤40)∧True) (fun k=>[(1,Y b1),(3,O (k:Int))]) (fun k=>x.users.length-k) 0 ⟨Z,Z,trivial⟩ ⟨hu,aJ,aQC _,(fun i _ h=>absurd h (aQW _)),trivial⟩ ?_;rintro k t3 ⟨hu,aJ,hk,hall,_⟩;refine WC.seq<|aD<|WL.m Z<|WL.q 6 Z wC<|WL.r (aF Z nE (aJ.cell Z))<|aA (dC Z underlying54)<|aA (aN Z Z BO.lt)<|aB ?_;refine bD Z (fun iW=>?_) (fun iW=>?_)
 ·have aW:k<x.users.length:=by have:=bA iW;omega
  refine WC.skip<|WQ.n<|WC.seq<|WC.block<|aD<|WL.q 6 Z wC<|WL.r (aF Z nE (aJ.cell Z))<|WL.m Z ?_;obtain⟨b,o,cap,c,e1,kA,hR,hA,kN,eA⟩:=hu.at_ (aQA aW);obtain⟨rfl,_,rfl⟩:=Value.slice.inj e1;obtain rfl:c=[.string x.users[k]]:=hR;refine aA (bV Z Z jT aTZ aTZ)<|WL.r (aF Z fN (hA.one Z))<|aA (GW Z underlying9)<|aA (aN Z Z lN)<|aB ?_;refine bD Z (fun AI=>?_) (fun AI=>?_)
  ·have Ah:=bA AI;exact aD<|WL.a Z<|aB<|WC.ret<|f4<|WQ.tr<|WQ.tr<|f4<|WQ.tr<|WQ.ret Z (.tmp Z .nil) (by rw[Gk,show (x.users.all fun u=>decide (u.size≤40))=false from aTA.2 ⟨_,aQN aW,by simp;omega⟩,aSY];rfl)
  have A0:=aY AI
  have CB:∀i (h:i<x.users.length),i<k+1→x.users[i].size≤40:=fun i h hi=>by
   rcases aSV.1 hi with hi|rfl
   ·exact hall i h hi
   omega
  exact WC.skip<|cE<|WQ.n<|WC.rg<|WL.m Z<|aA (aN Z Z (BO.add aTZ aTZ))<|WL.a Z<|WL.nil<|dX (k+1) ⟨Z,Z,trivial⟩ ⟨hu,aJ,aW,CB,trivial⟩ aTZ
 have dA:k=x.users.length:=by have:=aY iW;omega
 exact WC.exit<|cN<|cN<|fK<|WQ.n<|aD<|WL.a Z<|aB<|WC.ret<|WQ.ret Z (.tmp Z .nil) (by rw[Gk,show DC x=true by simpa using lS,show (x.users.all fun u=>decide (u.size≤40))=true from aS0.2 fun z hz=>by { obtain⟨i,hi,rfl⟩:=aRT hz;exact aQJ (hall i hi aTZ) }];rfl)
def EW (s:iI) (n:Int):Bool:=decide (s.clients.length≤20)&&decide ((s.picks.length:Int)≤n)
theorem Gl (s:iI) (n:Int):qY s n=(EW s n&&s.clients.all fun l=>decide (l.length≤50)&&l.all zI):=rfl
theorem Su {s:iI} {n:Int} {k:Nat} (h:k<s.clients.length) (hb:(decide (s.clients[k].length≤50)&&s.clients[k].all zI)=false):qY s n=false:=by
 rw[Gl,show (s.clients.all fun l=>decide (l.length≤50)&&l.all zI)=false from aTA.2 ⟨_,aQN h,by rw[hb];decide⟩,aSY]
theorem W0 {α:Type} {l:List α} {p:α→Bool} {k:Nat} (hk:k=l.length) (h:∀i (h:i<l.length),i<k→p l[i]=true):l.all p=true:=
 aS0.2 fun z hz=>by
  obtain⟨i,hi,rfl⟩:=aRT hz;exact h i hi aTZ
theorem Hl {α:Type} {l:List α} {p:α→Bool} {k:Nat} (h:∀i (h:i<l.length),i<k→p l[i]=true) (hk:k<l.length) (h2:p l[k]=true):∀i (h:i<l.length),i<k+1→p l[i]=true:=fun i hi h3=>by
 rcases aSV.1 h3 with h4|rfl
 ·exact h i hi h4
 ·exact h2
theorem Hk {α:Type} {l:List α} {p:α→Bool}:∀i (h:i<l.length),i<0→p l[i]=true:=fun i _ h=>absurd h (aQW _)
def FJ (c:eM):Bool:=c.now.isNone&&!decide ((c.at_:Int)<(c.ops.length:Int))
def L5 (r:cM):Bool:=r.clients.all FJ
abbrev ZH (l:List dE):Bool:=decide (l.length≤50)&&l.all zI
theorem aK9 {s:iI} {cv pv:Value} (n:Int) (t:TW) (hc:Sl t (fG nX) cv s.clients) (hp:Sl t xP pv s.picks):aL 8 [.agg (kR s.cfg++[cv,pv]).toArray,O n] t No (fun r _=>r=.bool (qY s n)):=by
 obtain⟨Ac,cc,rfl,_⟩:=hc.form;obtain⟨Ap,cp,rfl,_⟩:=hp.form;refine bG func8 Z ntmps8<|aD<|aI (dP (.loc 2) (cs:=[O s.cfg.stripes,O s.cfg.sessions,O s.cfg.queue,O s.cfg.watches,O s.cfg.retries,U s.cfg.epochs,U s.cfg.start,.slice Ac s.clients.length cc,.slice Ap s.picks.length cp]) Z) ?_;rintro _ t1 ⟨b2,rfl,s1,aV,nb2,mb2⟩;have hc:=hc.n s1;refine WL.a Z<|aB<|WC.seq ?_;refine nJ (σ:=Unit) (fun _ t' => Sl t' (fG nX) (.slice Ac s.clients.length cc) s.clients∧Bk t' b2 [O s.cfg.stripes,O s.cfg.sessions,O s.cfg.queue,O s.cfg.watches,O s.cfg.retries,U s.cfg.epochs,U s.cfg.start,.slice Ac s.clients.length cc,.slice Ap s.picks.length cp] 28 (.loc 2)∧True) (fun _=>[(2,Y b2),(4,.bool false),(17,.bool (!EW s n))]) ?_ ?_
 ·refine WC.rg<|WL.q 7 Z B5<|WL.r (aF Z C9 (aV.cell Z))<|aA (dC Z underlying25)<|aA (aN Z Z lN)<|WL.m Z ?_;refine eP 11 Z (fun yW=>?_) (fun yW=>?_)
  ·exact WL.s<|WL.s<|WL.s<|WL.s<|WL.s<|aA (cQ Z Z)<|WL.nil<|g7 () ⟨Z,Z,by rw[show EW s n=false by have:=bA yW;unfold EW;rw[aQS aTZ];rfl];rfl,trivial⟩ ⟨hc,aV,trivial⟩
  exact WL.q 8 Z NR<|WL.r (aF Z VQ (aV.cell Z))<|aA (dC Z underlying26)<|WL.m Z<|aA (aN Z Z lN)<|aA (cG Z Z)<|WL.nil<|g7 () ⟨Z,Z,by rw[show (!EW s n)=decide (n<(s.picks.length:Int)) by have:=aY yW;unfold EW;rw[aQJ (show s.clients.length≤20 by omega),aR4,←decide_not];exact decide_eq_decide.2 aTZ];rfl,trivial⟩ ⟨hc,aV,trivial⟩
 rintro _ t2 ⟨hc,aV,_⟩;refine bD Z (fun oI=>?_) (fun oI=>?_)
 ·exact aD<|WL.a Z<|aB<|WC.ret<|WQ.tr<|WQ.ret Z (.tmp Z .nil) (by rw[Gl,show EW s n=false by simpa using oI];rfl)
 have SM:EW s n=true:=by simpa using oI
 have aGJ:s.clients.length≤20:=by unfold EW at SM;simp at SM;exact SM.1
 refine WC.skip<|WQ.n<|WC.seq<|aD<|WL.a Z<|aB<|WC.block<|WC.loop (σ:=Nat) (fun k t' => Sl t' (fG nX) (.slice Ac s.clients.length cc) s.clients∧Bk t' b2 [O s.cfg.stripes,O s.cfg.sessions,O s.cfg.queue,O s.cfg.watches,O s.cfg.retries,U s.cfg.epochs,U s.cfg.start,.slice Ac s.clients.length cc,.slice Ap s.picks.length cp] 28 (.loc 2)∧k≤s.clients.length∧(∀i (h:i<s.clients.length),i<k→ZH s.clients[i]=true)∧True) (fun k=>[(2,Y b2),(5,O (k:Int))]) (fun k=>s.clients.length-k) 0 ⟨Z,Z,trivial⟩ ⟨hc,aV,aQC _,Hk,trivial⟩ ?_;rintro k t3 ⟨hc,aV,hk,hall,_⟩;refine WC.seq<|aD<|WL.m Z<|WL.q 7 Z B5<|WL.r (aF Z C9 (aV.cell Z))<|aA (dC Z underlying25)<|aA (aN Z Z BO.lt)<|aB ?_;refine bD Z (fun iF=>?_) (fun iF=>?_)
 ·have aW:k<s.clients.length:=by have:=bA iF;omega
  refine WC.skip<|WQ.n<|WC.seq<|WC.block<|WC.seq<|aD<|WL.q 7 Z B5<|WL.r (aF Z C9 (aV.cell Z))<|WL.m Z ?_;obtain⟨bo,oo,capo,co,eo,Mw,⟨ov,rfl,ho⟩,D7,TY,TT⟩:=hc.at_ (aQA aW);obtain⟨HO,_,_⟩:=Value.slice.inj eo;obtain⟨Ao,cpo,rfl,_⟩:=ho.form;refine aA (bV (congrArg (fun A=>some (Value.slice A s.clients.length cc)) HO) Z PU aTZ aTZ (o' := oo+k*1) aT4)<|WL.r (aF Z GO (D7.one Z))<|aA (dC Z underlying76)<|aA (aN Z Z lN)<|aB ?_;refine bD Z (fun iX=>?_) (fun iX=>?_)
  ·have Ah:=bA iX;refine aD<|WL.a Z<|aB<|WC.ret<|WQ.tr<|f4<|WQ.tr<|WQ.tr<|f4<|WQ.tr ?_;exact WQ.ret Z (.tmp Z .nil) (by rw[Su aW (by rw[aQS aTZ];rfl)];rfl)
  have A0:=aY iX;refine WC.skip<|WQ.n<|aD<|WL.a Z<|aB<|WC.block<|WC.loop (σ:=Nat) (fun m t' => Sl t' (fG nX) (.slice Ac s.clients.length cc) s.clients∧Bk t' b2 [O s.cfg.stripes,O s.cfg.sessions,O s.cfg.queue,O s.cfg.watches,O s.cfg.retries,U s.cfg.epochs,U s.cfg.start,.slice Ac s.clients.length cc,.slice Ap s.picks.length cp] 28 (.loc 2)∧m≤s.clients[k].length∧(∀i (h:i<s.clients[k].length),i<m→zI s.clients[k][i]=true)∧True) (fun m=>[(2,Y b2),(5,O (k:Int)),(6,O (m:Int))]) (fun m=>s.clients[k].length-m) 0 ⟨Z,Z,Z,trivial⟩ ⟨hc,aV,aQC _,Hk,trivial⟩ ?_;rintro m t4 ⟨hc,aV,hm,CB,_⟩;refine WC.seq<|aD<|WL.m Z<|WL.q 7 Z B5<|WL.r (aF Z C9 (aV.cell Z))<|WL.m Z ?_;obtain⟨boa,ooa,capoa,coa,eoa,hcpoa,⟨ova,rfl,hoa⟩,aD8,hlboa,hfzoa⟩:=hc.at_ (aQA aW);obtain⟨hAo1a,_,_⟩:=Value.slice.inj eoa;obtain⟨Aoa,cpoa,rfl,_⟩:=hoa.form;refine aA (bV (congrArg (fun A=>some (Value.slice A s.clients.length cc)) hAo1a) Z PU aTZ aTZ (o' := ooa+k*1) aT4)<|WL.r (aF Z GO (aD8.one Z))<|aA (dC Z underlying76)<|aA (aN Z Z BO.lt)<|aB ?_;refine bD Z (fun Bf=>?_) (fun Bf=>?_)
  ·have OR:m<s.clients[k].length:=by have:=bA Bf;omega
   refine WC.skip<|WQ.n<|WC.seq<|WC.block<|aD<|WL.q 7 Z B5<|WL.r (aF Z C9 (aV.cell Z))<|WL.m Z ?_;obtain⟨bob,oob,capob,cob,eob,hcpob,⟨ovb,rfl,hob⟩,aD9,hlbob,hfzob⟩:=hc.at_ (aQA aW);obtain⟨hAo1b,_,_⟩:=Value.slice.inj eob;obtain⟨Aob,cpob,rfl,_⟩:=hob.form;refine aA (bV (congrArg (fun A=>some (Value.slice A s.clients.length cc)) hAo1b) Z PU aTZ aTZ (o' := oob+k*1) aT4)<|WL.r (aF Z GO (aD9.one Z))<|WL.m Z ?_;obtain⟨bz,oz,capz,cz,ez,hcpz,⟨uv,rfl,hu⟩,hAz,hlbz,hfzz⟩:=hob.at_ (aQA OR);obtain⟨aEA,_,_⟩:=Value.slice.inj ez;refine aA (bV (congrArg (fun A=>some (Value.slice A s.clients[k].length cpob)) aEA) Z PV aTZ aTZ (o' := oz+m*7) aT4)<|WL.r (Rd.la Z pP hAz)<|aI (Ef.call Z aA7 (aK8 _ _ _ hu) aT2) ?_;rintro _ t5 ⟨s5,rfl⟩;obtain⟨aV,hc⟩:=Q2 (aV.n s5) (hc.n s5);refine aA (eJ Z)<|aB ?_;refine bD Z (fun sM=>?_) (fun sM=>?_)
   ·have FV:=iG sM;refine aD<|WL.a Z<|aB<|WC.ret<|f4<|WQ.tr<|WQ.tr<|f4<|f4<|WQ.tr ?_;exact WQ.tr<|f4<|WQ.tr<|WQ.ret Z (.tmp Z .nil) (by rw[Su aW (by rw[show s.clients[k].all zI=false from aTA.2 ⟨_,aQN OR,by rw[FV];decide⟩,aSY])];rfl)
   have aF4:zI s.clients[k][m]=true:=iG sM;exact WC.skip<|cE<|WQ.n<|WC.rg<|WL.m Z<|aA (aN Z Z (BO.add aTZ aTZ))<|WL.a Z<|WL.nil<|dX (m+1) ⟨Z,Z,Z,trivial⟩ ⟨hc,aV,OR,Hl CB OR aF4,trivial⟩ aTZ
  have aF5:m=s.clients[k].length:=by have:=aY Bf;omega
  have hgd:ZH s.clients[k]=true:=by unfold ZH;rw[aQJ aTZ,W0 aF5 CB];rfl
  refine WC.exit<|cN<|cN<|fK<|cE<|WQ.n<|WC.rg<|WL.m Z<|aA (aN Z Z (BO.add aTZ aTZ))<|WL.a Z ?_;exact WL.nil<|dX (k+1) ⟨Z,Z,trivial⟩ ⟨hc,aV,aW,Hl hall aW hgd,trivial⟩ aTZ
 have dA:k=s.clients.length:=by have:=aY iF;omega
 exact WC.exit<|cN<|cN<|fK<|WQ.n<|aD<|WL.a Z<|aB<|WC.ret<|WQ.ret Z (.tmp Z .nil) (by rw[Gl,SM,W0 dA hall];rfl)
theorem aLT {rb:Nat} {r:cM} (t:TW) (hR:gC t rb r) (qL:r.clients.length≤1000):aL 20 [Y rb] t No (fun v t' => v=.bool (L5 r)):=by
 obtain⟨hb,cv,bs,kv,ps,hr,hH,bK,bU,bJ,hk⟩:=hR.out;obtain⟨Ap,cp,ecv,_⟩:=bK.form;rw[bU.1]at ecv;subst ecv;refine bG func20 Z ntmps20<|aD<|WL.a Z<|aB<|WC.seq<|aD<|WL.m Z<|aA (aT Z)<|WL.q 1 Z yI<|WL.r (aF Z BI (hr.cell Z)) ?_;refine aA (dC Z underlying104)<|WL.m Z<|aB<|WC.block<|WC.loop (σ:=Nat) (fun k t' => Bk t' rb [Y hb,.slice Ap r.clients.length cp,Y bs,O r.sweep,O r.n,O r.ticks,O r.sweeps,kv] 107 (.run)∧Sl t' jZ (.slice Ap r.clients.length cp) ps∧pO t' ps r.clients∧k≤r.clients.length∧(∀i (h:i<r.clients.length),i<k→FJ r.clients[i]=true)∧True) (fun k=>[(8,.slice Ap r.clients.length cp),(9,O (r.clients.length:Int)),(10,O (k:Int))]) (fun k=>r.clients.length-k) 0 ⟨Z,Z,Z,trivial⟩ ⟨hr,bK,bU,aQC _,Hk,trivial⟩ ?_;rintro k t1 ⟨hr,bK,bU,hk,tT,_⟩;refine aD<|aA (aN Z Z BO.lt)<|aB<|WC.seq ?_;refine bD Z (fun jQ=>?_) (fun jQ=>?_)
 ·have aW:k<r.clients.length:=by have:=bA jQ;omega
  refine WC.skip<|WQ.n<|WC.seq<|WC.block<|aD ?_;have jY:=aQA aW;obtain⟨cb,uA,⟨ov,mb,nv,hc,ho,hM,hN⟩,_⟩:=bU.at_ jY;obtain⟨bq,oq,capq,cq,eq1,IF,iA,fF,oL,II⟩:=bK.at_ uA;obtain⟨l7,_,_⟩:=Value.slice.inj eq1;obtain rfl:cq=[Y cb]:=iA;obtain⟨Ao,co,rfl,_⟩:=ho.form;refine aA (bV (congrArg (fun A=>some (Value.slice A r.clients.length cp)) l7) Z EX aTZ aTZ (o' := oq+k*1) aT4)<|WL.r (aF Z Fx (fF.one Z))<|WL.a Z<|aB<|eK (fun w=>At w cb 1 [O (r.clients[k].at_:Int)]∧True) (.blk (.then_ (.then_ (.blk (.then_ .body))))) (⟨hc.at Z,trivial⟩) ?_;obtain⟨bK,hr⟩:=Q2 (bK.n dW) (hr.n dW);have bU:=bU.step dW (fun _ _ _ h=>h);obtain⟨hN,hc⟩:=Q2 (hN.n dW) (hc.n dW);refine DL.m 0 Z Z<|aE 1 Z (aT Z)<|aE 2 Z (Fr.q 3 Z yJ)<|cR 3 Z (aF Z C8 (hc.cell Z))<|aE 4 Z (Ic Z hN)<|DL.m 5 Z Z ?_;refine oB 19 Z (fun AW=>?_) (fun AW=>?_)
  ·refine aX 6 Z<|aX 7 Z<|aX 8 Z<|aX 9 Z<|aX 10 Z<|aX 11 Z<|aX 12 Z<|aX 13 Z<|aX 14 Z<|aX 15 Z ?_;refine aE 16 Z (cQ Z Z)<|cK<|WQ.n<|jN<|aD<|WL.a Z<|aB<|WC.ret<|f4<|WQ.tr ?_;exact WQ.tr<|f4<|WQ.tr<|WQ.ret Z (.tmp Z .nil) (by rw[show L5 r=false from aTA.2 ⟨_,aQN aW,by rw[show FJ r.clients[k]=false by { unfold FJ;rw[show r.clients[k].now.isNone=false by simpa using AW];rfl }];decide⟩];rfl)
  refine DL.m 6 Z Z<|aE 7 Z (aT Z)<|aE 8 Z (Fr.q 1 Z KL)<|DL.m 10 Z Z<|aE 11 Z (aT Z)<|aE 12 Z (Fr.q 0 Z YQ)<|cD 9 Z (fun w hw=>aF Z bE (hw.1.one Z))<|cR 13 Z (aF Z GO (hc.cell Z))<|aE 14 Z (dC Z underlying76)<|aE 15 Z (aN Z Z BO.lt) ?_;refine aE 16 Z (cG Z Z)<|cK<|WQ.n ?_;refine bD Z (fun qJ=>?_) (fun qJ=>?_)
  ·exact aD<|WL.a Z<|aB<|WC.ret<|f4<|WQ.tr<|WQ.tr<|f4<|WQ.tr<|WQ.ret Z (.tmp Z .nil) (by rw[show L5 r=false from aTA.2 ⟨_,aQN aW,by rw[show FJ r.clients[k]=false by { unfold FJ;rw[show decide ((r.clients[k].at_:Int)<(r.clients[k].ops.length:Int))=true from qJ];simp }];decide⟩];rfl)
  have IT:FJ r.clients[k]=true:=by unfold FJ;first|(rw[show r.clients[k].now.isNone=true by simpa using AW,show decide ((r.clients[k].at_:Int)<(r.clients[k].ops.length:Int))=false from qJ];rfl)|(rw[show r.clients[k].now.isNone=true by simpa using hp19_2,show decide ((r.clients[k].at_:Int)<(r.clients[k].ops.length:Int))=false from qJ];rfl)
  exact WC.skip<|cE<|WQ.n<|WC.rg<|aA (aN Z Z (BO.add aTZ aTZ))<|WL.m Z<|WL.nil<|dX (k+1) ⟨Z,Z,Z,trivial⟩ ⟨hr,bK,bU,aW,Hl tT aW IT,trivial⟩ aTZ
 have dA:k=r.clients.length:=by have:=aY jQ;omega
 exact WC.exit<|cN<|cN<|fK<|WQ.n<|aD<|WL.a Z<|aB<|WC.ret<|WQ.ret Z (.tmp Z .nil) (by rw[show L5 r=true from W0 dA tT];rfl)
def aU:ByteArray:=⟨#[117]⟩
def aO1:dE:=⟨1,aU,0,1,0,5,[]⟩
def aO2:dE:=⟨4,aU,0,0,0,0,[]⟩
def BR (k:Nat):List z5:=(List.range k).map fun i=>⟨0,((i / 7:Nat):Int),0⟩
def aS:iI:=⟨⟨2,1,2,1,1,100,0⟩,[[aO1],[aO2]],BR 11⟩
theorem Ij:g8 aS=0:=by decide +kernel
theorem Wc (fp:Nat→Nat):((iY aS fp 11).calls.map fun c=>(c.ended,c.reply.values.map fun p=>p.live))=[(6,[]),(10,[1])]∧L5 (iY aS fp 11)=true:=⟨by kernel_rfl,by kernel_rfl⟩
theorem Vt {α:Type} {dk:Kn α} {e:Nat} {t:TW} {b:Nat} {c1 c2:List Value} {y1 y2:α} (hb:Bk t b (c1++c2) e .fz) (h1:dk.R t y1 c1) (h2:dk.R t y2 c2):Sl t dk (.slice (some ⟨b,0,none⟩) 2 2) [y1,y2]:=by
 refine⟨_,2,Z,aP9 _,fun _=>⟨b,0,Z,hb.lt,hb.2,fun i x hi=>?_⟩⟩
 match i,hi with
 | 0,hi=>
  obtain rfl:y1=x:=by simpa using hi
  exact⟨c1,h1,fun j v hj=>by rw[aSK,Nat.add_zero,aQF];exact hb.cell (by rw[aRI (aQG.1 hj).1];exact hj)⟩
 | 1,hi=>
  obtain rfl:y2=x:=by simpa using hi
  exact⟨c2,h2,fun j v hj=>by rw[aSB,aQF];exact hb.cell (by rw[←dk.len h1,aQ7 (aSH _ _),Nat.add_sub_cancel_left];exact hj)⟩
 | i+2,hi=>simp at hi
theorem aL5 {t e:TypeId} (ht:P.underlying t=some (.pointer e)) (w:World) (b:Nat):(Op.equal t (Y b) (.pointer none)).run P w=.ok false w:=by
 have h1:∀k,(Op.equalIn (k+1) t (Y b) (.pointer none)).run P w=.ok false w:=fun k=>by
  simp only[Op.equalIn,Sem.run_bind,iE ht,Result.andThen_ok,Sem.run_pure]
  try rfl
 exact h1 9999
theorem aL4 {t e:TypeId} (ht:P.underlying t=some (.pointer e)) (w:World):(Op.equal t (.pointer none) (.pointer none)).run P w=.ok true w:=by
 have h1:∀k,(Op.equalIn (k+1) t (.pointer none) (.pointer none)).run P w=.ok true w:=fun k=>by
  simp only[Op.equalIn,Sem.run_bind,iE ht,Result.andThen_ok,Sem.run_pure]
  try rfl
 exact h1 9999
theorem Vn {n:Sz} {E:eI} {dd:Option Nat} {ty:TypeId} {pos:String} {af:Array Edge} {gd:Option (Nat × Bool)} {x:Operand} {t t' e:TypeId} {b:Nat} (h:ev E x=some (Y b)) (ht:P.underlying t=some (.pointer e)) :
  Fr n ⟨dd,.binOp .eql t x (.const (.pointer none)) t', ty,pos,af,gd⟩ E (.bool false):=x4 h rfl fun w=>by
 have hg:eqGuard .eql t x (.const (.pointer none)) (Y b) (.pointer none)=pure ():=by cases x<;>rfl
 rw[hg,pure_bind];show (do pure (Value.bool (←Op.equal t (Y b) (.pointer none))):Sem Value).run P w=_;rw[Sem.run_bind,aL5 ht];rfl
theorem Vm {n:Sz} {E:eI} {dd:Option Nat} {ty:TypeId} {pos:String} {af:Array Edge} {gd:Option (Nat × Bool)} {x:Operand} {t t' e:TypeId} (h:ev E x=some (.pointer none)) (ht:P.underlying t=some (.pointer e)) :
  Fr n ⟨dd,.binOp .eql t x (.const (.pointer none)) t', ty,pos,af,gd⟩ E (.bool true):=x4 h rfl fun w=>by
 have hg:eqGuard .eql t x (.const (.pointer none)) (.pointer none) (.pointer none)=pure ():=by cases x<;>rfl
 rw[hg,pure_bind];show (do pure (Value.bool (←Op.equal t (.pointer none) (.pointer none))):Sem Value).run P w=_;rw[Sem.run_bind,aL4 ht];rfl
theorem Ii (k:Nat):(BR k).length=k:=by simp[BR]
theorem Wa (k:Nat):BR (k+1)=BR k++[⟨0,((k / 7:Nat):Int),0⟩]:=by simp[BR,aS7]
theorem Wb (fp:Nat→Nat):∃c0 c1 p,(iY aS fp 11).calls=[c0,c1]∧c1.ended=10∧c1.reply.values=[p]∧p.live=1∧L5 (iY aS fp 11)=true:=by
 obtain⟨h,hd⟩:=Wc fp;generalize (iY aS fp 11).calls=l at h
 match l,h with
 | [c0,c1],h=>
  simp only[aRC,aS4,List.cons.injEq,aSX,and_true]at h;obtain⟨_,h2,h3⟩:=h;generalize e:c1.reply.values=w at h3
  match w,h3 with
  | [p],h3=>exact⟨c0,c1,p,rfl,h2,e,by simpa using h3,hd⟩
  | [],h3=>simp at h3
  | _::_::_,h3=>simp at h3
 | [],h=>simp at h
 | [_],h=>simp at h
 | _::_::_::_,h=>simp at h
theorem Wm (t:TW) (hok:∀fp k,k<11→DO (iY aS fp k)) (hl:∀fp,DO (iY aS fp 11)∧∀x∈(iY aS fp 11).calls,x.op.users.length≤1000000∧x.reply.values.length≤1000000∧x.reply.events.length≤1000000):aL 7 [] t RT (fun r _=>r=.bool true):=by
 have hz:t.w.heap.size≤t.w.heap.size:=aP9 _;refine bG func7 Z ntmps7<|aD<|WL.a Z<|aB<|aD<|aA (Fr.bd (vs:=[(0,O 2),(1,O 1),(2,O 2),(3,O 1),(4,O 1),(5,U 100)]) (cs:=#[O 2,O 1,O 2,O 1,O 1,U 100,U 0]) Z (fun w=>by kernel_rfl))<|aA (Fr.bd (vs:=[(0,O 1),(1,.string ⟨#[117]⟩),(3,O 1),(5,U 5)]) (cs:=#[O 1,.string ⟨#[117]⟩,O 0,O 1,O 0,U 5,.slice none 0 0]) Z (fun w=>by kernel_rfl))<|aI (cP (.fz) (vs:=[(0,.agg #[O 1,.string ⟨#[117]⟩,O 0,O 1,O 0,U 5,.slice none 0 0])]) (cs:=[O 1,.string ⟨#[117]⟩,O 0,O 1,O 0,U 5,.slice none 0 0]) (e:=56) Z (fun w=>by kernel_rfl)) ?_;rintro _ t1 ⟨b8,rfl,s1,bS,nb8,_⟩;have hz:=aP8 hz s1.size;refine aA (Fr.bd (vs:=[(0,O 4),(1,.string ⟨#[117]⟩)]) (cs:=#[O 4,.string ⟨#[117]⟩,O 0,O 0,O 0,U 0,.slice none 0 0]) Z (fun w=>by kernel_rfl))<|aI (cP (.fz) (vs:=[(0,.agg #[O 4,.string ⟨#[117]⟩,O 0,O 0,O 0,U 0,.slice none 0 0])]) (cs:=[O 4,.string ⟨#[117]⟩,O 0,O 0,O 0,U 0,.slice none 0 0]) (e:=56) Z (fun w=>by kernel_rfl)) ?_;rintro _ t2 ⟨b10,rfl,s2,dI,nb10,_⟩;obtain⟨bS,hz⟩:=Q2 (bS.n s2) (aP8 hz s2.size);refine aI (cP (.fz) (vs:=[(0,.slice (some ⟨b8,0,none⟩) 1 1),(1,.slice (some ⟨b10,0,none⟩) 1 1)]) (cs:=[.slice (some ⟨b8,0,none⟩) 1 1,.slice (some ⟨b10,0,none⟩) 1 1]) (e:=76) Z (fun w=>by kernel_rfl)) ?_;rintro _ t3 ⟨b11,rfl,s3,gD,nb11,_⟩;obtain⟨dI,bS,hz⟩:=Q3 (dI.n s3) (bS.n s3) (aP8 hz s3.size);refine aA (Fr.bd (vs:=[(0,.agg #[O 2,O 1,O 2,O 1,O 1,U 100,U 0]),(1,.slice (some ⟨b11,0,none⟩) 2 2)]) (cs:=#[O 2,O 1,O 2,O 1,O 1,U 100,U 0,.slice (some ⟨b11,0,none⟩) 2 2,.slice none 0 0]) Z (fun w=>by kernel_rfl)) ?_;have hc:Sl _ (fG nX) (.slice (some ⟨b11,0,none⟩) 2 2) aS.clients:=Vt gD ⟨_,Z,G4 bS ⟨_,Z,Sl.nil _ _ _ _⟩⟩ ⟨_,Z,G4 dI ⟨_,Z,Sl.nil _ _ _ _⟩⟩;refine aI (Ef.al (.loc 1) aPV) ?_;rintro _ t4 ⟨b1,rfl,s4,aJ,nb1,mb1⟩;obtain⟨hc,hz⟩:=Q2 (hc.n s4) (aP8 hz s4.size);refine WL.e0 (Ef.T [O 2,O 1,O 2,O 1,O 1,U 100,U 0,.slice (some ⟨b11,0,none⟩) 2 2,.slice none 0 0] Z Z aJ Tv (.inl nb1)) ?_;rintro _ t5 ⟨u5,s5,l8⟩;have aJ:Bk t5 b1 [O 2,O 1,O 2,O 1,O 1,U 100,U 0,.slice (some ⟨b11,0,none⟩) 2 2,.slice none 0 0] _ _:=l8;clear l8;obtain⟨hc,hz⟩:=Q2 (hc.n s5) (aP8 hz s5.size);refine aB<|WC.seq<|aD<|WL.a Z<|aB<|WC.block<|WC.loop (σ:=Nat) (fun k t' => t.w.heap.size≤t'.w.heap.size∧Sl t' (fG nX) (.slice (some ⟨b11,0,none⟩) 2 2) aS.clients∧k≤11∧(∃pv,Bk t' b1 [O 2,O 1,O 2,O 1,O 1,U 100,U 0,.slice (some ⟨b11,0,none⟩) 2 2,pv] 28 (.loc 1)∧aZ t' (.loc 23) t.w.heap.size 78 xP pv (BR k))∧True) (fun k=>[(0,.bool false),(1,Y b1),(2,O (k:Int))]) (fun k=>11-k) 0 ⟨Z,Z,Z,trivial⟩ ⟨hz,hc,aQC _,⟨_,aJ,aZ.nil _ _ _ _ _⟩,trivial⟩ ?_;rintro k t6 ⟨hz,hc,hk,hI,_⟩;obtain⟨pv,aJ,hp⟩:=hI;obtain⟨Ap,cp,rfl,_⟩:=hp.form;rw[Ii]at aJ hp;refine WC.seq<|aD<|WL.m Z<|aA (aN Z Z BO.lt)<|aB ?_;refine bD Z (fun fH=>?_) (fun fH=>?_)
 ·have aW:k<11:=by have:=bA fH;omega
  refine WC.skip<|WQ.n<|WC.seq<|WC.block<|WC.rg<|WL.q 8 Z NR<|WL.r (aF Z VQ (aJ.cell Z))<|WL.m Z<|aA (aN Z Z (Va aT0))<|WL.re 20 (v' := O ((k / 7:Nat):Int)) Z (congrArg (Value.int .i64) (by rw[show (k:Int).tdiv 7=((k / 7:Nat):Int) from Z,JM aTZ aTZ])) ?_;refine aA (Fr.bd (vs:=[(1,O ((k / 7:Nat):Int))]) (cs:=#[O 0,O ((k / 7:Nat):Int),U 0]) Z (fun w=>by kernel_rfl))<|aI (cP (.loc 22) (vs:=[(0,.agg #[O 0,O ((k / 7:Nat):Int),U 0])]) (cs:=[O 0,O ((k / 7:Nat):Int),U 0]) (e:=78) Z (fun w=>by kernel_rfl)) ?_;rintro _ t7 ⟨b22,rfl,s7,aEX,nb22,_⟩;obtain⟨aJ,hc,hp,hz⟩:=Q4 (aJ.n s7) (hc.n s7) (hp.n s7) (aP8 hz s7.size);refine aI (fO (dk:=xP) (y1:=⟨0,((k / 7:Nat):Int),0⟩) Z Z aEX Z Sv Yi aT0 hp hz (by rw[Ii];omega) aT0 nofun (.inl (aP9 _))) ?_;rintro v23 t8 ⟨s8,tZ⟩;obtain⟨aJ,hc,hz⟩:=Q3 (aJ.n s8) (hc.n s8) (aP8 hz s8.size);rw[←Wa]at tZ;obtain⟨A23,c23,rfl,_⟩:=tZ.form;refine WL.q 8 Z NR<|WL.e0 (Ef.T [.slice A23 (BR (k+1)).length c23] Z Z aJ Tu (.inl nb1)) ?_;rintro _ t9 ⟨u9,s9,l8⟩;have aJ:Bk t9 b1 [O 2,O 1,O 2,O 1,O 1,U 100,U 0,.slice (some ⟨b11,0,none⟩) 2 2,.slice A23 (BR (k+1)).length c23] _ _:=l8;clear l8;obtain⟨hc,tZ,hz⟩:=Q3 (hc.n s9) (tZ.n s9) (aP8 hz s9.size);exact WL.nil<|cE<|WQ.n<|WC.rg<|WL.m Z<|aA (aN Z Z (BO.add aTZ aTZ))<|WL.a Z<|WL.nil<|dX (k+1) ⟨Z,Z,Z,trivial⟩ ⟨hz,hc,aW,⟨_,aJ,tZ⟩,trivial⟩ aTZ
 have dA:k=11:=by have:=aY fH;omega
 refine WC.exit<|cN<|cN<|fK<|WQ.n<|aD ?_;have q1:=TW.tagv_step t6 (v:=.slice Ap k cp) (g' := .fz) hp.tags;obtain⟨aJ,hc⟩:=Q2 (aJ.n q1) (hc.n q1)
 have hf:Sl (t6.tagv (.slice Ap k cp) .fz) xP (.slice Ap k cp) aS.picks:=by rw[show aS.picks=BR k by rw[dA];rfl];exact hp.freeze nofun
 refine WL.tag (.slice Ap k cp) .fz (.inl hp.base)<|WL.r (Rd.la Z M2 (aJ.at (vs:=[O 2,O 1,O 2,O 1,O 1,U 100,U 0,.slice (some ⟨b11,0,none⟩) 2 2,.slice Ap k cp]) Z))<|aI (Ef.call Z en9 (Rw (s:=aS) _ hc hf aT0 aT0 aT0 aT0 aT0 aT0 (fun _ fp k hk=>hok fp k hk)) (fun _ h=>h)) ?_;rintro v27 t10 ⟨s10,lF⟩;rw[if_pos Ij]at lF;obtain⟨rb,fp,rfl,hR⟩:=lF;replace hR:gC t10 rb (iY aS fp 11):=hR;refine WL.m Z<|aA (Fr.ext Z Z)<|aA (Fr.ext Z Z)<|WL.a Z<|WL.a Z<|aB<|WC.seq<|aD<|WL.m Z<|aA (aN Z Z BO.ne) ?_;refine WL.m Z<|WL.m Z<|aA (Vn Z underlying31)<|aA (cG Z Z)<|aB<|nH<|WC.skip<|WQ.n<|aD<|WL.m Z ?_;refine aI (Ef.call Z Jo (Rv _ hR (hl fp).1.kl (hl fp).2) aT2) ?_;rintro v37 t11 ⟨s11,hk⟩;have hR:=Ie hR s11;obtain⟨c0,c1,p,cW,dN,dD,qM,jF⟩:=Wb fp;rw[cW]at hk;obtain⟨bk,ok,capk,ck,ek,hcpk,⟨uv,vv,ev,rfl,hu,hv,he⟩,kY,hlbk,hfzk⟩:=hk.at_ (i:=1) (x:=c1) Z;subst ek;rw[dD]at hv;obtain⟨bv,oo,capv,cv,eqv,hcpv,rfl,hAv,hlbv,hfzv⟩:=hv.at_ (i:=0) (x:=p) Z;subst eqv;refine WL.a Z<|aB<|aD<|WL.m Z<|aA (dC Z underlying35)<|aA (aN Z Z dO)<|WL.m Z<|WL.m Z<|aA (bV Z Z vR aT0 aT4 (o' := ok+18) Z)<|aA (eC Z KX) ?_;refine WL.r (aF Z bE ((At.part kY 13 (vs:=[O c1.ended]) Z).one Z))<|aA (aN Z Z dO)<|WL.re 46 (v' := .bool true) Z (by rw[dN];rfl)<|aA (cQ Z Z)<|WL.m Z<|WL.m Z<|aA (bV Z Z vR aT0 aT4 (o' := ok+18) Z)<|aA (eC Z D4)<|aA (eC Z tO)<|WL.r (aF Z zH ((At.part kY 15 (vs:=[.slice (some ⟨bv,oo,none⟩) 1 capv]) Z).one Z)) ?_;refine aA (dC Z underlying57)<|aA (aN Z Z dO)<|aA (cQ Z Z)<|WL.m Z<|WL.m Z<|aA (bV Z Z vR aT0 aT4 (o' := ok+18) Z)<|aA (eC Z D4)<|aA (eC Z tO)<|WL.r (aF Z zH ((At.part kY 15 (vs:=[.slice (some ⟨bv,oo,none⟩) 1 capv]) Z).one Z))<|aA (bV Z Z BK aT0 aT4 (o' := oo) Z) ?_;refine aA (eC Z aDK)<|WL.r (aF Z bE ((At.part hAv 2 (vs:=[O p.live]) (by simp[pV,kP,uS])).one Z))<|aA (aN Z Z dO)<|WL.re 66 (v' := .bool true) Z (by rw[qM];rfl)<|aA (cQ Z Z)<|WL.m Z<|WL.m Z<|aI (Ef.call Z aA1 (aLT _ hR (by have:=(hl fp).1.cl;omega)) aT2) ?_;rintro _ t12 ⟨s12,rfl⟩;exact aA (cQ Z Z)<|WL.a Z<|aB<|WC.ret<|WQ.ret Z (.tmp Z .nil) (by rw[jF];rfl)
def e2 (c:Int) (x:bL):Bool:=!dH x.op&&decide (0≤c)&&decide (c<x.began)&&!decide (x.op.kind=8)&&!decide (x.reply.err=5)
def e3 (c:Int) (x:bL):Bool:=decide (x.op.kind=9)&&!dH x.op&&(decide (c<0)||decide (x.ended<c))
def e4 (x:bL):Bool:=(decide (x.reply.err=2)&&!decide (x.op.kind=1))||(decide (x.reply.err=3)&&!decide (x.op.kind=2)&&!decide (x.op.kind=3))||(decide (x.reply.err=4)&&!decide (x.op.kind=6))
structure MV (s:iI):Prop where
 ok:∀fp k,k≤s.picks.length→DO (iY s fp k)
 sz:∀fp,∀x∈(iY s fp s.picks.length).calls,x.op.users.length≤1000000∧x.reply.values.length≤1000000∧x.reply.events.length≤1000000
structure vY (s:iI):Prop where
 e0:0≤s.cfg.epochs
 e1:s.cfg.epochs≤18446744073709551615
 t0:0≤s.cfg.start
 t1:s.cfg.start≤18446744073709551615
 by_:∀p∈s.picks,0≤p.by_∧p.by_≤18446744073709551615
 ttl:∀l∈s.clients,∀x∈l,0≤x.ttl∧x.ttl≤18446744073709551615
theorem VT {s:iI} {n:Int} (h:qY s n=true):s.clients.length≤20∧(s.picks.length:Int)≤n∧∀l∈s.clients,l.length≤50:=by
 unfold qY at h;simp only[aQV,decide_eq_true_eq,aS0]at h;exact⟨h.1.1,h.1.2,fun l hl=>(h.2 l hl).1⟩
theorem aD1 {s:iI} {cv pv:Value} (t:TW) (hc:Sl t (fG nX) cv s.clients) (hp:Sl t xP pv s.picks) (hw:vY s) (CY:qY s 900=true) (hg:g8 s=0→MV s) :
  aL 9 [.agg (kR s.cfg++[cv,pv]).toArray] t RT (fun v t' => ∃o,v=.tuple #[.pointer o,O (g8 s)]∧(g8 s≠0→o=none)∧(g8 s=0→∃rb fp,o=some ⟨rb,0,none⟩∧gC t' rb (iY s fp s.picks.length))):=by
 obtain⟨a,b,d⟩:=VT CY;refine (Rw t hc hp aTZ aTZ (fun l hl=>by have:=d l hl;omega) hw.e0 hw.e1 hw.by_ (fun h fp k hk=>(hg h).ok fp k aTZ)).post fun v t' _ h=>?_;by_cases e:g8 s=0
 ·rw[if_pos e]at h;obtain⟨rb,fp,e1,hR⟩:=h;exact⟨_,by rw[e1,e],fun h=>absurd e h,fun _=>⟨rb,fp,Z,hR⟩⟩
 rw[if_neg e]at h;exact⟨_,h,fun _=>rfl,fun h=>absurd h e⟩
variable {c:cY} {h:bF} {k:Nat}
structure x8 (x:dE):Prop where
 ttl:0≤x.ttl∧x.ttl≤18446744073709551615
 ul:x.users.length≤20
 us:x.user.size≤40
 uu:∀u∈x.users,u.size≤40
def PI (c:cY) (k:Nat):fP→Prop
 | .w p=>vX c p
 | .r p=>RI c p k∧RE p
 | .d p=>DI c p
theorem PI.mono {p:fP} (r:PI c k p) {k' : Nat} (hk:k≤k'):PI c k' p:=by
 cases p with
 | w p=>exact r
 | r p=>exact⟨r.1.mono hk,r.2⟩
 | d p=>exact r
theorem En (ci:CI c) (g:HI c h k) (m:eO) (pos:Int) {p:fP} (r:PI c k p):HI c (fC h m pos p).1 (k+1)∧PI c (k+1) (fC h m pos p).2.2:=by
 cases p with
 | w p=>exact Hn g r pos
 | r p=>
  have:=aJT g r.1 pos;exact⟨this.1,this.2,r.2.step _ _⟩
 | d p=>exact aFF g (by have:=ci.qu;omega) ci.qu.2 ci.st.2 m r pos
theorem Pe (ci:CI c) (g:HI c h k) (hk:k≤10000) {p:fP} (r:PI c k p):z4 h p:=by
 cases p with
 | w p=>exact⟨g.lt r.s,fun _ _=>Um g hk ci.st.2 ci.qu.2 r⟩
 | r p=>exact aKA ci g hk r.1 r.2
 | d p=>exact Xy g hk ci.st.2 ci.qu.2 r
theorem aIE (ci:CI c) (hc:h.cfg=c) (i:Nat) (hi:i<8) {x:dE} (hx:x8 x):PI c k (lA h i x):=by
 have hs:=JI x.user ci.st.1;unfold lA;rw[hc];split
 ·refine⟨by show (((eZ x.user c.stripes).toNat:Nat):Int)<_;omega,by show (i:Int)≤8;omega,by show (0:Int)≤0∧(0:Int)≤_;decide,fun y hy=>?_⟩;simp only[GQ]at hy;split at hy
  ·cases hy
  obtain rfl:=BQ.wr.inj hy;exact hx.ttl
 split
 ·exact⟨aJ9 ci i hi x,aKF _ _ _ _⟩
 exact Xw i hi x _ _ (by have:=ci.st;omega) aTZ
theorem aIF {p:fP} (r:PI c k p):(BE p).values.length≤8∧(BE p).events.length≤200:=by
 cases p with
 | w p=>exact⟨aQC _,aQC _⟩
 | r p=>
  show (zB p).values.length≤8∧(zB p).events.length≤200;unfold zB;split
  ·exact⟨r.1.vl,aQC _⟩
  exact⟨aQC _,aQC _⟩
 | d p=>
  show (xJ p).values.length≤8∧(xJ p).events.length≤200;unfold xJ;split
  ·exact⟨aQC _,r.ev⟩
  exact⟨aQC _,aQC _⟩
structure GT (x:bL):Prop where
 ul:x.op.users.length≤20
 vl:x.reply.values.length≤8
 el:x.reply.events.length≤200
structure GU (c:cY) (k N:Nat) (d:eM):Prop where
 ol:d.ops.length≤50
 op:∀x∈d.ops,x8 x
 now:∀p,d.now=some p→PI c k p
 call:d.now≠none→0≤d.call∧d.call<(N:Int)
theorem GU.mono {N:Nat} {d:eM} (g:GU c k N d) {k' N' : Nat} (h1:k≤k') (h2:N≤N'):GU c k' N' d:=⟨g.ol,g.op,fun p hp=>(g.now p hp).mono h1,fun hn=>⟨(g.call hn).1,by have:=(g.call hn).2;omega⟩⟩
structure mK (c:cY) (r:cM) (k:Nat):Prop where
 nc:r.clients.length≤8
 cl:∀d∈r.clients,GU c k r.calls.length d
 ca:r.calls.length≤k
 cs:∀x∈r.calls,GT x
 st:(r.sw.stripe:Int)<c.stripes
 sw:vX c r.sw.now
 rd:0≤r.sw.rounds∧r.sw.rounds≤(k:Int)
 sv:0≤r.sweeps∧r.sweeps≤(k:Int)
 tk:0≤r.ticks∧r.ticks≤(k:Int)
 sc:r.sweep<(r.calls.length:Int)
theorem mK.mono {r:cM} (g:mK c r k):mK c r (k+1):=⟨g.nc,fun d hd=>(g.cl d hd).mono (aQI _) (aP9 _),aTI g.ca,g.cs,g.st,g.sw,⟨g.rd.1,by have:=g.rd.2;omega⟩,⟨g.sv.1,by have:=g.sv.2;omega⟩,⟨g.tk.1,by have:=g.tk.2;omega⟩,g.sc⟩
theorem mK.began {r:cM} (g:mK c r k) {x:bL} (hx:GT x):mK c (jH r x) (k+1):=by
 have e:(jH r x).calls.length=r.calls.length+1:=by simp[jH]
 refine⟨g.nc,fun d hd=>by rw[e];exact (g.cl d hd).mono (aQI _) (aQI _),by rw[e];have:=g.ca;omega,fun y hy=>?_,g.st,g.sw,⟨g.rd.1,by have:=g.rd.2;show r.sw.rounds≤_;omega⟩,⟨g.sv.1,by have:=g.sv.2;show r.sweeps≤_;omega⟩,⟨g.tk.1,by have:=g.tk.2;show r.ticks≤_;omega⟩,by rw[e];have:=g.sc;show r.sweep<_;omega⟩;rcases aQX.1 hy with hy|hy
 ·exact g.cs y hy
 rw[aQR.1 hy];exact⟨hx.ul,hx.vl,hx.el⟩
theorem mK.set {r:cM} (g:mK c r k) (i:Nat) {d:eM} (hd:GU c k r.calls.length d):mK c (rW r i d) k:=
 ⟨by show (r.clients.set i d).length≤8;rw[aQZ];exact g.nc,fun d' h=>by
  rcases LV h with rfl|h
  ·exact hd
  ·exact g.cl d' h,g.ca,g.cs,g.st,g.sw,g.rd,g.sv,g.tk,g.sc⟩
theorem mK.modify {r:cM} (g:mK c r k) (j:Nat) (f:bL→bL) (hf:∀x,GT x→GT (f x)) (h:bF):mK c { r with h:=h,calls:=r.calls.modify j f } k:=
 ⟨g.nc,fun d hd=>by show GU c k (r.calls.modify j f).length d;rw[aR8];exact g.cl d hd,by show (r.calls.modify j f).length≤k;rw[aR8];exact g.ca,fun y hy=>by
  rcases uD hy with ⟨m,hm⟩;rw[aTO]at hm
  cases e:r.calls[m]? with
  | none=>rw[e]at hm;cases hm
  | some z=>
   rw[e]at hm;have hz:=g.cs z (aQL e)
   have:(if j=m then f z else z)=y:=by simpa using hm
   rw[←this];split
   ·exact hf z hz
   ·exact hz,g.st,g.sw,g.rd,g.sv,g.tk,by show _<((r.calls.modify j f).length:Int);rw[aR8];exact g.sc⟩
theorem RF {x:dE} (hx:x8 x) (a b d e f i j:Int):GT ⟨a,b,x,d,e,f,i,j,gA⟩:=⟨hx.ul,aQC _,aQC _⟩
theorem PG:x8 fA:=⟨by show (0:Int)≤0∧(0:Int)≤_;decide,aQC _,aQC _,fun u h=>(by cases h)⟩
theorem VB (ci:CI c) {r:cM} (hc:r.h.cfg=c) (g:mK c r k) {i:Nat} {d:eM} (hd:r.clients[i]?=some d):mK c (fI r i d).1 (k+1)∧GU c k (fI r i d).1.calls.length (fI r i d).2:=by
 have hm:=g.cl d (aQL hd)
 have hi:i<8:=by
  have:=(aQG.1 hd).1;have:=g.nc;omega
 unfold fI;split
 ·rename_i hb;have aW:=(Fa hb).2
  have hx:x8 (d.ops.getD d.at_ fA):=by
   rw[aQQ,aQA aW];exact hm.op _ (aQN aW)
  refine⟨g.began (RF hx _ _ _ _ _ _ _),hm.ol,hm.op,fun p hp=>?_,fun _=>⟨aRD _,?_⟩⟩
  ·obtain rfl:=aQB hp;exact aIE ci hc i hi hx
  show (r.calls.length:Int)<((r.calls++[_]).length:Int);rw[aQE];simp;omega
 exact⟨g.mono,hm⟩
theorem Jd {x:bL} (hx:GT x) (n:Int) {p:fP} (hp:PI c k p):GT (iR x n p):=by
 have:=aIF hp;unfold iR;split
 ·exact⟨hx.ul,this.1,this.2⟩
 exact⟨hx.ul,hx.vl,hx.el⟩
theorem Xf (ci:CI c) {r:cM} (g:HI c r.h k) (q:mK c r k) (who:Int):HI c (oZ r who).1.h (k+1)∧mK c (oZ r who).1 (k+1):=by
 by_cases ho:who<0∨(r.clients.length:Int)≤who
 ·rw[show oZ r who=(r,false) by unfold oZ;rw[if_pos ho]];exact⟨g.mono (aQI _),q.mono⟩
 obtain⟨i,rfl⟩:=aRS (show 0≤who by omega)
 have hi:i<r.clients.length:=by omega
 have jY:=aQA hi;obtain⟨g1,g2⟩:=VB ci g.cfg q jY;obtain⟨e1,e2,e3,e4,e5,e6⟩:=I7 r i r.clients[i]
 cases hn:(fI r i r.clients[i]).2.now with
 | none=>
  rw[XD jY hn];exact⟨by show HI c (fI r i r.clients[i]).1.h _;rw[e1];exact g.mono (aQI _),g1.set i (g2.mono (aQI _) (aP9 _))⟩
 | some p=>
  cases he:BD r.h p with
  | false=>
   rw[RH jY hn he];exact⟨by show HI c (fI r i r.clients[i]).1.h _;rw[e1];exact g.mono (aQI _),g1.set i (g2.mono (aQI _) (aP9 _))⟩
  | true=>
   rw[M9 jY hn he];have hp:=En ci g (fI r i r.clients[i]).2.mine (fI r i r.clients[i]).1.n (g2.now p hn);unfold oS;rw[e1];refine⟨hp.1,(g1.modify _ _ (fun x hx=>Jd hx _ hp.2) _).set i ⟨g2.ol,g2.op,fun p' h' => ?_,fun h' => ?_⟩⟩
   ·simp only at h';split at h'
    ·cases h'
    obtain rfl:=aQB h';exact hp.2
   show 0≤(fI r i r.clients[i]).2.call∧_<(((fI r i r.clients[i]).1.calls.modify _ _).length:Int);rw[aR8];exact g2.call aVF
theorem Gt {s:Nat} (hs:(s:Int)<c.stripes):vX c (zO s):=⟨hs,by show (8:Int)≤8;decide,by show (0:Int)≤0∧(0:Int)≤_;decide,fun x hx=>by cases hx⟩
theorem VW (ci:CI c) {p:tL} (hs:(p.stripe:Int)<c.stripes):((xY p c.stripes:Nat):Int)<c.stripes:=by
 have:=ci.st;unfold xY;split<;>omega
theorem aNY (ci:CI c) {r:cM} (g:HI c r.h k) (q:mK c r k):HI c (uO r).1.h (k+1)∧mK c (uO r).1 (k+1):=by
 unfold uO;split
 ·exact⟨g.mono (aQI _),q.mono⟩
 have q1:mK c (eU r) (k+1):=by
  unfold eU;split
  ·have b:=q.began (RF PG 8 r.sweeps r.sw.stripe 0 0 0 0);refine⟨b.nc,b.cl,b.ca,b.cs,b.st,b.sw,b.rd,⟨by have:=q.sv.1;show 0≤r.sweeps+1;omega,by have:=q.sv.2;show r.sweeps+1≤_;omega⟩,b.tk,?_⟩;show (r.calls.length:Int)<((jH r _).calls.length:Int);simp[jH];omega
  exact q.mono
 obtain⟨e1,e2,e3,e4⟩:=L7 r
 have g1:HI c (eU r).h k:=by rw[e1];exact g
 obtain⟨h1,h2⟩:=Hn g1 q1.sw (eU r).n;have aE9:=h1.cfg;have rd:=q1.rd;show HI c (wU (eU r)).h _∧mK c (wU (eU r)) _;unfold wU;dsimp only;split
 ·rename_i hq
  have hd:lC (dQ (eU r).h (eU r).sw.now (eU r).n).2=true:=by
   unfold pM at hq;dsimp only at hq;split at hq
   ·assumption
   cases hq
  have ee:pM (eU r).h (eU r).sw (eU r).n=((dQ (eU r).h (eU r).sw.now (eU r).n).1,⟨xY (eU r).sw c.stripes,xZ (eU r).sw c.stripes,zO (xY (eU r).sw c.stripes)⟩,true):=by
   unfold pM;dsimp only;rw[if_pos hd,aE9]
  rw[ee];have m:=q1.modify (eU r).sweep.toNat (fun x=>{ x with ended:=(eU r).n }) (fun x hx=>⟨hx.ul,hx.vl,hx.el⟩) (dQ (eU r).h (eU r).sw.now (eU r).n).1;refine⟨h1,m.nc,m.cl,m.ca,m.cs,VW ci q1.st,Gt (VW ci q1.st),?_,m.sv,m.tk,by show (-1:Int)<_;omega⟩;show 0≤xZ _ _∧xZ _ _≤_;have r0:=q.rd;unfold xZ;rw[e4];split<;>constructor<;>omega
 rename_i hq;have hd:¬lC (dQ (eU r).h (eU r).sw.now (eU r).n).2=true:=fun hd=>hq (by unfold pM;dsimp only;rw[if_pos hd])
 have ee:pM (eU r).h (eU r).sw (eU r).n=((dQ (eU r).h (eU r).sw.now (eU r).n).1,{ (eU r).sw with now:=(dQ (eU r).h (eU r).sw.now (eU r).n).2 },false):=by
  unfold pM;dsimp only;rw[if_neg hd]
 rw[ee];have m:=q1.modify (eU r).sweep.toNat (fun x=>{ x with placed:=(dQ (eU r).h (eU r).sw.now (eU r).n).2.placed }) (fun x hx=>⟨hx.ul,hx.vl,hx.el⟩) (dQ (eU r).h (eU r).sw.now (eU r).n).1;exact⟨h1,m.nc,m.cl,m.ca,m.cs,m.st,h2,m.rd,m.sv,m.tk,m.sc⟩
theorem Qw {r:cM} (g:HI c r.h k) (q:mK c r k) {by_:Int} (hb:0≤by_):HI c (xU r by_).h (k+1)∧mK c (xU r by_) (k+1):=by
 refine⟨g.pass 9 hb,?_⟩
 have e:(xU r by_).calls.length=r.calls.length+1:=by simp[xU]
 refine⟨q.nc,fun d hd=>by rw[e];exact (q.cl d hd).mono (aQI _) (aQI _),by rw[e];have:=q.ca;omega,fun y hy=>?_,q.st,q.sw,⟨q.rd.1,by have:=q.rd.2;show r.sw.rounds≤_;omega⟩,⟨q.sv.1,by have:=q.sv.2;show r.sweeps≤_;omega⟩,⟨by have:=q.tk.1;show 0≤r.ticks+1;omega,by have:=q.tk.2;show r.ticks+1≤_;omega⟩,by rw[e];have:=q.sc;show r.sweep<_;omega⟩;rcases aQX.1 hy with hy|hy
 ·exact q.cs y hy
 rw[aQR.1 hy];exact RF PG _ _ _ _ _ _ _
structure J2 (c:cY) (r:cM) (k:Nat):Prop where
 hh:HI c r.h k
 rr:mK c r k
 n:r.n=(k:Int)
theorem aLQ (ci:CI c) {r:cM} (q:J2 c r k) {p:z5} (hp:0≤p.by_):J2 c (JF r p).1 (k+1):=by
 have qn:=q.n;have hn:=Pt r p
 have key:HI c (lU r p).1.h (k+1)∧mK c (lU r p).1 (k+1):=by
  unfold lU;split
  ·exact Xf ci q.hh q.rr _
  split
  ·exact aNY ci q.hh q.rr
  split
  ·exact Qw q.hh q.rr hp
  exact⟨q.hh.mono (aQI _),q.rr.mono⟩
 refine⟨key.1,⟨key.2.nc,key.2.cl,key.2.ca,key.2.cs,key.2.st,key.2.sw,key.2.rd,key.2.sv,key.2.tk,key.2.sc⟩,?_⟩;show (lU r p).1.n+1=_;rw[hn,qn];omega
theorem Rs {s:iI} (hw:vY s) (ci:CI s.cfg) (gN:s.clients.length≤8) (ho:∀l∈s.clients,l.length≤50∧∀x∈l,x8 x) (fp:Nat→Nat):J2 s.cfg (zG s fp) 0:=by
 have aM:∀i,aR (sH s.cfg fp) i=Uu∨∃b,aR (sH s.cfg fp) i=wX s.cfg b:=fun i=>by
  unfold aR;rw[aQQ]
  cases e:(sH s.cfg fp).strs[i]? with
  | none=>exact .inl rfl
  | some x=>
   right;have:=aQL e;obtain⟨j,_,rfl⟩:=aRL.1 this;exact⟨fp j,Z⟩
 refine⟨⟨Z,?_,aQC _,⟨hw.t0,hw.t1⟩,by show (0:Int)≤0∧(0:Int)≤_;decide,fun i=>?_,fun i=>aQC _,fun i j=>⟨Z,by have:=ci.qu;show (0:Int)≤_;omega⟩⟩,⟨by show (s.clients.map _).length≤8;rw[aQ5];exact gN,fun d hd=>?_,aQC _,fun x h=>(by cases h),by have:=ci.st;show ((0:Nat):Int)<_;omega,Gt (by have:=ci.st;show ((0:Nat):Int)<_;omega),by show (0:Int)≤0∧(0:Int)≤_;decide,by show (0:Int)≤0∧(0:Int)≤_;decide,by show (0:Int)≤0∧(0:Int)≤_;decide,by show (-1:Int)<0;decide⟩,Z⟩
 ·show (((pZ s.cfg fp s.cfg.stripes.toNat).length:Nat):Int)=_;unfold pZ;rw[aQ5,aRY];have:=ci.st;omega
 ·show J3 (aR (sH s.cfg fp) i) 0;rcases aM i with e|⟨b,e⟩<;>rw[e]<;>exact⟨by show (0:Int)≤0∧(0:Int)≤_;decide,by show (0:Int)≤0∧(0:Int)≤_;decide,M7 _,M7 _⟩
 obtain⟨l,hl,rfl⟩:=aRL.1 hd;exact⟨(ho l hl).1,(ho l hl).2,nofun,fun h=>absurd Z h⟩
theorem Ru {s:iI} {fp:Nat→Nat} {k:Nat} (hk:k<s.picks.length):iY s fp (k+1)=(JF (iY s fp k) s.picks[k]).1:=by
 unfold iY;rw[aQY hk,aRF];rfl
theorem Rt {s:iI} (hw:vY s) (ci:CI s.cfg) (gN:s.clients.length≤8) (ho:∀l∈s.clients,l.length≤50∧∀x∈l,x8 x) (fp:Nat→Nat):∀k,k≤s.picks.length→J2 s.cfg (iY s fp k) k
 | 0,_=>Rs hw ci gN ho fp
 | k+1,hk=>by
  rw[Ru hk];exact aLQ ci (Rt hw ci gN ho fp k aTZ) (hw.by_ _ (aQN hk)).1
theorem aLO (ci:CI c) {r:cM} (q:J2 c r k) (hk:k≤9000):DO r:=by
 have hl:=q.hh.len;have hs:=ci.st;refine⟨q.rr.nc,by have:=q.rr.ca;omega,by omega,by rw[q.hh.cfg];omega,by rw[q.hh.cfg];omega,fun d hd=>by have:=(q.rr.cl d hd).ol;omega,fun d hd x hx=>?_,fun i d hd p hp=>?_,fun i d hd hn=>?_,fun d hd p hp=>Pe ci q.hh aTZ ((q.rr.cl d hd).now p hp),q.hh.lt q.rr.sw.s,fun _ _=>Um q.hh aTZ hs.2 ci.qu.2 q.rr.sw,by have:=q.rr.st;omega,⟨q.rr.rd.1,by have:=q.rr.rd.2;omega⟩,⟨q.rr.sv.1,by have:=q.rr.sv.2;omega⟩,⟨q.rr.tk.1,by have:=q.rr.tk.2;omega⟩,by have:=q.n;omega,.inr q.rr.sc,by have:=q.hh.al;omega,q.hh.tn,q.hh.sq⟩
 ·have:=(q.rr.cl d hd).op x hx;exact⟨by have:=this.ul;omega,by have:=this.us;omega,fun u hu=>by have:=this.uu u hu;omega⟩
 ·exact Pe ci q.hh aTZ ((VB ci q.hh.cfg q.rr hd).2.now p hp)
 exact (VB ci q.hh.cfg q.rr hd).2.call hn
theorem aIA {x:dE} (h:zI x=true) (ht:0≤x.ttl∧x.ttl≤18446744073709551615):x8 x:=by
 unfold zI at h;simp only[aQV,decide_eq_true_eq,aS0]at h;exact⟨ht,h.1.2,h.1.1,h.2⟩
theorem DT {s:iI} (h:g8 s=0):qB s.cfg=true∧s.clients.length≤8:=by
 unfold g8 at h;split at h
 ·cases h
 rename_i h1;split at h
 ·cases h
 rename_i h2;refine⟨by cases e:qB s.cfg;exact absurd (.inl e) h1;rfl,by omega⟩
theorem Gm {s:iI} {n:Int} (hw:vY s) (hs:qY s n=true):∀l∈s.clients,l.length≤50∧∀x∈l,x8 x:=by
 unfold qY at hs;simp only[aQV,decide_eq_true_eq,aS0]at hs
 exact fun l hl=>⟨(hs.2 l hl).1,fun x hx=>aIA ((hs.2 l hl).2 x hx) (hw.ttl l hl x hx)⟩
theorem U6 {s:iI} (hw:vY s) (hs:qY s 900=true) (hc:g8 s=0) (fp:Nat→Nat) {k:Nat} (hk:k≤s.picks.length):J2 s.cfg (iY s fp k) k:=
 Rt hw (KB (DT hc).1 hw.e0 hw.e1) (DT hc).2 (Gm hw hs) fp k hk
theorem Md {s:iI} (hw:vY s) (hs:qY s 900=true) (hc:g8 s=0):MV s:=by
 have hl:=(VT hs).2.1;refine⟨fun fp k hk=>aLO (KB (DT hc).1 hw.e0 hw.e1) (U6 hw hs hc fp hk) aTZ,fun fp x hx=>?_⟩;have:=(U6 hw hs hc fp (aP9 _)).rr.cs x hx;exact⟨by have:=this.ul;omega,by have:=this.vl;omega,by have:=this.el;omega⟩
theorem aD0:MV aS:=Md ⟨by decide,by decide,by decide,by decide,by decide +kernel,by decide +kernel⟩ (by decide +kernel) Ij
open Go.ChangeShapes Go.WideShapes Go.ChangeAt Go.RowKit
theorem own:ownKnob P.godebug=none:=by kernel_rfl
theorem aGX:laidOutB P=true:=by kernel_rfl
theorem aKG:P.readableRec 28=true:=by kernel_rfl
theorem aOY:28<P.types.size:=of_decide_eq_true aT1
theorem Xm:P.cellsOf 28=9:=by kernel_rfl
set_option maxRecDepth 100000 in
theorem aH6 {w:World} {base:Nat} {v:Value} (h:Value.okWide P w .any base 28 v):∃cs:List Value,v=.agg cs.toArray∧cs.length=9:=by
 unfold Value.okWide at h;rw[underlying28]at h;obtain⟨cs,rfl,hs,_⟩:=h;rw[Xm]at hs;exact⟨cs.toList,by simp,by simpa using hs⟩
theorem aPB {s:iI} (h5:0≤s.cfg.epochs∧s.cfg.epochs≤18446744073709551615) (h6:0≤s.cfg.start∧s.cfg.start≤18446744073709551615) (hp:∀p∈s.picks,WW p) (hc:∀l∈s.clients,∀x∈l,QM x):vY s:=⟨h5.1,h5.2,h6.1,h6.2,hp,hc⟩
def uI (l:List bT) (id:Int):Bool:=l.any fun s=>decide (s.id=id)
theorem aJI {l:List bT} {k:Nat} {q:Int} (h:k<l.length):uI (l.take (k+1)) q=(uI (l.take k) q||decide (l[k].id=q)):=by
 unfold uI;rw[aQY h,List.any_append];simp
theorem aJH {l:List bT} {k:Nat} {q:Int} (h:k<l.length) (e:l[k].id=q):uI l q=true:=aRX.2 ⟨_,aQN h,aQJ e⟩
theorem JK {α:Type} {p:α→Bool} {l:List α} {k:Nat} (h:k<l.length):(l.take (k+1)).filter p=(l.take k).filter p++if p l[k]=true then [l[k]] else []:=by
 rw[aQY h,aSM];congr 1;split
 ·rename_i e;rw[aSN e,aS3]
 rename_i e;rw[aSD e,aS3]
def oO (q:Int) (s:bT):Bool:=!decide (s.id=q)
theorem ML {α β:Type} {f:α→β} {l:List α} {k:Nat} (h:k<l.length):(l.take (k+1)).map f=(l.take k).map f++[f l[k]]:=by
 rw[aQY h,aR9];rfl
def GL (q til:Int) (s:bT):Bool:=decide (s.id=q)&&decide (s.til<til)
def vN (q til:Int) (s:bT):bT:=if GL q til s=true then { s with til:=til } else s
def tD (l:List bT) (q til:Int):List bT × Int:=if uI l q=false then (l,3) else (l.map (vN q til),0)
def I6 (l:List bT) (q most:Int):Bool:=!uI l q&&decide (most≤(l.length:Int))
def lV (s:bT) (a:List bT × Bool) (x:bT):List bT × Bool:=if (!a.2&&decide (s.id<x.id))=true then (a.1++[s,x],true) else (a.1++[x],a.2)
def uJ (l:List bT) (s:bT) (most:Int):List bT × Int:=
 if I6 l s.id most=true then (l,2)
 else (if ((l.filter (oO s.id)).foldl (lV s) ([],false)).2=true then ((l.filter (oO s.id)).foldl (lV s) ([],false)).1 else ((l.filter (oO s.id)).foldl (lV s) ([],false)).1++[s],0)
theorem Ff (s:bT):∀(l:List bT) (a:List bT × Bool),(l.foldl (lV s) a).1.length≤a.1.length+2*l.length
 | [],a=>by simp
 | x::l,a=>by
  rw[aRG];refine aP8 (Ff s l _) ?_;unfold lV;split<;>simp<;>omega
theorem FP {α β:Type} {f:β→α→β} {b:β} {l:List α} {k:Nat} (h:k<l.length):(l.take (k+1)).foldl f b=f ((l.take k).foldl f b) l[k]:=by
 rw[aQY h,aRF];rfl
theorem Qo {s:bT} {l:List bT} {k:Nat} (h:k<l.length):(l.take (k+1)).foldl (lV s) ([],false)=if (!((l.take k).foldl (lV s) ([],false)).2&&decide (s.id<l[k].id))=true then (((l.take k).foldl (lV s) ([],false)).1++[s,l[k]],true) else (((l.take k).foldl (lV s) ([],false)).1++[l[k]],((l.take k).foldl (lV s) ([],false)).2):=by
 rw[FP h];rfl
def dT (l:List (ByteArray × dS)) (nm:ByteArray):ByteArray × dS:=(l.find? fun x=>decide (x.1=nm)).getD (nm,tA)
theorem aJG {l:List (ByteArray × dS)} {nm:ByteArray} {k:Nat} (h:k<l.length) (l9:(l.take k).find? (fun x=>decide (x.1=nm))=none) (he:decide (l[k].1=nm)=true):l.find? (fun x=>decide (x.1=nm))=some l[k]:=by
 conv=>lhs;rw[←aSA k l,aS1 h,aTD,l9,Option.none_or]
 exact aSP he
def V9:bT:=⟨0,0,0,0⟩
def uG (x y:bT) (k i:Nat):Bool:=decide (y.prio<x.prio)||(decide (x.prio=y.prio)&&(decide (x.id<y.id)||(decide (x.id=y.id)&&decide ((k:Int)<(i:Int)))))
def qT (L:List bT) (i k:Nat):Bool:=!((List.range k).any fun m=>uG (L.getD m V9) (L.getD i V9) m i)
theorem tP {α:Type} {l:List α} {i:Nat} {z:α} (h:i<l.length):l.getD i z=l[i]:=by
 rw[aQQ,aQA h];rfl
theorem Qi {L:List bT} {i k:Nat} (hk:k<L.length) (hi:i<L.length):qT L i (k+1)=(qT L i k&&!uG L[k] L[i] k i):=by
 unfold qT;rw[aS7,List.any_append,Bool.not_or];simp only[List.any_cons,List.any_nil,aSZ,tP hk,tP hi]
def xT (l:List bT) (now:Int):q7:=match (List.range (l.filter (live now)).length).find? (fun i=>qT (l.filter (live now)) i (l.filter (live now)).length) with
 | some i=>⟨((l.filter (live now)).getD i V9).status,((l.filter (live now)).getD i V9).prio,((l.filter (live now)).length:Int)⟩
 | none=>⟨0,0,0⟩
theorem Qm {L:List bT} {i:Nat} (hi:i<L.length) (h:∀m,m<i→qT L m L.length=false) (hf:qT L i L.length=true):(List.range L.length).find? (fun i=>qT L i L.length)=some i:=by
 rw[List.find?_range_eq_some];exact⟨hf,aRZ.2 hi,fun m hm=>by rw[h m hm];rfl⟩
theorem aJN {L:List bT} (h:∀m,m<L.length→qT L m L.length=false):(List.range L.length).find? (fun i=>qT L i L.length)=none:=by
 rw[aSQ]
 exact fun m hm=>by rw[h m (aRZ.1 hm)];decide
def pH (l:List (ByteArray × dS)) (nm:ByteArray) (now:Int):q7:=xT (dT l nm).2.sessions now
def j3 (x0:ByteArray × dS) (a:List (ByteArray × dS) × Bool) (x:ByteArray × dS):List (ByteArray × dS) × Bool:=
 if (!a.2&&!iZ x.1 x0.1)=true then (if (!decide (x.1=x0.1))=true then (a.1++[x0]++[x],true) else (a.1++[x0],true))
 else if (!decide (x.1=x0.1))=true then (a.1++[x],a.2) else a
theorem Px (x0:ByteArray × dS):∀(l:List (ByteArray × dS)) (a:List (ByteArray × dS) × Bool),(l.foldl (j3 x0) a).1.length≤a.1.length+2*l.length
 | [],a=>by simp
 | x::l,a=>by
  rw[aRG];refine aP8 (Px x0 l _) ?_;unfold j3;split<;>split<;>simp<;>omega
theorem U8 {x0:ByteArray × dS} {a:List (ByteArray × dS) × Bool} {l:List (ByteArray × dS)} {k:Nat} (h:k<l.length):(l.take (k+1)).foldl (j3 x0) a=if (!((l.take k).foldl (j3 x0) a).2&&!iZ l[k].1 x0.1)=true then (if (!decide (l[k].1=x0.1))=true then (((l.take k).foldl (j3 x0) a).1++[x0]++[l[k]],true) else (((l.take k).foldl (j3 x0) a).1++[x0],true)) else if (!decide (l[k].1=x0.1))=true then (((l.take k).foldl (j3 x0) a).1++[l[k]],((l.take k).foldl (j3 x0) a).2) else (l.take k).foldl (j3 x0) a:=by
 rw[FP h];rfl
def mS (l:List (ByteArray × dS)) (nm:ByteArray) (ss:List bT) (now:Int):List (ByteArray × dS) × List gB:=
 let r:=l.foldl (j3 (nm,⟨ss,xT ss now⟩)) ([],decide ((ss.length:Int)=0))
 (if r.2=true then r.1 else r.1++[(nm,⟨ss,xT ss now⟩)],if (!decide (xT ss now=(dT l nm).2.told))=true then [⟨nm,(dT l nm).2.told,xT ss now⟩] else [])
theorem aJR (l:List bT) (s:bT) (most:Int):(uJ l s most).1.length≤2*l.length+1:=by
 unfold uJ;have h1:=Ff s (l.filter (oO s.id)) ([],false);have h2:=aRA (oO s.id) l;simp only[aQO]at h1;split
 ·simp only;omega
 simp only;split
 ·omega
 rw[aQE];simp only[aQH,aQO];omega
theorem aI0 (l:List bT) (q til:Int):(tD l q til).1.length≤l.length:=by
 unfold tD;split<;>simp
def vP (l:List (ByteArray × dS)) (x:dE) (now most:Int):List bT × Int:=
 if x.kind=1 then ((uJ ((dT l x.user).2.sessions.filter (live now)) ⟨x.id,x.status,x.prio,d8 now x.ttl⟩ most).1,(uJ ((dT l x.user).2.sessions.filter (live now)) ⟨x.id,x.status,x.prio,d8 now x.ttl⟩ most).2)
 else if x.kind=2 then ((tD ((dT l x.user).2.sessions.filter (live now)) x.id (d8 now x.ttl)).1,(tD ((dT l x.user).2.sessions.filter (live now)) x.id (d8 now x.ttl)).2)
 else if x.kind=3 then (if uI ((dT l x.user).2.sessions.filter (live now)) x.id=false then (((dT l x.user).2.sessions.filter (live now)).filter (oO x.id),3) else (((dT l x.user).2.sessions.filter (live now)).filter (oO x.id),0))
 else ((dT l x.user).2.sessions.filter (live now),0)
def nD (l:List (ByteArray × dS)) (x:dE) (now most:Int):List (ByteArray × dS) × List gB × Int:=
 ((mS l x.user (vP l x now most).1 now).1,(mS l x.user (vP l x now most).1 now).2,(vP l x now most).2)
theorem Py (x0:ByteArray × dS):∀(l:List (ByteArray × dS)) (a:List (ByteArray × dS) × Bool),(l.foldl (j3 x0) a).1.length+(!(l.foldl (j3 x0) a).2).toNat≤a.1.length+(!a.2).toNat+l.length
 | [],a=>aP9 _
 | x::l,a=>by
  rw[aRG];refine aP8 (Py x0 l _) ?_;unfold j3;obtain⟨a1,a2⟩:=a;rw[aQH];cases a2<;>cases iZ x.1 x0.1<;>cases decide (x.1=x0.1)<;>simp<;>omega
theorem aI1 (l:List (ByteArray × dS)) (nm:ByteArray) (ss:List bT) (now:Int):(mS l nm ss now).1.length≤l.length+1:=by
 unfold mS;have h:=Py (nm,⟨ss,xT ss now⟩) l ([],decide ((ss.length:Int)=0))
 have hb:(!decide ((ss.length:Int)=0)).toNat≤1:=by cases decide ((ss.length:Int)=0)<;>decide
 simp only[aQO]at h;simp only
 cases e:(l.foldl (j3 (nm,⟨ss,xT ss now⟩)) ([],decide ((ss.length:Int)=0))).2 with
 | true=>
  rw[if_pos rfl];omega
 | false=>
  rw[e]at h;rw[if_neg aT0,aQE];simp only[aQH,aQO,Bool.not_false,Bool.toNat_true]at h ⊢;omega
theorem Ez (l:List (ByteArray × dS)) (nm:ByteArray) (ss:List bT) (now:Int):(mS l nm ss now).2.length≤1:=by
 unfold mS;simp only;split<;>simp
def wS (now:Int) (a:List (ByteArray × dS) × List gB) (x:ByteArray × dS):List (ByteArray × dS) × List gB:=
 ((mS a.1 x.1 (x.2.sessions.filter (live now)) now).1,a.2++(mS a.1 x.1 (x.2.sessions.filter (live now)) now).2)
theorem Fg (now:Int):∀(l:List (ByteArray × dS)) (a:List (ByteArray × dS) × List gB),(l.foldl (wS now) a).1.length≤a.1.length+l.length∧(l.foldl (wS now) a).2.length≤a.2.length+l.length
 | [],a=>by simp
 | x::l,a=>by
  rw[aRG];obtain⟨h1,h2⟩:=Fg now l (wS now a x);have h3:=aI1 a.1 x.1 (x.2.sessions.filter (live now)) now;have h4:=Ez a.1 x.1 (x.2.sessions.filter (live now)) now;unfold wS at h1 h2 ⊢;simp only[aQE,aQH]at h1 h2 ⊢;exact⟨by omega,by omega⟩
def pI (l:List (ByteArray × dS)) (now:Int):List (ByteArray × dS) × List gB:=l.foldl (wS now) (l,[])
theorem L4 {x y:bT} {k i:Nat}:uG x y k i=true↔(y.prio<x.prio∨x.prio=y.prio∧(x.id<y.id∨x.id=y.id∧k<i)):=by
 simp[uG]
theorem Ir {x y:bT}:J9 x y=true↔(y.prio<x.prio∨x.prio=y.prio∧x.id<y.id):=by
 simp[J9]
theorem Ma (L:List bT) (z:bT):∀n,n≤L.length→((L.take n).foldl qA (z,0)).2=n∧(0<n→∃(j:Nat) (hj:j<L.length),j<n∧((L.take n).foldl qA (z,0)).1=L[j]∧∀(m:Nat) (hm:m<L.length),m<n→m≠j→uG L[j] L[m] j m=true)
 | 0,_=>⟨rfl,fun h=>absurd h (Nat.lt_irrefl _)⟩
 | n+1,hn=>by
  obtain⟨ih1,ih2⟩:=Ma L z n aTZ
  have aW:n<L.length:=by omega
  rw[FP aW];generalize aM:(L.take n).foldl qA (z,0)=st at ih1 ih2;refine⟨by simp[qA,ih1],fun _=>?_⟩;by_cases h0:n=0
  ·subst h0;refine⟨0,aW,aSW _,by simp[qA,ih1],fun m hm h1 h2=>by omega⟩
  ·obtain⟨j,hj,hjn,e,hb⟩:=ih2 aTZ
   cases OB:J9 L[n] st.1 with
   | true=>
    refine⟨n,aW,aSW _,by simp[qA,OB],fun m hm h1 h2=>?_⟩;have aE8:=Ir.1 OB;rw[e]at aE8;by_cases OS:m=j
    ·subst OS;exact L4.2 aTZ
    ·have:=L4.1 (hb m hm aTZ OS);exact L4.2 aTZ
   | false=>
    refine⟨j,hj,by omega,?_,fun m hm h1 h2=>?_⟩
    ·rw[←e];simp[qA,OB,ih1,h0]
    ·by_cases hmn:m=n
     ·subst hmn
      have hnb:¬(L[j].prio<L[m].prio∨L[m].prio=L[j].prio∧L[m].id<L[j].id):=fun h=>by
       rw[e,Ir.2 h]at OB;cases OB
      exact L4.2 aTZ
     ·exact hb m hm aTZ h2
theorem aJM (l:List bT) (now:Int):xT l now=dU l now:=by
 unfold xT dU p9;generalize l.filter (live now)=L;obtain⟨h1,h2⟩:=Ma L ⟨0,0,0,0⟩ L.length (aP9 _);rw[aQU]at h1 h2;by_cases h0:L.length=0
 ·obtain rfl:=aR6 h0;rfl
 obtain⟨j,hj,_,e,hb⟩:=h2 aTZ
 have hf:qT L j L.length=true:=by
  unfold qT;rw[aR2, List.any_eq_false];intro m hm;have hm:=aRZ.1 hm;rw[tP hm,tP hj];intro hbm;have h3:=L4.1 hbm;by_cases OS:m=j
  ·subst OS;omega
  have:=L4.1 (hb m hm hm OS);omega
 have hn:∀i,i<j→qT L i L.length=false:=fun i hi=>by
  unfold qT;rw[Bool.not_eq_false', aRX];refine⟨j,aRZ.2 hj,?_⟩;rw[tP hj,tP (show i<L.length by omega)];exact hb i aTZ aTZ aTZ
 rw[Qm hj hn hf];simp only;rw[tP hj,e,h1]
def jW (l:List bT):Prop:=l.Pairwise fun a b=>a.id<b.id
theorem jW.lt {l:List bT} (h:jW l) {i j:Nat} {x y:bT} (hx:l[i]?=some x) (hy:l[j]?=some y) (xL:i<j):x.id<y.id:=by
 obtain⟨hi,rfl⟩:=aQG.1 hx;obtain⟨hj,rfl⟩:=aQG.1 hy;exact aTX.1 h i j hi hj xL
theorem Y8 {l:List bT} (h:jW l) (q:Int):(∀i x,l[i]?=some x→i<(eV l q).1→x.id<q)∧∀i x,l[i]?=some x→(eV l q).1≤i→q≤x.id:=by
 have hb:=Ja (fun m=>(l[m]?).any fun x=>decide (x.id<q)) (fun i j xL hj=>by
  obtain⟨y,hy,UM⟩:∃y,l[j]?=some y∧y.id<q:=by
   cases e:l[j]? with
   | none=>rw[e]at hj;cases hj
   | some y=>rw[e]at hj;exact⟨y,rfl,bA hj⟩
  have aW:=(aQG.1 hy).1;have hx:=aQA (l:=l) (i:=i) aTZ;show (l[i]?).any _=true;rw[hx];refine aQJ ?_;rcases aTS xL with e|rfl
  ·have:=h.lt hx hy e;omega
  ·rw[hx]at hy;rw[aQB hy]
   exact UM) l.length 0 l.length aTZ (aQC _) (fun i hi=>absurd hi (aQW _)) (fun i hi=>by
  show (l[i]?).any _=false;rw[aRJ hi]
  rfl)
 refine⟨fun i x hx hi=>?_,fun i x hx hi=>?_⟩
 ·have:=hb.1 i hi;simp only[hx,aS9]at this;exact bA this
 have:=hb.2 i hi;simp only[hx,aS9]at this;have:=aY this;omega
theorem NW {l:List bT} {q:Int}:(eV l q).2=true↔∃x,l[(eV l q).1]?=some x∧x.id=q:=by
 have e:(eV l q).2=(l[(eV l q).1]?).any fun x=>decide (x.id=q):=Z;rw[e]
 cases h:l[(eV l q).1]? with
 | none=>simp
 | some x=>simp
theorem L6 {l:List bT} (h:jW l) (q:Int):uI l q=(eV l q).2:=by
 obtain⟨h1,h2⟩:=Y8 h q;rw[Bool.eq_iff_iff,NW];unfold uI;rw[aRX];constructor
 ·rintro⟨x,hx,hq⟩;have hq:=bA hq;obtain⟨i,hi⟩:=aRH hx;have IK:=(aQG.1 hi).1
  have dA:(eV l q).1≤i:=by
   rcases aSU i (eV l q).1 with e|e
   ·have:=h1 i x hi e;omega
   exact e
  have rN:i≤(eV l q).1:=by
   rcases aSU (eV l q).1 i with e|e
   ·have hx2:=aQA (l:=l) (i:=(eV l q).1) aTZ;have g1:=h.lt hx2 hi e;have g2:=h2 _ _ hx2 (aP9 _);omega
   exact e
  have e:(eV l q).1=i:=Nat.le_antisymm dA rN;exact⟨x,by rw[e];exact hi,hq⟩
 rintro⟨x,hx,hq⟩;exact⟨x,aQL hx,aQJ hq⟩
theorem jW.one {l:List bT} (h:jW l) {i j:Nat} {x y:bT} (hx:l[i]?=some x) (hy:l[j]?=some y) (e:x.id=y.id):i=j:=by
 rcases aTT i j with g|g|g
 ·have:=h.lt hx hy g;omega
 ·exact g
 have:=h.lt hy hx g;omega
theorem Pw {l:List bT} (h:jW l) (q til:Int):tD l q til=uN l q til:=by
 unfold tD uN;rw[L6 h]
 cases hf:(eV l q).2 with
 | false=>rw[if_pos rfl,if_neg aT0]
 | true=>
  rw[if_neg aT0,if_pos rfl];obtain⟨x,hx,hq⟩:=NW.1 hf;rw[hx];simp only;congr 1;refine aTM fun m=>?_;rw[aR7];by_cases e:(eV l q).1=m
  ·subst e;rw[aQ8 (aQG.1 hx).1,hx];show some (vN q til x)=_;congr 1;unfold vN GL;rw[aQJ hq];by_cases ht:x.til<til
   ·rw[aQJ ht,if_pos aT0,Int.max_eq_right (Int.le_of_lt ht)]
   rw[aQS ht,if_neg aT0,Int.max_eq_left aTZ]
  rw[aRN e]
  cases hm:l[m]? with
  | none=>rfl
  | some y=>
   show some (vN q til y)=_;congr 1;unfold vN GL;rw[aQS (fun ey=>e (h.one hx hm (hq.trans ey.symm)))];rfl
theorem Fb {l:List bT} (h:jW l) (q:Int):l.filter (oO q)=(rZ l q).1:=by
 unfold rZ
 cases hf:(eV l q).2 with
 | false=>
  rw[if_neg aT0];refine aTN.2 fun x hx=>?_;unfold oO;rw[aR2, decide_eq_false_iff_not];intro e;have:uI l q=true:=aRX.2 ⟨x,hx,aQJ e⟩;rw[L6 h,hf]at this;cases this
 | true=>
  rw[if_pos rfl];obtain⟨x,hx,hq⟩:=NW.1 hf;generalize (eV l q).1=i at hx;have hi:=(aQG.1 hx).1
  have keep:∀(m:List bT),(∀y∈m,y.id≠q)→m.filter (oO q)=m:=fun m hm=>aTN.2 fun y hy=>by
   unfold oO;rw[aQS (hm y hy)];rfl
  have e:l=l.take i++x::l.drop (i+1):=by
   have:=aS1 hi;rw[←(aQG.1 hx).2,←this,aSA]
  rw[aSC]
  conv=>lhs;rw[e]
  rw[aSM,aSD (by unfold oO;rw[aQJ hq];decide),keep,keep]
  ·intro y hy ey;obtain⟨m,hm⟩:=aRH hy;rw[aRM]at hm;have:=h.one hx hm (hq.trans ey.symm);omega
  intro y hy ey;obtain⟨m,hm⟩:=aRH hy;have LH:=(aQG.1 hm).1;rw[aQD]at LH;rw[aQ9,if_pos aTZ]at hm;have:=h.one hx hm (hq.trans ey.symm);omega
theorem Sn (s:bT):∀(A:List bT) (a:List bT),(∀x∈A,x.id≤s.id)→A.foldl (lV s) (a,false)=(a++A,false)
 | [],a,_=>by simp
 | x::A,a,h=>by
  have h1:=h x (aRK ..);rw[aRG]
  have e:lV s (a,false) x=(a++[x],false):=by
   unfold lV;rw[aQS (show ¬s.id<x.id by omega)];rfl
  rw[e,Sn s A _ fun y hy=>h y (aRQ _ hy)];simp
theorem So (s:bT):∀(B:List bT) (a:List bT),B.foldl (lV s) (a,true)=(a++B,true)
 | [],a=>by simp
 | x::B,a=>by
  rw[aRG];have e:lV s (a,true) x=(a++[x],true):=Z;rw[e,So s B];simp
theorem Sm {s:bT} {A B:List bT} (hA:∀x∈A,x.id≤s.id) (hB:∀x∈B,s.id<x.id):(if ((A++B).foldl (lV s) ([],false)).2=true then ((A++B).foldl (lV s) ([],false)).1 else ((A++B).foldl (lV s) ([],false)).1++[s])=A++s::B:=by
 rw[aRF,Sn s A [] hA,aRB]
 cases B with
 | nil=>rfl
 | cons b B=>
  have e:lV s (A,false) b=(A++[s,b],true):=by
   unfold lV;rw[aQJ (hB b (aRK ..))];rfl
  rw[aRG,e,So,if_pos rfl];simp
theorem Ea {l:List bT} {i:Nat} {x:bT} (h:x∈l.take i):∃m,m<i∧l[m]?=some x:=by
 obtain⟨m,hm⟩:=aRH h;rw[aQ9]at hm;split at hm
 ·rename_i e;exact⟨m,e,hm⟩
 cases hm
theorem U0 {l:List bT} {i:Nat} {x:bT} (h:x∈l.drop i):∃m,i≤m∧l[m]?=some x:=by
 obtain⟨m,hm⟩:=aRH h;rw[aRM]at hm;exact⟨i+m,aSH _ _,hm⟩
theorem aJQ {l:List bT} (h:jW l) (s:bT) (most:Int):uJ l s most=qW l s most:=by
 obtain⟨h1,h2⟩:=Y8 h s.id;have hc:=Fb h s.id;unfold uJ qW I6;rw[L6 h,hc];unfold rZ
 cases hf:(eV l s.id).2 with
 | true=>
  rw[if_neg aT4,if_pos rfl,if_pos rfl];obtain⟨x,hx,hq⟩:=NW.1 hf;have hi:=(aQG.1 hx).1;simp only;congr 1;rw[aSC,Sm (s:=s)]
  ·rw[aTG,if_pos hi]
  ·intro y hy;obtain⟨m,hm,hy⟩:=Ea hy;have:=h1 m y hy hm;omega
  intro y hy;obtain⟨m,hm,hy⟩:=U0 hy;have:=h.lt hx hy aTZ;omega
 | false=>
  by_cases hm:most≤(l.length:Int)
  ·simp only[hm,decide_true,Bool.not_false,aSL,Bool.false_eq_true,↓reduceIte]
  simp only[hm,decide_false,aSY,Bool.false_eq_true,↓reduceIte];congr 1;have e:=aSA (eV l s.id).1 l
  have key:=Sm (s:=s) (A:=l.take (eV l s.id).1) (B:=l.drop (eV l s.id).1) (fun y hy=>by
   obtain⟨m,hm,hy⟩:=Ea hy;have:=h1 m y hy hm
   omega) (fun y hy=>by
   obtain⟨m,hm,hy⟩:=U0 hy;have:=h2 m y hy hm
   have bR:y.id≠s.id:=fun ey=>by
    have:uI l s.id=true:=aRX.2 ⟨y,aQL hy,aQJ ey⟩;rw[L6 h,hf]at this;cases this
   omega)
  rw[e]at key;exact key
theorem jW.filter {l:List bT} (h:jW l) (p:bT→Bool):jW (l.filter p):=List.Pairwise.filter p h
theorem aJ7 {l:List (ByteArray × dS)} {x:dE} (now most:Int) (h:jW (dT l x.user).2.sessions):vP l x now most=vM ((dT l x.user).2.sessions.filter (live now)) x now most:=by
 have hf:=h.filter (live now);unfold vP vM;generalize (dT l x.user).2.sessions.filter (live now)=S at hf;rw[aJQ hf,Pw hf,L6 hf,Fb hf];split
 ·rfl
 split
 ·rfl
 split
 ·unfold rZ;cases (eV S x.id).2<;>rfl
 rfl
theorem Sd {A B:List bT} {s:bT} (h:jW (A++B)) (hA:∀x∈A,x.id<s.id) (hB:∀x∈B,s.id<x.id):jW (A++s::B):=by
 obtain⟨h1,h2,h3⟩:=aRR.1 h;refine aRR.2 ⟨h1,aTF.2 ⟨hB,h2⟩,fun a ha b hb=>?_⟩;rcases aRO.1 hb with rfl|hb
 ·exact hA a ha
 exact h3 a ha b hb
theorem jW.clear {l:List bT} (h:jW l) (q:Int):jW (rZ l q).1:=by
 rw[←Fb h];exact h.filter _
theorem jW.map {l:List bT} (h:jW l) {f:bT→bT} (hf:∀x,(f x).id=x.id):jW (l.map f):=by
 refine List.pairwise_map.2 (h.imp fun {a b} uZ=>?_);rw[hf,hf];exact uZ
theorem jW.beat {l:List bT} (h:jW l) (q til:Int):jW (uN l q til).1:=by
 rw[←Pw h];unfold tD;split
 ·exact h
 exact h.map fun x=>by
  unfold vN;split<;>rfl
theorem jW.set {l:List bT} (h:jW l) (s:bT) (most:Int):jW (qW l s most).1:=by
 obtain⟨h1,h2⟩:=Y8 h s.id
 have low:∀x∈l.take (eV l s.id).1,x.id<s.id:=fun y hy=>by
  obtain⟨m,hm,hy⟩:=Ea hy;exact h1 m y hy hm
 unfold qW
 cases hf:(eV l s.id).2 with
 | true=>
  rw[if_pos rfl];obtain⟨x,hx,hq⟩:=NW.1 hf;have hi:=(aQG.1 hx).1;simp only;rw[aTG,if_pos hi];refine Sd ?_ low fun y hy=>?_
  ·rw[←aSC];exact List.Pairwise.sublist (List.eraseIdx_sublist _ _) h
  obtain⟨m,hm,hy⟩:=U0 hy;have:=h.lt hx hy aTZ;omega
 | false=>
  rw[if_neg aT0];split
  ·exact h
  refine Sd ?_ low fun y hy=>?_
  ·rw[aSA];exact h
  obtain⟨m,hm,hy⟩:=U0 hy;have:=h2 m y hy hm
  have bR:y.id≠s.id:=fun ey=>by
   have:uI l s.id=true:=aRX.2 ⟨y,aQL hy,aQJ ey⟩;rw[L6 h,hf]at this;cases this
  omega
theorem jW.op {l:List bT} (h:jW l) (x:dE) (now most:Int):jW (vM l x now most).1:=by
 unfold vM;split
 ·exact h.set _ _
 split
 ·exact h.beat _ _
 split
 ·exact h.clear _
 exact h
section
variable {β:Type} {ks:List ByteArray} {vs:List β} {k u:ByteArray} {v z:β}
theorem C3 (h:KS ks) {i:Nat} (hi:ks[i]?=some k):lL ks vs k z=((vs[i]?).getD z,true):=by
 obtain⟨e1,e2⟩:=SL h hi;unfold lL;rw[if_pos e2,e1]
theorem GG (h:KS ks) (hk:k ∉ ks):lL ks vs k z=(z,false):=by
 unfold lL;rw[if_neg (fun e=>hk ((KY h k).1 e))]
theorem Ho (h:ks.length=vs.length):(gG ks u).length=(hY ks vs u v).length:=by
 have:=B6 ks u;unfold gG hY;split
 ·rw[aQZ];exact h
 simp only[aQE,aQD,aQH,aQT];omega
theorem Pc (h:ks.length=vs.length):(gZ ks u).length=(iN ks vs u).length:=by
 unfold gZ iN;split
 ·rw[aSF,aSF,h]
 exact h
theorem aHY (h:KS ks) (hl:ks.length=vs.length):lL (gG ks u) (hY ks vs u v) k z=if k=u then (v,true) else lL ks vs k z:=by
 have h2:=U3 h u;by_cases hu:u∈ks
 ·obtain⟨i,hi⟩:=uD hu;obtain⟨e1,e2⟩:=SL h hi;have aW:=(aQG.1 hi).1;have ek:gG ks u=ks:=Eh h hu
  have ev:hY ks vs u v=vs.set i v:=by
   unfold hY;rw[if_pos e2,e1]
  rw[ek,ev];by_cases e:k=u
  ·subst e;rw[if_pos rfl,C3 h hi,aQ8 aTZ];rfl
  rw[if_neg e];by_cases hk:k∈ks
  ·obtain⟨j,hj⟩:=uD hk
   have bR:i≠j:=by
    rintro rfl;rw[hi]at hj;exact e (aQB hj).symm
   rw[C3 h hj,C3 h hj,aRN bR]
  rw[GG h hk,GG h hk]
 have hn:¬(cH ks u).2=true:=fun e=>hu ((KY h u).1 e);have hp:=B6 ks u
 have ek:gG ks u=ks.take (cH ks u).1++u::ks.drop (cH ks u).1:=by
  unfold gG;rw[if_neg hn]
 have ev:hY ks vs u v=vs.take (cH ks u).1++v::vs.drop (cH ks u).1:=by
  unfold hY;rw[if_neg hn]
 generalize (cH ks u).1=p at *
 have lo:∀{α:Type} (l:List α) (a:α) (j:Nat),p≤l.length→j<p→(l.take p++a::l.drop p)[j]?=l[j]?:=fun l a j bZ hj=>by
  rw[aRI aUA,aQ9,if_pos hj]
 have mid:∀{α:Type} (l:List α) (a:α),p≤l.length→(l.take p++a::l.drop p)[p]?=some a:=fun l a bZ=>by
  rw[aQ7 aUA,aQD,aQ3 bZ,aSJ];rfl
 have hi:∀{α:Type} (l:List α) (a:α) (j:Nat),p≤l.length→p≤j→(l.take p++a::l.drop p)[j+1]?=l[j]?:=fun l a j bZ hj=>by
  rw[aQ7 aUA,aQD,aQ3 bZ,show j+1-p=(j-p)+1 by omega,List.getElem?_cons_succ,aRM,show p+(j-p)=j by omega]
 by_cases e:k=u
 ·subst e;rw[if_pos rfl,C3 (i:=p) h2 (by rw[ek];exact mid _ _ hp),ev,mid _ _ aTZ];rfl
 rw[if_neg e];by_cases hk:k∈ks
 ·obtain⟨j,hj⟩:=uD hk;rw[C3 h hj];by_cases hjp:j<p
  ·rw[C3 (i:=j) h2 (by rw[ek,lo _ _ _ hp hjp];exact hj),ev,lo _ _ _ aTZ hjp]
  rw[C3 (i:=j+1) h2 (by rw[ek,hi _ _ _ hp aTZ];exact hj),ev,hi _ _ _ aTZ aTZ]
 rw[GG h hk,GG h2 (fun hm=>by
  rw[ek]at hm;rcases aQX.1 hm with hm|hm
  ·exact hk (List.mem_of_mem_take hm)
  rcases aRO.1 hm with hm|hm
  ·exact e hm
  exact hk (aSR hm))]
theorem aHX (h:KS ks) (hl:ks.length=vs.length):lL (gZ ks u) (iN ks vs u) k z=if k=u then (z,false) else lL ks vs k z:=by
 have h2:=Eg h u;by_cases hu:u∈ks
 ·obtain⟨i,hi⟩:=uD hu;obtain⟨e1,e2⟩:=SL h hi
  have ek:gZ ks u=ks.eraseIdx i:=by
   unfold gZ;rw[if_pos e2,e1]
  have ev:iN ks vs u=vs.eraseIdx i:=by
   unfold iN;rw[if_pos e2,e1]
  by_cases e:k=u
  ·subst e
   rw[if_pos rfl,GG h2 (fun hm=>by
    rw[ek]at hm;obtain⟨j,xM,hj⟩:=List.mem_eraseIdx_iff_getElem?.1 hm
    exact xM (h.inj hj hi))]
  rw[if_neg e];by_cases hk:k∈ks
  ·obtain⟨j,hj⟩:=uD hk
   have bR:j≠i:=by
    rintro rfl;rw[hi]at hj;exact e (aQB hj).symm
   rw[C3 h hj];by_cases xM:j<i
   ·rw[C3 (i:=j) h2 (by rw[ek,aTU,if_pos xM];exact hj),ev,aTU,if_pos xM]
   rw[C3 (i:=j-1) h2 (by rw[ek,aTU,if_neg aTZ,show j-1+1=j by omega];exact hj),ev,aTU,if_neg aTZ,show j-1+1=j by omega]
  rw[GG h hk,GG h2 (fun hm=>by
   rw[ek]at hm
   exact hk (aTW hm))]
 have hn:¬(cH ks u).2=true:=fun e=>hu ((KY h u).1 e)
 have ek:gZ ks u=ks:=by
  unfold gZ;rw[if_neg hn]
 have ev:iN ks vs u=vs:=by
  unfold iN;rw[if_neg hn]
 rw[ek,ev];by_cases e:k=u
 ·subst e;rw[if_pos rfl,GG h hu]
 rw[if_neg e]
end
theorem aH3 {ks:List ByteArray} {u x:ByteArray} (h:x∈gG ks u):x∈ks∨x=u:=by
 rcases (aH2 u x).1 h with h|h|h
 ·exact .inl h
 ·exact .inr h.1
 exact .inl h.2
theorem aH0 {ks:List ByteArray} {u x:ByteArray} (h:x∈gZ ks u):x∈ks:=by
 unfold gZ at h;split at h
 ·exact aTW h
 exact h
end Go.Proofs.YthilcgjhhhmgoaaGreat.X
