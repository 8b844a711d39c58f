/- One part of the proof: XRange, XMap, PHeed, PRead, PSwp, PNew, PRun, PInv, PInv2, FBase, XZeros, FSlices, XEn, XSet, FFind. No condition beyond those that each theorem names. -/
import Derived.Test.YthilcgjhhhmgoaaGreatS0
import Derived.RangeFuncSeq
import Derived.RangeFuncLeaves
import Derived.TacticsIn
import Derived.OrdersIn
import Derived.MapFrom
set_option linter.unusedVariables false
set_option linter.unusedSimpArgs false
set_option linter.unusedSectionVars false
set_option maxHeartbeats 1000000
namespace Go.Proofs.YthilcgjhhhmgoaaGreat.X
open Tryz
def FW (r:Option Nat):Fence:={ Fence.wide with round:=r }
theorem Xr {r:Option Nat} {m m' : Machine} {e:Ending}:ComesIn (Machine.fenced P (FW r)) P m m' e↔Comes P m m' e:=by
 have h:Machine.fenced P (FW r)=Machine.fenced P Fence.wide:=Z;rw[h];exact comesIn_wide
theorem Wy {r:Option Nat} {n:Nat} {f:FuncId} {args:Array Value} {w:World} {R:Ending→World→Prop} (h:Calls P f args w R):CallsIn (FW r) n P f args w R:=
 ⟨trivial,fun cs _=>let ⟨e,w', fr,r,s,x⟩:=h cs;⟨e,w', fr,r,Xr.2 s,x⟩⟩
theorem aLJ {r:Option Nat} {n:Nat} {row:String} {args:Array Value} {w:World} {R:Value→World→Prop} (h:Rows P row args w R):RowsIn (FW r) n P row args w R:=fun c cs _=>by
 obtain⟨v,w', hr,hs⟩:=h c cs;refine⟨v,w', hr,?_⟩;have e:Machine.fenced P (FW r)=Machine.fenced P Fence.wide:=Z;rw[e];exact stepsIn_wide.2 hs
theorem U4 {r:Option Nat} {o:Oper} {a:Act} {w:World} {K:Act→World→Prop} {Q:Exit→Act→World→Prop} (m8:∀c,o.op≠.defer c) (h:o.wp P a w K Q):o.wpIn (FW r) 0 P a w K Q:=by
 refine⟨fun _ _=>trivial,?_⟩;have e:o.semAt (FW r).round a.eval=execOp a.eval o:=Oper.semAt_eq _ _ _ m8;rw[e];unfold Oper.wp at h
 revert h
 cases (execOp a.eval o).run P w with
 | ok v w' =>
  cases v with
  | value v=>exact id
  | skip=>exact id
  | defer d=>exact id
  | enter f args=>exact fun h=>⟨fun h=>by simp[FW,Fence.wide]at h,Wy h⟩
  | row row args=>exact fun h=>⟨fun h=>by simp[FW,Fence.wide]at h,aLJ h⟩
  | _=>exact False.elim
 | halt hh w' =>
  cases hh with
  | panic v=>exact id
  | _=>exact False.elim
def WI (c:i7) (r:Option Nat) (ops:Array Oper) (Q:Exit→Act→World→Prop) (l:List Oper) (E:eI) (t:TW):Prop:=
 bQ c.T c.t0 t→∀a,kD c.n E a→wpListIn (FW r) 0 P ops Q l a t.w
def fZ (c:i7) (r:Option Nat) (x:Code) (Q:Exit→Act→World→Prop) (E:eI) (t:TW):Prop:=bQ c.T c.t0 t→∀a,kD c.n E a→x.wpIn (FW r) 0 P Q a t.w
def YX (l:Nat) (vs:List Value) (t:TW) (Φ:Value→TW→Prop):Prop:=YieldAt (FW none) 0 P l vs.toArray t.w fun e w' => ∃v own', e=.returned v∧Φ v ⟨w', own'⟩
section
variable {c:i7} {q:Option Nat} {ops:Array Oper} {Q Q' : Exit→Act→World→Prop} {rest:List Oper} {E:eI} {t:TW}
variable {d:Nat} {op:Op} {ty:TypeId} {pos:String} {af:Array Edge} {g:Option (Nat × Bool)} {v:Value} {x z:Code} {id:Nat}
theorem WI.r (h:Rd c.n ⟨some d,op,ty,pos,af,g⟩ E t.w v) (k:WI c q ops Q rest ((d,v)::E) t) (hg:gd ops E g=some true:=by rfl) (hd:aQ2 d c.n.n=true:=by rfl) (m8:∀c,op≠.defer c:=by nofun) :
  WI c q ops Q (⟨some d,op,ty,pos,af,g⟩::rest) E t:=fun hs a ha=>by
 refine wpListIn_step fun K hK=>?_;rw[if_pos (ha.wanted (o:=⟨some d,op,ty,pos,af,g⟩) hg)];refine U4 m8 ?_;unfold Oper.wp;rw[h a ha];exact hK _ _ (k hs _ (ha.put (aRU hd) v))
theorem lD (h:Fr c.n ⟨some d,op,ty,pos,af,g⟩ E v) (k:WI c q ops Q rest ((d,v)::E) t) (hg:gd ops E g=some true:=by rfl) (hd:aQ2 d c.n.n=true:=by rfl) (m8:∀c,op≠.defer c:=by nofun) :
  WI c q ops Q (⟨some d,op,ty,pos,af,g⟩::rest) E t:=WI.r (h.rd t.w) k hg hd m8
theorem WI.s (k:WI c q ops Q rest ((d,undef)::E) t) (hg:gd ops E g=some false:=by rfl) (hd:aQ2 d c.n.n=true:=by rfl) :
  WI c q ops Q (⟨some d,op,ty,pos,af,g⟩::rest) E t:=fun hs a ha=>by
 refine wpListIn_step fun K hK=>?_;rw[if_neg (by rw[ha.wanted (o:=⟨some d,op,ty,pos,af,g⟩) hg];exact aRE)];exact⟨fun _ _=>trivial,hK _ _ (k hs _ (ha.put (aRU hd) _))⟩
theorem w8 {Φ:Value→TW→Prop} (h:Ef c ⟨some d,op,ty,pos,af,g⟩ E t Φ) (k:∀v t', Φ v t' → WI c q ops Q rest ((d,v)::E) t')
  (hg:gd ops E g=some true:=by rfl) (hd:aQ2 d c.n.n=true:=by rfl) (m8:∀c,op≠.defer c:=by nofun):WI c q ops Q (⟨some d,op,ty,pos,af,g⟩::rest) E t:=fun hs a ha=>by
 refine wpListIn_step fun K hK=>?_;rw[if_pos (ha.wanted (o:=⟨some d,op,ty,pos,af,g⟩) hg)];exact U4 m8 (h.out hs a ha K Q fun v t' fM hp=>hK _ _ (k v t' hp fM _ (ha.put (aRU hd) v)))
theorem WI.e0 {Φ:Value→TW→Prop} (h:Ef c ⟨none,op,ty,pos,af,g⟩ E t Φ) (k:∀v t', Φ v t' → WI c q ops Q rest E t')
  (hg:gd ops E g=some true:=by rfl) (m8:∀c,op≠.defer c:=by nofun):WI c q ops Q (⟨none,op,ty,pos,af,g⟩::rest) E t:=fun hs a ha=>by
 refine wpListIn_step fun K hK=>?_;rw[if_pos (ha.wanted (o:=⟨none,op,ty,pos,af,g⟩) hg)];exact U4 m8 (h.out hs a ha K Q fun v t' fM hp=>hK _ _ (k v t' hp fM _ ha))
theorem QX {l s:Nat} {xs:List Operand} {vs:List Value} {ts:Array TypeId} {Φ:Value→TW→Prop} (hc:lk E s=some (.func (.yield l) #[] #[])) (hx:evs E xs=some vs) (h:YX l vs t (fun v t' => bQ c.T t t' ∧ Φ v t'))
  (k:∀v t', bQ c.T t t' ∧ Φ v t' → WI c none ops Q rest ((d,v)::E) t') (hg:gd ops E g=some true:=by rfl) (hd:aQ2 d c.n.n=true:=by rfl) :
  WI c none ops Q (⟨some d,.call { callee:=.value (.tmp s),args:=xs.toArray,argTypes:=ts },ty,pos,af,g⟩::rest) E t:=fun hs a ha=>by
 refine wpListIn_step fun K hK=>?_;rw[if_pos (ha.wanted (o:=⟨some d,_,ty,pos,af,g⟩) hg)];obtain⟨fn,tmps,assign,body,hy,hr⟩:=h;refine⟨fun _ _=>trivial,?_⟩;have rK:=ha.ev (x:=.tmp s) hc
 have e:((⟨some d,.call { callee:=.value (.tmp s),args:=xs.toArray,argTypes:=ts },ty,pos,af,g⟩:Oper).semAt (FW none).round a.eval).run P t.w=.ok (.round l fn tmps assign body) t.w:=by
  rw[show (FW none).round=none from rfl,Oper.semAt_none];simp only[execOp,resolve,rK,Deferred.ofValue,invoke,aRP,ha.evs hx,Sem.run_bind,Sem.run_pure,Result.andThen_ok,aTJ,List.append_toArray,aR3,aRB,hy]
 rw[e];refine⟨fun h=>by simp[FW,Fence.wide]at h,hr.mono fun e w' hh=>?_⟩;obtain⟨v,own', rfl,fM, hp⟩:=hh;exact hK _ _ (k v ⟨w', own'⟩ ⟨fM, hp⟩ (hs.trans fM) _ (ha.put (aRU hd) v))
theorem WI.nil (h:WQ c Q .normal E t):WI c q ops Q [] E t:=fun hs a ha=>wpListIn_nil (h hs a ha)
theorem WQ.nI (h:fZ c q z Q' E t):WQ c (Exit.then (z.wpIn (FW q) 0 P Q') Q) .normal E t:=h
theorem QW (h:fZ c q z Q' E t):WI c q ops (Exit.then (z.wpIn (FW q) 0 P Q') Q) [] E t:=.nil (.nI h)
theorem MZ (h:WC c z Q' E t):WI c none ops (Exit.then (z.wp P Q') Q) [] E t:=.nil (.n h)
theorem aP5 {l:List Oper} (E' : eI) (hE:yB E' E) (h:WI c q ops Q l E' t):WI c q ops Q l E t:=fun hs a ha=>h hs a (ha.weak hE.get)
theorem WI.re {l:List Oper} (s:Nat) {v v' : Value} (hl:lk E s=some v) (e:v=v') (h:WI c q ops Q l ((s,v')::E) t):WI c q ops Q l E t:=fun hs a ha=>by
 subst e;exact h hs a (ha.weak (C0 hl))
theorem Ih {l:List Oper} (s:Nat) {b:Bool} (hl:lk E s=some (.bool b)) (ht:b=true→WI c q ops Q l ((s,.bool true)::E) t) (hf:b=false→WI c q ops Q l ((s,.bool false)::E) t):WI c q ops Q l E t:=by
 cases b
 ·exact fun hs a ha=>hf Z hs a (ha.weak (C0 hl))
 exact fun hs a ha=>ht Z hs a (ha.weak (C0 hl))
theorem fZ.seq (h:fZ c q x (Exit.then (z.wpIn (FW q) 0 P Q) Q) E t):fZ c q (.seq x z) Q E t:=fun hs a ha=>wpIn_seq (h hs a ha)
theorem fZ.rg {l:List Oper} (h:WI c q l.toArray Q l E t):fZ c q (.region id l.toArray false) Q E t:=fun hs a ha=>wpIn_region_lit (h hs a ha)
theorem WX {l:List Oper} (h:WI c q l.toArray (Exit.then (z.wpIn (FW q) 0 P Q) Q) l E t):fZ c q (.seq (.region id l.toArray false) z) Q E t:=.seq (.rg h)
theorem WC.rgI {l:List Oper} (h:WI c none l.toArray Q l E t):WC c (.region id l.toArray false) Q E t:=fun hs a ha=>wpIn_wide.1 (wpIn_region_lit (F:=Fence.wide) (n:=0) (h hs a ha))
theorem QV {l:List Oper} (h:WI c none l.toArray (Exit.then (z.wp P Q) Q) l E t):WC c (.seq (.region id l.toArray false) z) Q E t:=.seq (.rgI h)
theorem Vx {o:Operand} (h:fZ c q x Q E t) (hc:ev E o=some (.bool true):=by rfl):fZ c q (.cond o x z) Q E t:=fun hs a ha=>wpIn_cond_true (ha.ev hc) (h hs a ha)
theorem aP4 {o:Operand} (h:fZ c q z Q E t) (hc:ev E o=some (.bool false):=by rfl):fZ c q (.cond o x z) Q E t:=fun hs a ha=>wpIn_cond_false (ha.ev hc) (h hs a ha)
theorem Vw {s:Nat} {b:Bool} (hl:lk E s=some (.bool b)) (ht:b=true→fZ c q x Q ((s,.bool true)::E) t) (hf:b=false→fZ c q z Q ((s,.bool false)::E) t):fZ c q (.cond (.tmp s) x z) Q E t:=fun hs a ha=>
 wpIn_cond_split (ha.ev (x:=.tmp s) hl) (fun e=>by subst e;exact ht rfl hs a (ha.weak (C0 hl))) (fun e=>by subst e;exact hf rfl hs a (ha.weak (C0 hl)))
theorem fZ.block (h:fZ c q x (Exit.inBlock id Q) E t):fZ c q (.block id x) Q E t:=fun hs a ha=>wpIn_block (h hs a ha)
theorem fZ.skip (h:WQ c Q .normal E t):fZ c q .skip Q E t:=fun hs a ha=>wpIn_skip (h hs a ha)
end
def J1 (f:FuncId) (lb:List Value) (Res:TW→Prop) (n:Nat) (enc:Nat→List Value):Prop:=
 ∀(l:Nat) (J:Nat→TW→Prop) (t:TW),(∀i t1 t2,bQ No t1 t2→J i t1→J i t2)→(∀i t1,J i t1→Res t1) →
  (∀i t1,i<n→J i t1→YX l (enc i) t1 (fun v t2=>bQ (fun _=>True) t1 t2∧v=.bool true∧J (i+1) t2))→J 0 t →
  aL f (.func (.yield l) #[] #[]::lb) t (fun _=>True) (fun _ t' => J n t')
def WV (f:FuncId) (lb:List Value) (Res:TW→Prop) (n:Nat) (Er:Nat→TW→List Value→Prop):Prop:=
 ∀(l:Nat) (J:Nat→TW→Prop) (t:TW),(∀i t1 t2,bQ No t1 t2→J i t1→J i t2)→(∀i t1,J i t1→Res t1) →
  (∀i t1 vs,i<n→Er i t1 vs→J i t1→YX l vs t1 (fun v t2=>bQ (fun _=>True) t1 t2∧v=.bool true∧J (i+1) t2))→J 0 t →
  aL f (.func (.yield l) #[] #[]::lb) t (fun _=>True) (fun _ t' => J n t')
theorem J1.rel {f:FuncId} {lb:List Value} {Res:TW→Prop} {n:Nat} {enc:Nat→List Value} (h:J1 f lb Res n enc):WV f lb Res n (fun i _ vs=>vs=enc i):=
 fun l J t h1 h2 h3 h4=>h l J t h1 h2 (fun i t1 hi hJ=>h3 i t1 _ hi rfl hJ) h4
def RQ (c:i7) (J:TW→Prop):Exit→Act→World→Prop
 | .normal,_,w=>∃t', t'.w=w∧bQ c.T c.t0 t' ∧ J t'
 | _,_,_=>False
theorem WQ.round {c:i7} {J:TW→Prop} {E:eI} {t:TW} (h:J t):WQ c (RQ c J) .normal E t:=fun hs _ _=>⟨t,rfl,hs,h⟩
def AQ (c:i7) (N l:Nat) (body:Code) (J:TW→Prop):Exit→Act→World→Prop:=Exit.then (fun a w=>∃t2,t2.w=w∧bQ c.T c.t0 t2∧∀t3,bQ (fun z=>z=.nw N 0) t2 t3→body.wpIn (FW (some l)) 0 P (RQ ⟨c.n,t3,c.T⟩ J) a t3.w) (fun _ _ _=>False)
theorem QY {c:i7} {N l:Nat} {body:Code} {J:TW→Prop} {E:eI} {t:TW} (h:∀t3,bQ (fun z=>z=.nw N 0) t t3→fZ ⟨c.n,t3,c.T⟩ (some l) body (RQ ⟨c.n,t3,c.T⟩ J) E t3):WQ c (AQ c N l body J) .normal E t:=fun hs a ha=>
 ⟨t,rfl,hs,fun t3 hs3=>h t3 hs3 (bQ.refl _ _) a ha⟩
structure Ob (t:TW) (b:Nat) (o:Obj) (g:bB):Prop where
 h:t.w.heap[b]?=some o
 g:t.own b=g
theorem Ob.step {T:bB→Prop} {t t' : TW} {b:Nat} {o:Obj} {g:bB} (h:Ob t b o g) (s:bQ T t t') (hg:¬T g):Ob t' b o g:=by
 obtain⟨h1,h2⟩:=s.keep b (aTK.1 h.h).1 (by rw[h.g];exact hg);exact⟨h2.trans h.h,h1.trans h.g⟩
theorem Ob.n {T:bB→Prop} {t t' : TW} {b:Nat} {o:Obj} {g:bB} (h:Ob t b o g) (s:bQ T t t') (hg:¬T g:=by first|exact id|nofun|(rintro (h|h)<;>cases h)|(rintro (h|h|h)<;>cases h)):Ob t' b o g:=h.step s hg
def TW.putO (t:TW) (b:Nat) (o:Obj):TW:=⟨t.w.putObj b o,t.own⟩
theorem G6 {t:TW} {b:Nat} {o o' : Obj} {g:bB} (h:Ob t b o' g):bQ (fun z=>z=g) t (t.putO b o):=
 ⟨rfl,rfl,rfl,by simp[TW.putO],fun k hk hn=>⟨rfl,World.putObj_heap_other (fun e=>hn (by subst e;exact h.g))⟩⟩
theorem QR {t:TW} {b:Nat} {o o' : Obj} {g:bB} (h:Ob t b o' g):Ob (t.putO b o) b o g:=⟨World.putObj_heap_same (aTK.1 h.h).1,h.g⟩
def TW.allocO (t:TW) (o:Obj) (g:bB):TW:=⟨t.w.alloc o,fun k=>if k=t.w.heap.size then g else t.own k⟩
theorem TW.allocO_step (t:TW) (o:Obj) (g:bB):bQ No t (t.allocO o g):=
 ⟨rfl,rfl,rfl,by simp[TW.allocO],fun k hk _=>⟨by simp only[TW.allocO];rw[if_neg aTZ],RowKit.Below.heap_alloc t.w o k hk⟩⟩
theorem TW.allocO_ob (t:TW) (o:Obj) (g:bB):Ob (t.allocO o g) t.w.heap.size o g:=⟨World.alloc_heap_new t.w o,by simp[TW.allocO]⟩
theorem Mk {n:Sz}:∀{ps:List (Nat × Value)} {E:eI} {a:Act},kD n E a→(∀p∈ps,p.1<n.n)→kD n (ps.foldl (fun E p=>p::E) E) { a with tmps:=ps.foldl (fun t p=>t.setIfInBounds p.1 p.2) a.tmps }
 | [],_,_,h,_=>h
 | p::ps,E,a,h,hp=>by
  have h1:=h.put (hp p (aRK ..)) p.2;exact Mk (ps:=ps) h1 (fun q hq=>hp q (aRQ _ hq))
theorem Ig {c:i7} {Q:Exit→Act→World→Prop} {E:eI} {t:TW} {s:Nat} {ps:List Nat} {assign body:Code} {f:FuncId} {lb:List Value} {n N:Nat} {Er:Nat→TW→List Value→Prop} {Res:TW→Prop} (Tb:bB→Prop) (I:Nat→TW→Prop)
  (m8:c.n.d=none) (hg:lk E s=some (.func (.func f) #[] lb.toArray)) (Bv:aO f) (ZQ:WV f lb Res n Er)
  (hN:∀k,k<c.t0.w.heap.size→∀i,c.t0.own k≠.nw N i) (LA:¬Tb (.nw N 0)) (S5:∀q,Tb q→c.T q∨∀k,k<c.t0.w.heap.size→c.t0.own k≠q)
  (K5:∀i t1 t2,bQ (fun z=>z=.nw N 0) t1 t2→I i t1→I i t2) (ZW:∀i t1,I i t1→Res t1) (h0:I 0 t)
  (bK:∀i t vs,Er i t vs→vs.length=ps.length) (bZ:(ps.all fun p=>aQ2 p c.n.n)=true)
  (hround:∀i l t1 vs,i<n→Er i t1 vs→I i t1→fZ ⟨c.n,t1,Tb⟩ (some l) assign (AQ ⟨c.n,t1,Tb⟩ N l body (I (i+1))) ((ps.zip (vs)).foldl (fun E p=>p::E) E) t1)
  (Bs:∀D t', I n t' → Ob t' D (.deferred (some [])) (.nw N 0)→WQ ⟨⟨c.n.n,some D⟩,c.t0,c.T⟩ Q .normal E t'):WC c (.rangeFunc (.tmp s) ps.toArray assign body) Q E t:=fun hs a ha=>by
 refine wpIn_wide.1 (wpIn_rangeFunc (F:=Fence.wide) (n:=0) fun fn _=>?_)
 obtain⟨rec,AY⟩:∃rec:LoopState→Loop,rec=fun st=>{ state:=st,pending:=none,fn,tmps:=a.tmps,params:=ps.toArray,assign,body,defers:=t.w.heap.size }:=⟨_,Z⟩
 let t1:TW:=(t.allocO (.deferred (some [])) (.nw N 0)).allocO (.loop (rec .ready)) (.nw N 0)
 have hs1:bQ No t t1:=(t.allocO_step _ _).trans (TW.allocO_step _ _ _)
 have vH:(t.allocO (.deferred (some [])) (.nw N 0)).w.heap.size=t.w.heap.size+1:=by simp[TW.allocO]
 have K6:Ob t1 (t.w.heap.size+1) (.loop (rec .ready)) (.nw N 0):=by
  have:=(t.allocO (.deferred (some [])) (.nw N 0)).allocO_ob (.loop (rec .ready)) (.nw N 0)
  rwa [vH]at this
 have hD1:Ob t1 t.w.heap.size (.deferred (some [])) (.nw N 0):=(t.allocO_ob _ _).step (TW.allocO_step _ _ _) id
 have aF7:∀w,(resolve a.eval (rangeCall (.tmp s) (t.w.heap.size+1)) 0).run P w=.ok { target:=.fn (.func f) lb.toArray,args:=#[.func (.yield (t.w.heap.size+1)) #[] #[]] } w:=fun w=>by
  have rK:=ha.ev (x:=.tmp s) hg;simp only[resolve,rK,rangeCall];simp[go_sem]
 refine⟨t.w.heap.size+1,[{ target:=.collected t.w.heap.size,args:=#[] }],t1.w,{ target:=.fn (.func f) lb.toArray,args:=#[.func (.yield (t.w.heap.size+1)) #[] #[]] },t1.w,f,#[.func (.yield (t.w.heap.size+1)) #[] #[]]++lb.toArray,t1.w,?_,aF7 _,fun _ _=>trivial,?_,fun h=>by simp[Fence.wide]at h,?_⟩
 ·have e0:t1.w=(t.w.alloc (.deferred (some []))).alloc (.loop (rec .ready)):=Z;rw[show Fence.wide.round=none from rfl,run_enterLoop_outer,e0,AY]
 ·simp only[invoke];exact Bv _ _
 have hJ:∀(T:bB→Prop) (x y:TW),(∀q,T q→c.T q∨∀k,k<c.t0.w.heap.size→c.t0.own k≠q)→bQ c.T c.t0 x→bQ T x y→bQ c.T c.t0 y:=fun T x y hT h h' => ZC h h' hT
 have FS:∀q,q=bB.nw N 0→c.T q∨∀k,k<c.t0.w.heap.size→c.t0.own k≠q:=fun q e=>.inr fun k hk=>by rw[e];exact hN k hk 0
 have TD:=ZQ (t.w.heap.size+1) (fun i x=>I i x∧Ob x (t.w.heap.size+1) (.loop (rec .ready)) (.nw N 0)∧Ob x t.w.heap.size (.deferred (some [])) (.nw N 0)∧bQ c.T c.t0 x) t1
  (fun i x y UK h=>⟨K5 i x y UK.no h.1,h.2.1.step UK id,h.2.2.1.step UK id,h.2.2.2.trans UK.no⟩) (fun i x h=>ZW i x h.1) ?_ ⟨K5 0 t t1 hs1.no h0,K6,hD1,hs.trans hs1.no⟩
 ·have e1:(#[Value.func (.yield (t.w.heap.size+1)) #[] #[]]++lb.toArray)=(Value.func (.yield (t.w.heap.size+1)) #[] #[]::lb).toArray:=by simp
  rw[e1];unfold aL at TD;refine callsIn_wide.2 (Calls.mono TD fun e w' hh=>?_);obtain⟨v,own', rfl,aM,hI,hL,hD,F2⟩:=hh;have OZ:=G6 (o:=.loop { rec .ready with state:=.exhausted }) hL;refine⟨none,(TW.putO ⟨w', own'⟩ (t.w.heap.size+1) (.loop { rec .ready with state:=.exhausted })).w,?_,?_⟩
  ·have:=run_endLoop (P:=P) hL.h (by rw[AY];simp);rw[this,AY];rfl
  ·refine Bs t.w.heap.size _ (K5 n _ _ OZ hI) ⟨(World.putObj_heap_other aTZ).trans hD.h,hD.g⟩ (hJ _ _ _ FS F2 OZ) _ ⟨ha.sz,?_,ha.get⟩;have:=ha.df;simp only[Sz.defers,m8]at this;simp[Sz.defers,this]
 ·rintro i x vs hi hEr ⟨hI,hL,hD,F2⟩;have hy:=run_yield (P:=P) (args:=(vs).toArray) hL.h (by rw[AY];simpa using bK i x vs hEr);refine⟨_,_,_,_,hy,roundIn_of_wpIn trivial ?_⟩;have hha:kD c.n ((ps.zip (vs)).foldl (fun E p=>p::E) E) { a with tmps:=(ps.zip (vs)).foldl (fun t p=>t.setIfInBounds p.1 p.2) a.tmps }:=Mk ha (fun p hp=>aRU (aS0.1 bZ _ (aSS hp).1));have hr:=hround i (t.w.heap.size+1) x vs hi hEr hI (bQ.refl _ _) _ hha
  have e2:(List.foldl (fun tmps x=>match x with|(t,a)=>tmps.setIfInBounds t a) (rec LoopState.ready).tmps ((rec LoopState.ready).params.zip (vs).toArray).toList)=(ps.zip (vs)).foldl (fun t p=>t.setIfInBounds p.1 p.2) a.tmps:=by
   rw[AY];simp
  have e3:({ tmps:=((rec LoopState.ready).params.zip (vs).toArray).foldl (fun tmps (t,a)=>tmps.setIfInBounds t a) (rec LoopState.ready).tmps,defers:=[] }:Act)={ a with tmps:=(ps.zip (vs)).foldl (fun t p=>t.setIfInBounds p.1 p.2) a.tmps }:=by
   have hdf:=ha.df;simp only[Sz.defers,m8]at hdf;rw[hdf,AY];simp
  rw[e3];rw[show (rec LoopState.ready).assign=assign by rw[AY],show (rec LoopState.ready).body=body by rw[AY]];refine wpIn_mono (show assign.wpIn (Fence.inRound (FW none) (t.w.heap.size+1)) 0 P _ _ _ from hr) fun e a' w' hh=>?_
  cases e with
  | normal=>
   obtain⟨t2,rfl,LO,hb⟩:=hh;have HQ:=hL.step LO LA;have aJ:=G6 (o:=.loop { rec .ready with state:=.busy }) HQ;refine⟨_,run_beginRound HQ.h (by rw[AY]),?_⟩;refine wpIn_mono (show body.wpIn (Fence.inRound (FW none) (t.w.heap.size+1)) 0 P _ _ (t2.putO (t.w.heap.size+1) (.loop { rec .ready with state:=.busy })).w from hb _ aJ) fun e a'' w'' hh=>?_
   cases e with
   | normal=>
    obtain⟨t4,rfl,UD,hI4⟩:=hh;have HR:=(QR (o:=.loop { rec .ready with state:=.busy }) HQ).step UD LA;have hD2:=hD.step LO LA
    have hD3:Ob (t2.putO (t.w.heap.size+1) (.loop { rec .ready with state:=.busy })) t.w.heap.size (.deferred (some [])) (.nw N 0):=⟨(World.putObj_heap_other aTZ).trans hD2.h,hD2.g⟩
    have hD4:=hD3.step UD LA;have OZ:=G6 (o:=.loop (rec .ready)) HR;have he:=run_endRound (P:=P) none HR.h
    have hrr:(Loop.mk (if (none:Option Code).isNone then LoopState.ready else LoopState.done) none (rec .ready).fn (rec .ready).tmps (rec .ready).params (rec .ready).assign (rec .ready).body (rec .ready).defers)=rec .ready:=by
     rw[AY];rfl
    refine⟨_,_,he,_,t4.own,Z,?_,Z,?_⟩
    ·exact (LO.mono fun _ _=>trivial).trans ((aJ.mono fun _ _=>trivial).trans ((UD.mono fun _ _=>trivial).trans ((G6 HR).mono fun _ _=>trivial)))
    ·have e5:(⟨t4.w.putObj (t.w.heap.size+1) (.loop { { rec .ready with state:=.busy } with state:=if (none:Option Code).isNone then .ready else .done,pending:=none }),t4.own⟩:TW)=t4.putO (t.w.heap.size+1) (.loop (rec .ready)):=by
      rw[AY];rfl
     rw[e5];exact⟨K5 _ _ _ OZ hI4,QR HR,⟨(World.putObj_heap_other aTZ).trans hD4.h,hD4.g⟩,hJ _ _ _ FS (hJ _ _ _ S5 (hJ _ _ _ FS (hJ _ _ _ S5 F2 LO) aJ) UD) OZ⟩
   | _=>exact hh.elim
  | _=>exact hh.elim
theorem WC.range {c:i7} {Q:Exit→Act→World→Prop} {E:eI} {t:TW} {s:Nat} {ps:List Nat} {assign body:Code} {f:FuncId} {lb:List Value} {n N:Nat} {enc:Nat→List Value} {Res:TW→Prop} (Tb:bB→Prop) (I:Nat→TW→Prop)
  (m8:c.n.d=none) (hg:lk E s=some (.func (.func f) #[] lb.toArray)) (Bv:aO f) (ZQ:J1 f lb Res n enc)
  (hN:∀k,k<c.t0.w.heap.size→∀i,c.t0.own k≠.nw N i) (LA:¬Tb (.nw N 0)) (S5:∀q,Tb q→c.T q∨∀k,k<c.t0.w.heap.size→c.t0.own k≠q)
  (K5:∀i t1 t2,bQ (fun z=>z=.nw N 0) t1 t2→I i t1→I i t2) (ZW:∀i t1,I i t1→Res t1) (h0:I 0 t)
  (bK:∀i,(enc i).length=ps.length) (bZ:(ps.all fun p=>aQ2 p c.n.n)=true)
  (hround:∀i l t1,i<n→I i t1→fZ ⟨c.n,t1,Tb⟩ (some l) assign (AQ ⟨c.n,t1,Tb⟩ N l body (I (i+1))) ((ps.zip (enc i)).foldl (fun E p=>p::E) E) t1)
  (Bs:∀D t', I n t' → Ob t' D (.deferred (some [])) (.nw N 0)→WQ ⟨⟨c.n.n,some D⟩,c.t0,c.T⟩ Q .normal E t'):WC c (.rangeFunc (.tmp s) ps.toArray assign body) Q E t:=
 Ig Tb I m8 hg Bv ZQ.rel hN LA S5 K5 ZW h0 (fun i t vs e=>by rw[e];exact bK i) bZ (fun i l t1 vs hi e hI=>by subst e;exact hround i l t1 hi hI) Bs
theorem P8 {f:FuncId} {fn:Func} {x:Code} {args:List Value} {t:TW} {T:bB→Prop} {Φ:Value→TW→Prop} {n:Nat} (hf:P.funcs[f]?=some fn) (hb:fn.body=some x) (hn:fn.ntmps=n) (hl:args.length≤n)
  (h:WC ⟨⟨n,none⟩,t,T⟩ x (bodyPostM Fence.wide 0 P fn (E7 T t Φ)) (LW args 0) t):aL f args t T Φ:=by
 refine callsIn_wide.1 (callsIn_of_wp_marks (F:=Fence.wide) (n:=0) hf hb trivial (wpIn_wide.2 (h (bQ.refl _ _) _ ⟨?_,Z,fun s v hv=>?_⟩)))
 ·simp[hn];omega
 obtain⟨_,h2⟩:=Dv args 0 s v hv;simp only[Nat.sub_zero]at h2;have aW:=(aQG.1 h2).1;rw[Array.getElem?_append_left (by simpa using aW)];simpa using h2
section
variable {n D N:Nat} {t0 t:TW} {T:bB→Prop} {E:eI} {fn:Func} {Φ:Value→TW→Prop} {rs:List ResultVar}
theorem aG1 (hf:fn.results=rs.toArray) (hD:Ob t D (.deferred (some [])) (.nw N 0)) (hN:∀k,k<t0.w.heap.size→∀i,t0.own k≠.nw N i) (h:∀t', bQ (fun z=>z=.nw N 0) t t' →∃vs,RV E t'.w rs vs∧Φ (dB vs) t') (hs:bQ T t0 t) {a:Act} (ha:kD ⟨n,some D⟩ E a) :
  LeavesInM Fence.wide 0 P fn a.tmps (E7 T t0 Φ) a.defers .returning t.w:=by
 have e:a.defers=[{ target:=.collected D,args:=#[] }]:=ha.df;rw[e];have aM:=G6 (o:=.deferred none) hD;obtain⟨vs,hv,hp⟩:=h _ aM;refine⟨by simp,.inl ⟨D,(t.putO D (.deferred none)).w,Z,run_takeDeferred hD.h,?_⟩⟩;exact⟨_,RV.results ha hf hv,_,(t.putO D (.deferred none)).own,Z,ZC (c:=⟨⟨n,none⟩,t0,T⟩) hs aM (fun q e=>.inr fun k hk=>by rw[e];exact hN k hk 0),hp⟩
theorem QZ (hf:fn.results=rs.toArray) (hD:Ob t D (.deferred (some [])) (.nw N 0)) (hN:∀k,k<t0.w.heap.size→∀i,t0.own k≠.nw N i) (h:∀t', bQ (fun z=>z=.nw N 0) t t' →∃vs,RV E t'.w rs vs∧Φ (dB vs) t') :
  WQ ⟨⟨n,some D⟩,t0,T⟩ (bodyPostM Fence.wide 0 P fn (E7 T t0 Φ)) .ret E t:=fun hs _ ha=>aG1 hf hD hN h hs ha
end
def EQ (Q:Exit→Act→World→Prop):Exit→Act→World→Prop
 | .panic _,_,_=>False
 | .outgrown,_,_=>False
 | e,a,w=>Q e a w
theorem Oo (Q:Exit→Act→World→Prop):wZ (EQ Q):=fun _ _ _ _ _ h=>h
theorem aHW (Q:Exit→Act→World→Prop):¬LetsOut (EQ Q):=fun ⟨_,_,h⟩=>h
theorem On {Q:Exit→Act→World→Prop}:∀e a w,EQ Q e a w→Q e a w:=fun e a w h=>by
 cases e<;>first|exact h|exact h.elim
theorem Q0 {r:Option Nat} {ops:Array Oper} {Q:Exit→Act→World→Prop} (F6:¬LetsOut Q) (m8:∀(i:Nat) (o:Oper),ops[i]?=some o→∀c:Call,o.op≠.defer c) :
  ∀(fuel:Nat) (ls:Array Bool) (a:Act) (w:World),wpAny P .any ops Q fuel ls a w→wpAnyIn (FW r) 0 P .any ops Q fuel ls a w
 | 0,_,_,_,h=>h
 | fuel+1,ls,a,w,h=>⟨h.1,fun i hi=>by
   have h1:=h.2 i hi;unfold wpOp at h1;unfold wpOpIn
   cases ho:ops[i]? with
   | none=>
    rw[ho]at h1;exact Q0 F6 m8 fuel _ _ _ h1
   | some o=>
    rw[ho]at h1;simp only at h1 ⊢;split
    ·rename_i hw;rw[if_pos hw]at h1;rcases h1 with h1|h1
     ·exact Oper.wpIn_mono (fun a w=>Q0 F6 m8 fuel _ a w) (U4 (m8 i o ho) h1)
     ·exact (F6 h1.2).elim
    ·rename_i hw;rw[if_neg hw]at h1
     exact⟨fun _ _=>trivial,Q0 F6 m8 fuel _ _ _ h1⟩⟩
def Nt:Op→Bool
 | .defer _=>true
 | _=>false
section
variable {c:i7} {q:Option Nat} {Q:Exit→Act→World→Prop} {E:eI} {t:TW} {id:Nat} {z:Code} {l:List Oper} {ops:Array Oper} {S:World→Prop} {fuel:Nat} {ls:List Bool}
theorem WC.drN (S:World→Prop) (hS:S t.drew.w) (h:DL c l.toArray (EQ Q) S l.length (List.replicate l.length false) E t.drew):WC c (.region id l.toArray true) Q E t:=fun hs a ha=>wp_mono (WC.dr S (Oo Q) hS h hs a ha) On
theorem Vu (S:World→Prop) (hS:S t.drew.w) (h:DL c l.toArray (EQ (Exit.then (z.wp P Q) Q)) S l.length (List.replicate l.length false) E t.drew):WC c (.seq (.region id l.toArray true) z) Q E t:=.seq (.drN S hS h)
theorem WO (hr:Region.ready .any ops ls.toArray=[]) (h:WQ c Q .normal E t):DL c ops (EQ Q) S fuel ls E t:=.done hr h
theorem fZ.drN (S:World→Prop) (hS:S t.drew.w) (h:DL c l.toArray (EQ Q) S l.length (List.replicate l.length false) E t.drew) (m8:(l.all fun o=>!Nt o.op)=true:=by rfl):fZ c q (.region id l.toArray true) Q E t:=fun hs a ha=>by
 refine wpIn_mono (Q:=EQ Q) (wpIn_region_any Ol (Q0 (aHW Q) (fun i o ho d e=>?_) _ _ _ _ (wpAny_of_held (S:=S) _ _ _ _ ?_))) On
 ·have h1:o∈l:=by
   rw[List.getElem?_toArray]at ho;exact aQL ho
  have:=aS0.1 m8 o h1;rw[e]at this;cases this
 ·have:=h (Oo Q) (hs.trans t.drew_step.no) hS a ha;simpa[TW.drew]using this
theorem Vy (S:World→Prop) (hS:S t.drew.w) (h:DL c l.toArray (EQ (Exit.then (z.wpIn (FW q) 0 P Q) Q)) S l.length (List.replicate l.length false) E t.drew) (m8:(l.all fun o=>!Nt o.op)=true:=by rfl):fZ c q (.seq (.region id l.toArray true) z) Q E t:=.seq (.drN S hS h m8)
end
structure E6 {κ:Type} [DecidableEq κ] (kt:TypeId) (enc:κ→Value) (kd:TypeDesc):Prop where
 und:P.underlying kt=some kd
 same:∀a b,Instr.sameNow kd (enc a) (enc b)=some (decide (a=b))
 chk:∀em a w,(Instr.checkKey em 10000 kt (enc a)).run P w=.ok () w
 bits:∀a,Instr.sameBits 10000 (enc a) (enc a)=true
structure Mv (β:Type) where
 R:TW→β→Value→Prop
 stp:∀{T t t' x v},bQ T t t' → ¬T .fz→R t x v→R t' x v
section
variable {κ β:Type} [DecidableEq κ] {enc:κ→Value} {R:β→Value→Prop}
def MR (enc:κ→Value) (R:β→Value→Prop):List MapEntry→List (κ × β)→Prop
 | [],[]=>True
 | e::es,p::l=>e.key=enc p.1∧R p.2 e.val∧MR enc R es l
 | _,_=>False
def mL:List (κ × β)→κ→Nat→Option (Nat × β)
 | [],_,_=>none
 | p::l,a,i=>if a=p.1 then some (i,p.2) else mL l a (i+1)
def tQ (l:List (κ × β)) (a:κ):Option β:=(mL l a 0).map (·.2)
def lP (l:List (κ × β)) (a:κ) (x:β):List (κ × β):=match mL l a 0 with
 | some (i,_)=>l.set i (a,x)
 | none=>l++[(a,x)]
def wD (l:List (κ × β)) (a:κ):List (κ × β):=match mL l a 0 with
 | some (i,_)=>l.eraseIdx i
 | none=>l
theorem MR.len:∀{es:List MapEntry} {l:List (κ × β)},MR enc R es l→es.length=l.length
 | [],[],_=>rfl
 | e::es,p::l,h=>by rw[aQH,aQH,MR.len h.2.2]
 | [],_::_,h=>h.elim
 | _::_,[],h=>h.elim
theorem MR.mono {R' : β→Value→Prop} (hR:∀x v,R x v→R' x v):∀{es:List MapEntry} {l:List (κ × β)},MR enc R es l→MR enc R' es l
 | [],[],_=>trivial
 | e::es,p::l,h=>⟨h.1,hR _ _ h.2.1,MR.mono hR h.2.2⟩
 | [],_::_,h=>h.elim
 | _::_,[],h=>h.elim
theorem MR.find {d:TypeDesc} (hd:∀a b,Instr.sameNow d (enc a) (enc b)=some (decide (a=b))) (a:κ):∀{es:List MapEntry} {l:List (κ × β)} (i:Nat),MR enc R es l →
  match mL l a i with
  | some (j,x)=>∃v,Instr.findNow d (enc a) es i=some (some (j,v))∧R x v∧i≤j∧∃e,es[j-i]?=some e∧e.key=enc a
  | none=>Instr.findNow d (enc a) es i=some none
 | [],[],i,_=>rfl
 | e::es,p::l,i,h=>by
  simp only[mL];by_cases N4:a=p.1
  ·rw[if_pos N4];refine⟨e.val,?_,h.2.1,aP9 _,e,by simp,by rw[h.1,N4]⟩;simp[Instr.findNow,h.1,hd,N4]
  ·rw[if_neg N4];have ih:=MR.find hd a (i+1) h.2.2
   have e1:Instr.findNow d (enc a) (e::es) i=Instr.findNow d (enc a) es (i+1):=by simp[Instr.findNow,h.1,hd,N4]
   rw[e1]
   revert ih
   cases mL l a (i+1) with
   | none=>exact id
   | some q=>
    rintro⟨v,h1,h2,h3,e', h4,h5⟩;refine⟨v,h1,h2,by omega,e', ?_,h5⟩;rw[show q.1-i=(q.1-(i+1))+1 by omega];simpa using h4
 | [],_::_,_,h=>h.elim
 | _::_,[],_,h=>h.elim
theorem MR.set {a:κ} {x:β} {e:MapEntry} (h1:e.key=enc a) (h2:R x e.val):∀{es:List MapEntry} {l:List (κ × β)} (i:Nat),MR enc R es l→MR enc R (es.set i e) (l.set i (a,x))
 | [],[],_,_=>trivial
 | _::_,_::_,0,h=>⟨h1,h2,h.2.2⟩
 | _::_,_::_,i+1,h=>⟨h.1,h.2.1,MR.set h1 h2 i h.2.2⟩
 | [],_::_,_,h=>h.elim
 | _::_,[],_,h=>h.elim
theorem MR.app {a:κ} {x:β} {e:MapEntry} (h1:e.key=enc a) (h2:R x e.val):∀{es:List MapEntry} {l:List (κ × β)},MR enc R es l→MR enc R (es++[e]) (l++[(a,x)])
 | [],[],_=>⟨h1,h2,trivial⟩
 | _::_,_::_,h=>⟨h.1,h.2.1,MR.app h1 h2 h.2.2⟩
 | [],_::_,h=>h.elim
 | _::_,[],h=>h.elim
theorem MR.erase:∀{es:List MapEntry} {l:List (κ × β)} (i:Nat),MR enc R es l→MR enc R (es.eraseIdx i) (l.eraseIdx i)
 | [],[],_,_=>trivial
 | _::_,_::_,0,h=>h.2.2
 | _::_,_::_,i+1,h=>⟨h.1,h.2.1,MR.erase i h.2.2⟩
 | [],_::_,_,h=>h.elim
 | _::_,[],_,h=>h.elim
end
section
variable {κ β:Type} [DecidableEq κ] {enc:κ→Value} {V:Mv β} {t t' : TW} {b:Nat} {g:bB} {l:List (κ × β)} {kt et q:TypeId} {kd:TypeDesc}
def Mp (t:TW) (b:Nat) (g:bB) (enc:κ→Value) (V:Mv β) (l:List (κ × β)):Prop:=∃es clock,Ob t b (.map es clock) g∧MR enc (V.R t) es.toList l
theorem Mp.step {T:bB→Prop} (h:Mp t b g enc V l) (s:bQ T t t') (hg:¬T g) (hT:¬T .fz):Mp t' b g enc V l:=by
 obtain⟨es,clock,h1,h2⟩:=h;exact⟨es,clock,h1.step s hg,h2.mono fun x v=>V.stp s hT⟩
theorem Mp.n {T:bB→Prop} (h:Mp t b g enc V l) (s:bQ T t t') (hg:¬T g:=by first|exact id|nofun|(rintro (h|h)<;>cases h)|(rintro (h|h|h)<;>cases h)) (hT:¬T .fz:=by first|exact id|nofun|(rintro (h|h)<;>cases h)|(rintro (h|h|h)<;>cases h)):Mp t' b g enc V l:=h.step s hg hT
theorem Mp.lt (h:Mp t b g enc V l):b<t.w.heap.size:=by
 obtain⟨es,clock,h1,h2⟩:=h;exact (aTK.1 h1.h).1
theorem Mp.own (h:Mp t b g enc V l):t.own b=g:=by
 obtain⟨es,clock,h1,h2⟩:=h;exact h1.g
theorem Mp.look (h:Mp t b g enc V l) (hK:E6 kt enc kd) (hq:P.underlying q=some (.map kt et)) {z:Value} (hz:(zeroValue et).run P t.w=.ok z t.w) (a:κ) :
  ∃v,(Instr.lookup q (.map (some b)) (enc a) false).run P t.w=.ok v t.w∧match tQ l a with
   | some x=>V.R t x v
   | none=>v=z:=by
 obtain⟨es,clock,h1,h2⟩:=h;have hd:=hK.und;have hs:=hK.same;have hf:=MR.find (R:=V.R t) hs a 0 h2
 have m7:∀r,Instr.findNow kd (enc a) es.toList 0=some r→(Instr.findKey kt (enc a) es.toList).run P t.w=.ok r t.w:=fun r hr=>by
  simp only[Instr.findKey,Sem.run_bind,iE hd,Result.andThen_ok,hr,Sem.run_pure]
 unfold tQ
 cases hg:mL l a 0 with
 | none=>
  rw[hg]at hf;refine⟨z,?_,Z⟩;simp[Instr.lookup,iE hq,MapKept.run_getObj_map h1.h,hK.chk,m7 _ hf,hz]
 | some p=>
  rw[hg]at hf;obtain⟨v,hv,hR,_⟩:=hf;refine⟨v,?_,hR⟩;simp[Instr.lookup,iE hq,MapKept.run_getObj_map h1.h,hK.chk,m7 _ hv]
theorem Mp.len_ (h:Mp t b g enc V l) (hq:P.underlying q=some (.map kt et)) (ty:TypeId):(Builtin.len_ #[q] ty #[.map (some b)]).run P t.w=.ok (O l.length) t.w:=by
 obtain⟨es,clock,h1,h2⟩:=h;have:=h2.len;simp[Builtin.len_,iE hq,MapKept.run_getObj_map h1.h,goInt,←this]
end
section
variable {κ β:Type} [DecidableEq κ] {enc:κ→Value} {V:Mv β} {b:Nat} {g:bB} {l:List (κ × β)} {kt et q:TypeId} {kd:TypeDesc}
variable {n:Sz} {c:i7} {E:eI} {d:Option Nat} {ty:TypeId} {pos:String} {af:Array Edge} {gu:Option (Nat × Bool)} {x y z:Operand} {v:Value} {t:TW}
theorem Rd.lk {w:World} {u:Value} (h:ev E x=some u) (hk:ev E y=some v) {r:Value} (hr:(Instr.lookup q u v false).run P w=.ok r w):Rd n ⟨d,.lookup q x y false,ty,pos,af,gu⟩ E w r:=fun a ha=>by
 simp[execOp,ha.ev h,ha.ev hk,hr]
theorem Vp {w:World} (h:ev E x=some (.map (some b))) {r:Value} (hr:(Builtin.len_ #[q] ty #[.map (some b)]).run P w=.ok r w):Rd n ⟨d,.call { callee:=.builtin .len,args:=#[x],argTypes:=#[q] },ty,pos,af,gu⟩ E w r:=fun a ha=>by
 simp[execOp,resolve,ha.ev h,invoke,builtin,hr]
theorem Hx (gt:bB) (enc:κ→Value) (V:Mv β):Ef c ⟨d,.makeMap q none,ty,pos,af,gu⟩ E t (fun v t' => ∃b,v=.map (some b)∧bQ No t t' ∧ Mp t' b gt enc V []∧c.t0.w.heap.size≤b∧t.w.heap.size≤b):=.mk fun hs a ha K Q hk=>by
 unfold Oper.wp
 have:(execOp a.eval ⟨d,.makeMap q none,ty,pos,af,gu⟩).run P t.w=.ok (.value (.map (some t.w.heap.size))) (t.allocO (.map #[] 0) gt).w:=by
  simp only[execOp,Instr.makeMap,Sem.run_bind,run_newObj,Result.andThen_ok,Sem.run_pure];rfl
 rw[this];exact hk _ _ (hs.trans (t.allocO_step _ gt).no) ⟨_,Z,t.allocO_step _ gt,⟨_,_,t.allocO_ob _ gt,trivial⟩,hs.size,aP9 _⟩
theorem Pp {c:i7} {t:TW} {b:Nat} {o o' : Obj} {g:bB} (h:Ob t b o' g) (hs:bQ c.T c.t0 t) (hT:c.t0.w.heap.size≤b∨c.T g):bQ c.T c.t0 (t.putO b o):=
 ⟨hs.os,hs.tape,hs.output,by simpa[TW.putO]using hs.size,fun k hk hn=>by
  obtain⟨h1,h2⟩:=hs.keep k hk hn
  have Ce:k≠b:=by
   rintro rfl;rcases hT with hT|hT
   ·omega
   ·rw[h.g]at h1;rw[←h1]at hn;exact hn hT
  exact⟨h1,(World.putObj_heap_other Ce).trans h2⟩⟩
theorem Mp.upd {a:κ} {x1:β} (hq:P.underlying q=some (.map kt et)) (hK:E6 kt enc kd) (hm:Mp t b g enc V l) (hR:V.R t x1 v) (hg:g≠.fz):∃t', (Instr.mapUpdate q (.map (some b)) (enc a) v).run P t.w=.ok () t'.w∧bQ (fun q=>q=g) t t' ∧ Mp t' b g enc V (lP l a x1)∧∃o' o,Ob t b o' g∧t' = t.putO b o:=by
 obtain⟨es,clock,h1,h2⟩:=hm;have hd:=hK.und;have fM := hK.same;have hf:=MR.find (R:=V.R t) fM a 0 h2
 have m7:∀r,Instr.findNow kd (enc a) es.toList 0=some r→(Instr.findKey kt (enc a) es.toList).run P t.w=.ok r t.w:=fun r hr=>by
  simp only[Instr.findKey,Sem.run_bind,iE hd,Result.andThen_ok,hr,Sem.run_pure]
 have key:∀(es' : Array MapEntry) (clock' : Nat),MR enc (V.R t) es'.toList (lP l a x1)→(Instr.mapUpdate q (.map (some b)) (enc a) v).run P t.w=.ok () (t.putO b (.map es' clock')).w→∃t', (Instr.mapUpdate q (.map (some b)) (enc a) v).run P t.w=.ok () t'.w∧bQ (fun q=>q=g) t t' ∧ Mp t' b g enc V (lP l a x1)∧∃o' o,Ob t b o' g∧t' = t.putO b o:=fun es' clock' hM lK=>by
  have st:=G6 (o:=.map es' clock') h1;exact⟨_,lK,st,⟨es', clock', QR h1,hM.mono fun x v=>V.stp st (fun e=>hg e.symm)⟩,_,_,h1,Z⟩
 cases EI:mL l a 0 with
 | none=>
  rw[EI]at hf;refine key (es.push ⟨enc a,v,clock⟩) (clock+1) ?_ ?_
  ·unfold lP;rw[EI,Array.toList_push];exact MR.app (e:=⟨enc a,v,clock⟩) (a:=a) (x:=x1) Z hR h2
  simp only[Instr.mapUpdate,Sem.run_bind,iE hq,Result.andThen_ok,MapKept.run_getObj_map h1.h,hK.chk,m7 _ hf,MapKept.run_setObj_map _ h1.h];rfl
 | some p=>
  rw[EI]at hf;obtain⟨v0,qQ,_,_,e0,sO,hke⟩:=hf;simp only[Nat.sub_zero]at sO
  have vH:p.1<es.size:=by
   have:=(aQG.1 sO).1;simpa using this
  have vC:es[p.1]?=some e0:=by simpa using sO
  refine key (es.modify p.1 fun e=>{ e with key:=enc a,val:=v }) clock ?_ ?_
  ·unfold lP;rw[EI]
   have e2:(es.modify p.1 fun e=>{ e with key:=enc a,val:=v }).toList=es.toList.set p.1 { e0 with key:=enc a,val:=v }:=by
    rw[Array.toList_modify];exact Go.ChangeMaps.modify_eq_set _ _ _ _ sO
   rw[e2];exact MR.set (e:={ e0 with key:=enc a,val:=v }) (a:=a) (x:=x1) Z hR p.1 h2
  have e3:(Instr.keyThatStays (((es[p.1]?).map (·.key)).getD (enc a)) (enc a)).run P t.w=.ok (enc a) t.w:=by
   rw[vC];simp only[aRV,Option.getD_some,hke,Instr.keyThatStays,hK.bits,if_true,Sem.run_pure]
  simp only[Instr.mapUpdate,Sem.run_bind,iE hq,Result.andThen_ok,MapKept.run_getObj_map h1.h,hK.chk,m7 _ qQ,e3,MapKept.run_setObj_map _ h1.h];rfl
theorem aMD {s:Sem Unit} {w w' : World} (h:s.run P w=.ok () w'):(do s;pure Next.skip:Sem Next).run P w=.ok .skip w' := by
 rw[Sem.run_bind,h];rfl
theorem aCV (ρ:Operand→Value) (d:Option Nat) (q:TypeId) (x y z:Operand) (ty:TypeId) (pos:String) (af:Array Edge) (gu:Option (Nat × Bool)):execOp ρ ⟨d,.mapUpdate q x y z,ty,pos,af,gu⟩=(do Instr.mapUpdate q (ρ x) (ρ y) (ρ z);pure .skip:Sem Next):=by
 unfold execOp
 with_reducible rfl
set_option maxRecDepth 100000 in
theorem WS {a:κ} {x1:β} (h:ev E x=some (.map (some b))) (hk:ev E y=some (enc a)) (hv:ev E z=some v) (hq:P.underlying q=some (.map kt et)) (hK:E6 kt enc kd) (hm:Mp t b g enc V l) (hR:V.R t x1 v) (hg:g≠.fz) (hT:c.t0.w.heap.size≤b∨c.T g) :
  Ef c ⟨d,.mapUpdate q x y z,ty,pos,af,gu⟩ E t (fun _ t' => bQ (fun q=>q=g) t t' ∧ Mp t' b g enc V (lP l a x1)):=.mk fun hs A ha K Q yS=>by
 have hu:=Classical.choose_spec (Mp.upd (a:=a) hq hK hm hR hg);have lK:=hu.1;have aM:=hu.2.1;have tX := hu.2.2.1;have ho1:=Classical.choose_spec hu.2.2.2;have gR:=Classical.choose_spec ho1;have F2:=Pp (o:=Classical.choose ho1) gR.1 hs hT;rw[←gR.2]at F2;unfold Oper.wp
 have:(execOp A.eval ⟨d,.mapUpdate q x y z,ty,pos,af,gu⟩).run P t.w=.ok .skip (Classical.choose (Mp.upd (a:=a) hq hK hm hR hg)).w:=by
  rw[aCV,ha.ev h,ha.ev hk,ha.ev hv];exact aMD lK
 rw[this];exact yS undef _ F2 ⟨aM,tX⟩
theorem Vf {a:κ} {kt' : TypeId} (h:ev E x=some (.map (some b))) (hk:ev E y=some (enc a)) (hq:P.underlying q=some (.map kt et)) (hK:E6 kt enc kd) (hm:Mp t b g enc V l) (hg:g≠.fz) (hT:c.t0.w.heap.size≤b∨c.T g) :
  Ef c ⟨d,.call { callee:=.builtin .delete,args:=#[x,y],argTypes:=#[q,kt'] },ty,pos,af,gu⟩ E t (fun _ t' => bQ (fun q=>q=g) t t' ∧ Mp t' b g enc V (wD l a)):=.mk fun hs A ha K Q yS=>by
 refine aR5 hm fun es hm=>aR5 hm fun clock hm=>?_;have h1:=hm.1;have h2:=hm.2;clear hm;have hd:=hK.und;have fM := hK.same;have hf:=MR.find (R:=V.R t) fM a 0 h2
 have m7:∀r,Instr.findNow kd (enc a) es.toList 0=some r→(Instr.findKey kt (enc a) es.toList).run P t.w=.ok r t.w:=fun r hr=>by
  simp only[Instr.findKey,Sem.run_bind,iE hd,Result.andThen_ok,hr,Sem.run_pure]
 have key:∀(es' : Array MapEntry),MR enc (V.R t) es'.toList (wD l a)→(Builtin.delete_ #[q,kt'] ty #[.map (some b),enc a]).run P t.w=.ok (.tuple #[]) (t.putO b (.map es' clock)).w → 
   (⟨d,.call { callee:=.builtin .delete,args:=#[x,y],argTypes:=#[q,kt'] },ty,pos,af,gu⟩:Oper).wp P A t.w K Q:=fun es' hM lK=>by
  unfold Oper.wp
  have:(execOp A.eval ⟨d,.call { callee:=.builtin .delete,args:=#[x,y],argTypes:=#[q,kt'] },ty,pos,af,gu⟩).run P t.w=.ok (.value (.tuple #[])) (t.putO b (.map es' clock)).w:=by
   simp[execOp,resolve,invoke,builtin,ha.ev h,ha.ev hk,lK]
  rw[this];have st:=G6 (o:=.map es' clock) h1;exact yS _ _ (Pp h1 hs hT) ⟨st,es', clock,QR h1,hM.mono fun x v=>V.stp st (fun e=>hg e.symm)⟩
 cases EI:mL l a 0 with
 | none=>
  rw[EI]at hf;refine key es ?_ ?_
  ·unfold wD;rw[EI];exact h2
  ·simp[Builtin.delete_,iE hq,MapKept.run_getObj_map h1.h,hK.chk,m7 _ hf,MapKept.run_setObj_map _ h1.h,TW.putO]
   try rfl
 | some p=>
  rw[EI]at hf;obtain⟨v0,qQ,_,_,e0,sO,hke⟩:=hf;refine key (es.eraseIdxIfInBounds p.1) ?_ ?_
  ·unfold wD;rw[EI,Array.toList_eraseIdxIfInBounds];exact h2.erase p.1
  ·simp[Builtin.delete_,iE hq,MapKept.run_getObj_map h1.h,hK.chk,m7 _ qQ,MapKept.run_setObj_map _ h1.h,TW.putO]
   try rfl
theorem QB {e bytes:Nat} {z1:Value} (gt:bB) {m:Nat} (ht:iQ q e 1) (he:El e 1 bytes z1) (hz:z1.cells=#[z1]) (hi:ev E x=some (O (m:Int))) (hj:ev E y=some (O (m:Int))) (hm:m≤1000000) (xG:bytes≤1000) :
  Ef c ⟨d,.makeSlice q x y,ty,pos,af,gu⟩ E t (BP c t (List.replicate m z1) e gt fun b=>.slice (some ⟨b,0,none⟩) m m):=.mk fun hs a ha K Q hk=>by
 have h1:=(y5 he.h).1;have h2:=(y5 he.h).2.1;have h3:=(y5 he.h).2.2.1;have h4:=(y5 he.h).2.2.2;have hr:=run_make (P:=P) t.w q e _ z1 ht.1 h1 h2 .i64 .i64 m m aTZ (aQK _) (by rw[h4];have:(bytes:Int)*(m:Int)≤1000*1000000:=Int.mul_le_mul aTZ aTZ aTZ aTZ;omega) aTZ;unfold Oper.wp
 have e2:madeCells z1.cells (m*1)=(List.replicate m z1).toArray:=by
  rw[hz,Nat.mul_one];apply Array.ext';simp[madeCells,Nat.mod_one];rw[List.map_const', aRY]
 have:(execOp a.eval ⟨d,.makeSlice q x y,ty,pos,af,gu⟩).run P t.w=.ok (.value (.slice (some ⟨t.w.heap.size,0,none⟩) m m)) (t.alloc (List.replicate m z1) e gt).w:=by
  simp only[aQP,h3]at hr;rw[e2]at hr;simp only[execOp,ha.ev hi,ha.ev hj,Sem.run_bind,hr,Result.andThen_ok,Sem.run_pure];rfl
 rw[this];exact hk _ _ (hs.trans (t.alloc_step _ e gt).no) (QL hs _ e gt fun b=>.slice (some ⟨b,0,none⟩) m m)
theorem Ve {f:FuncId} {s:Nat} {tt:TypeId} {u:Value} {name:String} {xs:List Operand} {vs:List Value} {ts:Array TypeId} {T:bB→Prop} {Φ:Value→TW→Prop} (hc:lk E s=some (.iface tt u)) (hx:evs E xs=some vs)
  (hm:∀w,(method (P.types.size+Made.depth) tt u name).run P w=.ok (f,u) w) (hf:aO f) (h:aL f (u::vs) t T Φ) (hT:∀q,T q→c.T q) :
  Ef c ⟨d,.call { callee:=.invoke (.tmp s) name,args:=xs.toArray,argTypes:=ts },ty,pos,af,gu⟩ E t (fun v t' => bQ T t t' ∧ Φ v t'):=.mk fun hs a ha K Q hk=>by
 unfold Oper.wp;have rK:=ha.ev (x:=.tmp s) hc
 have:(execOp a.eval ⟨d,.call { callee:=.invoke (.tmp s) name,args:=xs.toArray,argTypes:=ts },ty,pos,af,gu⟩).run P t.w=.ok (.enter f (u::vs).toArray) t.w:=by
  have e0:(#[Value.iface tt u]++vs.toArray)[0]?=some (.iface tt u):=by simp
  have e1:(#[Value.iface tt u]++vs.toArray).extract 1 (#[Value.iface tt u]++vs.toArray).size=vs.toArray:=by
   apply Array.ext';simp
  have e2:(#[u]++vs.toArray)=(u::vs).toArray:=by simp
  have e3:(callMethod (.iface tt u) name vs.toArray).run P t.w=.ok (.enter f (u::vs).toArray) t.w:=by
   simp only[callMethod,Sem.run_bind,run_program,Result.andThen_ok,hm,e2];exact hf _ _
  simp only[execOp,resolve,rK,invoke,aRP,ha.evs hx,Sem.run_bind,Sem.run_pure,Result.andThen_ok,e0,e1,e3]
 rw[this];refine Calls.mono h fun e w' hh=>?_;obtain⟨v,own', rfl,fM, hp⟩:=hh;exact hk v ⟨w', own'⟩ (hs.trans (fM.mono hT)) ⟨fM, hp⟩
end
theorem Jb (a b:ByteArray):(a == b)=decide (a=b):=by
 rw[Bool.eq_iff_iff,decide_eq_true_eq];show (a.data == b.data)=true↔_;rw[beq_iff_eq];exact⟨ByteArray.ext,fun h=>by rw[h]⟩
theorem aGW {kt:TypeId} (h:P.underlying kt=some .string):E6 kt (fun s:ByteArray=>Value.string s) .string:=by
 have h1:∀em a w k,(Instr.checkKey em (k+1) kt (.string a)).run P w=.ok () w:=fun em a w k=>by simp only[Instr.checkKey,Sem.run_bind,iE h,Result.andThen_ok,Sem.run_pure]
 exact⟨h,fun a b=>by simp only[Instr.sameNow,Jb],fun em a w=>h1 em a w 9999,fun a=>by show (a == a)=true;rw[Jb];simp⟩
theorem aGV {kt:TypeId} {q:IntKind} (h:P.underlying kt=some (.int q)):E6 kt (fun i:Int=>Value.int q i) (.int q):=by
 have h1:∀em a w k,(Instr.checkKey em (k+1) kt (.int q a)).run P w=.ok () w:=fun em a w k=>by simp only[Instr.checkKey,Sem.run_bind,iE h,Result.andThen_ok,Sem.run_pure]
 exact⟨h,fun a b=>by simp[Instr.sameNow];rfl,fun em a w=>h1 em a w 9999,fun a=>by show (q == q&&a == a)=true;simp⟩
abbrev eO:=List (ByteArray × Unit)
def kC (m:eO) (u:ByteArray):Bool:=(tQ m u).isSome
def BB (m:eO) (u:ByteArray) (on:Bool):eO:=if on=true then lP m u () else wD m u
inductive fD where
 | bad|shut|look|watch
 | lock (s:Nat)
 | unlock (s:Nat)
 | drain (s:Nat)
 | last (s:Nat)
structure dG where
 who:Nat
 op:dE
 s:Nat
 n:Nat
 acts:List fD
 at_:Nat
 time:mZ
 placed:Int
 err:Int
 lost:Bool
 events:List cI
 all:List (List cI)
def D9:fD→Int
 | .lock s=>(s:Int)
 | _=>-1
def qF (p:dG):Bool:=decide (p.op.kind=6)
def l6 (x:dE) (s n:Nat):List fD:=
 if dH x=true then [.bad]
 else if x.kind=8 then (List.range n).map .lock++[.look]++(List.range n).map .drain++(List.range n).map .last
 else if x.kind=9 then [.shut]
 else [.lock s,.look,.watch,.unlock s]
def kT (who:Nat) (x:dE) (s n:Nat):dG:=⟨who,x,s,n,l6 x s n,0,DH,-1,0,false,[],if dH x=false∧x.kind=8 then List.replicate n [] else []⟩
def eF (h:bF) (m:eO) (p:dG):fD→bF × eO × dG × Bool
 | .bad=>(h,m,{ p with err:=1 },true)
 | .shut=>(S2 h p.who,m,{ p with err:=if h.time.closed=true then 5 else p.err },true)
 | .look=>(K8 h p.who,m,{ p with time:=h.time },true)
 | .watch=>
  if p.time.closed=true then (h,m,{ p with err:=5 },false)
  else if qF p=true∧kC m p.op.user=false∧h.cfg.watches≤(m.length:Int) then (h,m,{ p with err:=4 },false)
  else (N3 h p.who p.s p.op.user (qF p),BB m p.op.user (qF p),p,false)
 | .lock s=>((jC h p.who s).1,m,p,false)
 | .unlock s=>((jE h p.who s).1,m,p,false)
 | .drain s=>(B9 h p.who s,m,{ p with all:=p.all.set s ((h.feed s).q p.who).l,lost:=p.lost||((h.feed s).q p.who).lost },false)
 | .last s=>((jE h p.who s).1,m,{ p with events:=if (s:Int)=(p.n:Int)-1 then tM p.all else p.events },false)
def rL (p:dG):Bool:=decide (p.acts.length≤p.at_)
def tW (p:dG):Int:=match p.acts[p.at_]? with
 | some a=>D9 a
 | none=>-1
def oJ (h:bF) (p:dG):Bool:=!rL p&&(decide (tW p<0)||SZ h (tW p).toNat)
def fR (h:bF) (m:eO) (p:dG) (pos:Int):bF × eO × dG:=
 if oJ h p=false then (h,m,p)
 else match p.acts[p.at_]? with
  | none=>(h,m,p)
  | some a=>
   let r:=eF h m p a
   (r.1,r.2.1,{ r.2.2.1 with placed:=if r.2.2.2=true then pos else r.2.2.1.placed,at_:=p.at_+1 })
structure cL where
 who:Nat
 users:List ByteArray
 of_:Int
 stripes:List Int
 phase:Nat
 at_:Nat
 tries:Int
 epochs:List Int
 valid:Bool
 spent:Bool
 seen:List (Int × dV)
 time:mZ
 looked:Int
 placed:Int
 err:Int
 values:List q7
def GJ (p:cL):cL:={ p with phase:=0,at_:=0,epochs:=List.replicate p.stripes.length 0,valid:=true,spent:=false,seen:=[] }
def jB (x:dE):List ByteArray:=if dH x=true then [] else zS x
def VA (who:Nat) (x:dE) (n tries:Int):cL:=GJ ⟨who,jB x,n,r5 (jB x) n,0,0,tries,[],false,false,[],DH,0,-1,0,[]⟩
def uL (p:cL):Int:=if p.phase=4 then p.stripes.getD p.at_ (-1) else -1
def uH (h:bF) (p:cL):Bool:=!decide (p.phase=8)&&(decide (uL p<0)||SZ h (uL p).toNat)
def aJP (p:cL) (u:ByteArray):dV:=(tQ p.seen (eZ u p.of_)).getD uE
def fT (p:cL) (u:ByteArray):q7:=dU (d9 (aJP p u) u).sessions p.time.now
def f8 (p:cL):cL:=if p.time.closed=true then { p with placed:=p.looked,err:=5,values:=[] } else { p with placed:=p.looked,values:=p.values++p.users.map (fT p) }
def fB (p:cL) (ph:Nat):cL × Bool:=if p.at_+1<p.stripes.length then ({ p with at_:=p.at_+1 },false) else ({ p with phase:=ph,at_:=0 },true)
def oR (p:cL):cL:=
 if p.time.closed=true∨p.valid=true then { f8 p with phase:=8 }
 else if p.spent=true∨p.tries=0 then { p with phase:=4 }
 else GJ { p with tries:=p.tries-1 }
def rS (p:cL):Nat:=(p.stripes.getD p.at_ 0).toNat
def Qd (h:bF) (p:cL):bF × cL:=
 (SY h p.who (rS p),(fB { p with epochs:=p.epochs.set p.at_ (aR h (rS p)).cv,spent:=p.spent||decide (gX h.cfg.epochs≤(aR h (rS p)).cv) } 1).1)
def Qe (h:bF) (p:cL):bF × cL:=(Z0 h p.who (rS p),(fB { p with seen:=lP p.seen (rS p:Int) (aR h (rS p)).snap } 2).1)
def oQ (h:bF) (p:cL) (pos:Int):bF × cL:=(K8 h p.who,{ p with time:=h.time,looked:=pos,phase:=p.phase+1,placed:=if p.phase+1=6 then pos else p.placed })
def I4 (h:bF) (p:cL):bF × cL:=
 let p1:={ p with valid:=p.valid&&decide (p.epochs.getD p.at_ 0=(aR h (rS p)).cv∧p.epochs.getD p.at_ 0%2=0∧p.epochs.getD p.at_ 0<gX h.cfg.epochs) }
 (SY h p.who (rS p),if (fB p1 8).2=true then oR (fB p1 8).1 else (fB p1 8).1)
def Qf (h:bF) (p:cL):bF × cL:=((jC h p.who (rS p)).1,(fB p 5).1)
def Qg (h:bF) (p:cL):bF × cL:=(ZV h p.who (rS p),(fB { p with seen:=lP p.seen (rS p:Int) (aR h (rS p)).book } 7).1)
def I5 (h:bF) (p:cL):bF × cL:=((jE h p.who (rS p)).1,if (fB p 8).2=true then f8 (fB p 8).1 else (fB p 8).1)
def iO (h:bF) (p:cL) (pos:Int):bF × cL:=
 match p.phase with
 | 0=>Qd h p
 | 1=>Qe h p
 | 2=>oQ h p pos
 | 3=>I4 h p
 | 4=>Qf h p
 | 5=>oQ h p pos
 | 6=>Qg h p
 | 7=>I5 h p
 | _=>(h,p)
def jR (h:bF) (p:cL) (pos:Int):bF × cL:=
 if uH h p=false then (h,p)
 else if p.stripes=[] then (h,{ p with err:=1,values:=[],placed:=pos,phase:=8 })
 else iO h p pos
def zB (p:cL):sA:=if p.phase=8 then ⟨p.err,p.values,[],false⟩ else ⟨0,[],[],false⟩
structure tL where
 stripe:Nat
 rounds:Int
 now:fE
def zO (s:Nat):fE:=⟨8,s,.sw,0,DH,-1,0⟩
def xY (p:tL) (n:Int):Nat:=if (p.stripe:Int)+1=n then 0 else p.stripe+1
def xZ (p:tL) (n:Int):Int:=if (p.stripe:Int)+1=n then p.rounds+1 else p.rounds
def pM (h:bF) (p:tL) (pos:Int):bF × tL × Bool:=
 let r:=dQ h p.now pos
 if lC r.2=true then (r.1,⟨xY p r.1.cfg.stripes,xZ p r.1.cfg.stripes,zO (xY p r.1.cfg.stripes)⟩,true) else (r.1,{ p with now:=r.2 },false)
def xC (c:cY):eN:=⟨[],[],fun _=>⟨c.queue,[],false⟩⟩
def wX (c:cY) (fp:Nat):oY:=⟨0,0,gX c.epochs,uE,uE,fp⟩
def pZ (c:cY) (fp:Nat→Nat) (k:Nat):List oY:=(List.range k).map fun i=>wX c (fp i)
def sH (c:cY) (fp:Nat→Nat):bF:=⟨c,⟨c.start,0,false⟩,pZ c fp c.stripes.toNat,[],fun _=>xC c⟩
def rQ (users:List ByteArray) (n:Int) (k:Nat) (i:Nat):Bool:=(users.take k).any fun u=>decide (eZ u n=(i:Int))
def xW (f:Nat→Bool) (k:Nat):List Int:=((List.range k).filter f).map fun (s:Nat)=>(s:Int)
theorem Fv (f:Nat→Bool) (k:Nat):xW f (k+1)=if f k=true then xW f k++[(k:Int)] else xW f k:=by
 unfold xW;rw[aS7,aSM,aR9];by_cases h:f k=true
 ·rw[if_pos h,aSN h];rfl
 rw[if_neg h,aSD aU7];simp
theorem Se (f:Nat→Bool):∀k,(xW f k).length≤k
 | 0=>by simp[xW]
 | k+1=>by
  rw[Fv];have:=Se f k;split
  ·simp only[aQE,aQH,aQO];omega
  ·omega
theorem Nr {users:List ByteArray} {n:Int} {k:Nat} (h:k<users.length) (i:Nat):rQ users n (k+1) i=(rQ users n k i||decide (eZ users[k] n=(i:Int))):=by
 unfold rQ;rw[aQY h,List.any_append];simp
theorem aNV (c:cY) (fp:Nat→Nat) (b k:Nat):pZ c (fun i=>if i=k then b else fp i) (k+1)=pZ c fp k++[wX c b]:=by
 unfold pZ;rw[aS7,aR9];congr 1
 ·apply List.map_congr_left;intro i hi;have:=aRZ.1 hi;show wX c (if i=k then b else fp i)=_;rw[if_neg aTZ]
 simp
def xJ (p:dG):sA:=if rL p=true then ⟨p.err,[],p.events,p.lost⟩ else ⟨0,[],[],false⟩
inductive fP where
 | w (p:fE)
 | r (p:cL)
 | d (p:dG)
def PH:fP→Int
 | .w p=>E3 p
 | .r p=>uL p
 | .d p=>tW p
def BD (h:bF):fP→Bool
 | .w p=>j6 h p
 | .r p=>uH h p
 | .d p=>oJ h p
def fC (h:bF) (m:eO) (pos:Int):fP→bF × eO × fP
 | .w p=>((dQ h p pos).1,m,.w (dQ h p pos).2)
 | .r p=>((jR h p pos).1,m,.r (jR h p pos).2)
 | .d p=>((fR h m p pos).1,(fR h m p pos).2.1,.d (fR h m p pos).2.2)
def rV:fP→Bool
 | .w p=>lC p
 | .r p=>decide (p.phase=8)
 | .d p=>rL p
def tB:fP→Int
 | .w p=>p.placed
 | .r p=>p.placed
 | .d p=>p.placed
def BE:fP→sA
 | .w p=>⟨if lC p=true then p.err else 0,[],[],false⟩
 | .r p=>zB p
 | .d p=>xJ p
structure eM where
 ops:List dE
 at_:Nat
 mine:eO
 now:Option fP
 call:Int
structure bL where
 who:Int
 nth:Int
 op:dE
 stripe:Int
 by_:Int
 began:Int
 placed:Int
 ended:Int
 reply:sA
structure cM where
 h:bF
 clients:List eM
 sw:tL
 sweep:Int
 n:Int
 ticks:Int
 sweeps:Int
 calls:List bL
def fA:dE:=⟨0,⟨#[]⟩,0,0,0,0,[]⟩
def gA:sA:=⟨0,[],[],false⟩
def lA (h:bF) (who:Nat) (x:dE):fP:=
 if x.kind=1∨x.kind=2∨x.kind=3 then .w (GQ who (eZ x.user h.cfg.stripes).toNat x)
 else if x.kind=4∨x.kind=5 then .r (VA who x h.cfg.stripes h.cfg.retries)
 else .d (kT who x (eZ x.user h.cfg.stripes).toNat h.cfg.stripes.toNat)
def nL (r:cM) (c:bL):bL:={ c with began:=r.n,placed:=-1,ended:=-1 }
def jH (r:cM) (c:bL):cM:={ r with calls:=r.calls++[nL r c] }
def rW (r:cM) (i:Nat) (c:eM):cM:={ r with clients:=r.clients.set i c }
def GI (r:cM) (i:Nat) (c:eM) (x:dE):cM × eM:=
 (jH r ⟨i,c.at_,x,0,0,0,0,0,gA⟩,{ c with now:=some (lA r.h i x),call:=r.calls.length,at_:=c.at_+1 })
def iR (c:bL) (n:Int) (p:fP):bL:=
 if rV p=true then { c with placed:=tB p,ended:=n,reply:=BE p } else { c with placed:=tB p }
def w9 (c:bL) (x:Int):bL:={ c with placed:=x }
def FG (c:bL) (x:Int):bL:={ c with ended:=x }
def Jc (c:bL) (x:sA):bL:={ c with reply:=x }
def oS (r:cM) (i:Nat) (c:eM) (p:fP):cM:=
 let q:=fC r.h c.mine r.n p
 rW { r with h:=q.1,calls:=r.calls.modify c.call.toNat fun x=>iR x r.n q.2.2 } i { c with mine:=q.2.1,now:=if rV q.2.2=true then none else some q.2.2 }
def n6 (c:eM):Bool:=c.now.isNone&&decide ((c.at_:Int)<(c.ops.length:Int))
def fI (r:cM) (i:Nat) (c:eM):cM × eM:=if n6 c=true then GI r i c (c.ops.getD c.at_ fA) else (r,c)
def oZ (r:cM) (who:Int):cM × Bool:=
 if who<0∨(r.clients.length:Int)≤who then (r,false)
 else match r.clients[who.toNat]? with
  | none=>(r,false)
  | some c=>match (fI r who.toNat c).2.now with
   | none=>(rW (fI r who.toNat c).1 who.toNat (fI r who.toNat c).2,n6 c)
   | some p=>if BD r.h p=false then (rW (fI r who.toNat c).1 who.toNat (fI r who.toNat c).2,n6 c) else (oS (fI r who.toNat c).1 who.toNat (fI r who.toNat c).2 p,true)
def ET (r:cM):Bool:=r.clients.all fun c=>match c.now with
 | none=>true
 | some p=>!decide (PH p=(r.sw.stripe:Int))
def eU (r:cM):cM:=if r.sweep<0 then { jH r ⟨8,r.sweeps,fA,r.sw.stripe,0,0,0,0,gA⟩with sweep:=r.calls.length,sweeps:=r.sweeps+1 } else r
def wU (r:cM):cM:=
 let q:=pM r.h r.sw r.n
 if q.2.2=true then { r with h:=q.1,sw:=q.2.1,sweep:=-1,calls:=r.calls.modify r.sweep.toNat fun x=>{ x with ended:=r.n } }
 else { r with h:=q.1,sw:=q.2.1,calls:=r.calls.modify r.sweep.toNat fun x=>{ x with placed:=q.2.1.now.placed } }
def uO (r:cM):cM × Bool:=
 if j6 r.h r.sw.now=false∨(r.sweep<0∧ET r=false) then (r,false) else (wU (eU r),true)
def xU (r:cM) (by_:Int):cM:=
 { r with calls:=r.calls++[⟨9,r.ticks,fA,0,by_,r.n,r.n,r.n,gA⟩],ticks:=r.ticks+1,h:=ZT r.h 9 by_ }
def JF (r:cM) (p:z5):cM × Bool:=
 let q:=if p.kind=0 then oZ r p.who else if p.kind=1 then uO r else if p.kind=2 then (xU r p.by_,true) else (r,false)
 ({ q.1 with n:=q.1.n+1 },q.2)
def zG (s:iI) (fp:Nat→Nat):cM:=⟨sH s.cfg fp,s.clients.map fun l=>⟨l,0,[],none,-1⟩,⟨0,0,zO 0⟩,-1,0,0,0,[]⟩
def iY (s:iI) (fp:Nat→Nat) (k:Nat):cM:=(s.picks.take k).foldl (fun r p=>(JF r p).1) (zG s fp)
def p5 (b:dV) (k:Nat):Prop:=KS b.keys∧pN b k k
theorem p5.mono {b:dV} {k k' : Nat} (h:p5 b k) (hk:k≤k'):p5 b k' := ⟨h.1,h.2.mono hk hk⟩
theorem M7 (k:Nat):p5 uE k:=⟨aQ4,rfl,aQC _,fun e h=>by simp[uE]at h⟩
theorem aIB (l:List bT) (x:dE) (now most:Int):(vM l x now most).1.length≤l.length+1:=by
 unfold vM qW uN rZ;split
 ·split
  ·simp
  split
  ·exact aQI _
  have:=SK l x.id;simp only[aQE,aQD,aQH,aQT];omega
 split
 ·split
  ·simp only;split<;>simp
  exact aQI _
 split
 ·split
  ·simp only[aSF];split<;>omega
  exact aQI _
 exact aQI _
theorem p5.get {b:dV} {k:Nat} (h:p5 b k) (u:ByteArray):(d9 b u).sessions.length≤k:=by
 unfold d9 lL;split
 ·cases hq:b.vals[(cH b.keys u).1]? with
  | none=>exact aQC _
  | some e=>exact h.2.2.2 e (aQL hq)
 exact aQC _
theorem p5.write {b:dV} {k:Nat} (h:p5 b k) (x:dE) (now most:Int):p5 (f6 b x now most).1 (k+1):=by
 unfold f6;refine⟨Gh h.1 _ _ _,Ss (h.2.mono (aP9 _) (aQI _)) _ ?_ _⟩;refine aP8 (aIB _ _ _ _) (Nat.succ_le_succ (aP8 (aRA _ _) (h.get _)))
theorem p5.sweep {b:dV} {k:Nat} (h:p5 b k) (now:Int):p5 (f5 b now).1 k:=by
 obtain⟨g1,g2⟩:=Wq h.1 h.2.1 now;have:=(VX h.2 now b.keys.length).1;rw[PY now (aP9 _)]at this;exact⟨g1,this.1,aP8 g2 h.2.2.1,this.2.2⟩
theorem V2 {a b:Int} (h0:0≤a) (h1:a≤18446744073709551615) (hb:0≤b):0≤d8 a b∧d8 a b≤18446744073709551615:=by
 unfold d8;split<;>constructor<;>omega
def QI (q:Nat→iD) (room:Int):Prop:=∀i,(q i).room=room∧((q i).l.length:Int)≤room
theorem QI.put {q:Nat→iD} {room:Int} (h:QI q room) (k:Nat) (x:cI):QI (tE q k (pK (q k) x)) room:=fun i=>by
 unfold tE;split
 ·unfold pK;have:=h k;split
  ·exact this
  ·refine⟨this.1,?_⟩;simp only[aQE,aQH,aQO];omega
 ·exact h i
theorem QI.one {f:eN} {c:gB} {seq room:Int} {q:Nat→iD} (h:QI q room) (w:Nat):QI (JL f c seq q w) room:=by
 unfold JL;split
 ·exact h.put w _
 exact h
theorem QP {α:Type} {room:Int} (g:(Nat→iD)→α→Nat→iD) (hg:∀q a,QI q room→QI (g q a) room):∀(l:List α) (q:Nat→iD),QI q room→QI (l.foldl g q) room
 | [],_,h=>h
 | a::l,q,h=>QP g hg l _ (hg q a h)
theorem QI.tell {f:eN} {room:Int} (h:QI f.q room) (l:List gB) (seq:Int):QI (l2 f l seq).q room:=by
 unfold l2;refine QP _ (fun q c h=>?_) l _ h;unfold vS r7;exact QP _ (fun q w h=>QI.one h w) _ _ h
theorem QI.drain {f:eN} {room:Int} (hr:0≤room) (h:QI f.q room) (who:Nat):QI (xA f who).q room:=fun i=>by
 unfold xA tE;simp only;split
 ·exact⟨(h who).1,by simpa[MC]using hr⟩
 ·exact h i
theorem Ou (ks:List ByteArray) (k:ByteArray):(gG ks k).length≤ks.length+1:=by
 unfold gG;split
 ·exact aQI _
 have:=B6 ks k;simp only[aQE,aQD,aQH,aQT];omega
theorem aC2 (f:eN) (who:Int) (u:ByteArray):(m6 f who u).ks.length≤f.ks.length+1:=by
 unfold m6;split
 ·exact aQI _
 split
 ·exact aP8 (Oq _ _) (aQI _)
 exact Ou _ _
theorem aC3 (f:eN) (who:Int) (u:ByteArray):(oD f who u).ks.length≤f.ks.length+1:=by
 unfold oD;split
 ·exact aQI _
 exact Ou _ _
theorem YM (f:eN) (who:Int) (u:ByteArray):(m6 f who u).q=f.q:=by
 unfold m6;split
 ·rfl
 split<;>rfl
theorem YN (f:eN) (who:Int) (u:ByteArray):(oD f who u).q=f.q:=by
 unfold oD;split<;>rfl
structure J3 (x:oY) (k:Nat):Prop where
 l0:0≤x.latch∧x.latch≤9
 c0:0≤x.cv∧x.cv≤(k:Int)
 bk:p5 x.book k
 sn:p5 x.snap k
theorem J3.mono {x:oY} {k k' : Nat} (h:J3 x k) (hk:k≤k'):J3 x k' := ⟨h.l0,⟨h.c0.1,by have:=h.c0.2;omega⟩,h.bk.mono hk,h.sn.mono hk⟩
structure HI (c:cY) (h:bF) (k:Nat):Prop where
 cfg:h.cfg=c
 len:(h.strs.length:Int)=c.stripes
 al:h.acts.length≤2*k
 tn:0≤h.time.now∧h.time.now≤18446744073709551615
 sq:0≤h.time.seq∧h.time.seq≤18446744073709551615
 st:∀s,J3 (aR h s) k
 fk:∀s,(h.feed s).ks.length≤k
 fq:∀s,QI (h.feed s).q c.queue
theorem HI.mono {c:cY} {h:bF} {k k' : Nat} (g:HI c h k) (hk:k≤k'):HI c h k' := ⟨g.cfg,g.len,by have:=g.al;omega,g.tn,g.sq,fun s=>(g.st s).mono hk,fun s=>aP8 (g.fk s) hk,g.fq⟩
theorem HI.did {c:cY} {h:bF} {k:Nat} (g:HI c h k) (who kind place:Int):HI c (dM h who kind place) (k+1):=
 ⟨g.cfg,g.len,by have:=g.al;simp only[dM,aQE,aQH,aQO];omega,g.tn,g.sq,fun s=>(g.st s).mono (aQI _),fun s=>aTI (g.fk s),g.fq⟩
theorem Mh (h:bF) (s:Nat) (x:oY) (i:Nat):aR (gP h s x) i=x∨aR (gP h s x) i=aR h i:=by
 unfold aR gP;simp only;by_cases e:i=s
 ·subst e;by_cases hi:i<h.strs.length
  ·left;rw[aQQ,aQ8 hi];rfl
  right;rw[aQQ,aQQ,aRJ (by rw[aQZ];omega),aRJ aTZ]
 right;rw[aQQ,aRN (fun h=>e h.symm),←aQQ]
theorem HI.set {c:cY} {h:bF} {k:Nat} (g:HI c h k) (s:Nat) {x:oY} (hx:J3 x k):HI c (gP h s x) k:=
 ⟨g.cfg,by show ((h.strs.set s x).length:Int)=_;rw[aQZ];exact g.len,g.al,g.tn,g.sq,fun i=>by
  rcases Mh h s x i with e|e<;>rw[e]
  ·exact hx
  ·exact g.st i,g.fk,g.fq⟩
variable {c:cY} {h:bF} {k:Nat}
theorem HI.look (g:HI c h k) (who:Int):HI c (K8 h who) (k+1):=g.did _ _ _
theorem HI.take (g:HI c h k) (who:Int):HI c (pR h who) (k+1):=⟨(g.did who 4 0).cfg,(g.did who 4 0).len,(g.did who 4 0).al,g.tn,V2 g.sq.1 g.sq.2 aT0,(g.did who 4 0).st,(g.did who 4 0).fk,g.fq⟩
theorem HI.pass (g:HI c h k) (who:Int) {by_:Int} (hb:0≤by_):HI c (ZT h who by_) (k+1):=⟨(g.did who 4 0).cfg,(g.did who 4 0).len,(g.did who 4 0).al,V2 g.tn.1 g.tn.2 hb,g.sq,(g.did who 4 0).st,(g.did who 4 0).fk,g.fq⟩
theorem HI.shut (g:HI c h k) (who:Int):HI c (S2 h who) (k+1):=⟨(g.did who 4 0).cfg,(g.did who 4 0).len,(g.did who 4 0).al,g.tn,g.sq,(g.did who 4 0).st,(g.did who 4 0).fk,g.fq⟩
theorem HI.lock (g:HI c h k) {who:Int} (hw:who≤8) (s:Nat):HI c (jC h who s).1 (k+1):=by
 unfold jC;split
 ·rename_i ht;refine (g.did _ _ _).set s ?_;have:=(g.st s).mono (aQI k);refine⟨?_,this.c0,this.bk,this.sn⟩;unfold pX at ht ⊢;split at ht
  ·cases ht
  rename_i hn;rw[if_neg hn];constructor
  ·show 0≤who+1;omega
  show who+1≤9;omega
 exact g.mono (aQI _)
theorem HI.unlock (g:HI c h k) (who:Int) (s:Nat):HI c (jE h who s).1 (k+1):=by
 unfold jE;split
 ·rename_i ht;refine (g.did _ _ _).set s ?_;have:=(g.st s).mono (aQI k);refine⟨?_,this.c0,this.bk,this.sn⟩;unfold pW at ht ⊢;split at ht
  ·cases ht
  rename_i hn;rw[if_neg hn];exact⟨aQK _,by show (0:Int)≤9;decide⟩
 exact g.mono (aQI _)
theorem HI.epoch (g:HI c h k) (who:Int) (s:Nat):HI c (SY h who s) (k+1):=g.did _ _ _
theorem HI.snap (g:HI c h k) (who:Int) (s:Nat):HI c (Z0 h who s) (k+1):=g.did _ _ _
theorem HI.read (g:HI c h k) (who:Int) (s:Nat):HI c (ZV h who s) (k+1):=g.did _ _ _
theorem HI.begin_ (g:HI c h k) (who:Int) (s:Nat):HI c (SU h who s) (k+1):=by
 refine (g.did _ _ _).set s ?_;have:=(g.st s).mono (aQI k);refine⟨this.l0,?_,this.bk,this.sn⟩;have hc:=(g.st s).c0;show 0≤BU _ _∧BU _ _≤_;unfold BU;split<;>constructor<;>omega
theorem HI.end_ (g:HI c h k) (who:Int) (s:Nat):HI c (SX h who s) (k+1):=by
 refine (g.did _ _ _).set s ?_;have:=(g.st s).mono (aQI k);refine⟨this.l0,?_,this.bk,this.sn⟩;have hc:=(g.st s).c0;show 0≤DS _∧DS _≤_;unfold DS;split<;>constructor<;>omega
theorem HI.publish (g:HI c h k) (who:Int) (s:Nat):HI c (S1 h who s) (k+1):=by
 have g2:HI c (dM (dM h who 1 (eE s 4)) who 4 (eE s 3)) (k+1):=
  ⟨g.cfg,g.len,by have:=g.al;simp only[dM,aQE,aQH,aQO];omega,g.tn,g.sq,fun s=>(g.st s).mono (aQI _),fun s=>aTI (g.fk s),g.fq⟩
 refine g2.set s ?_;have:=(g.st s).mono (aQI k);exact⟨this.l0,this.c0,this.bk,this.bk⟩
theorem HI.feed_ (g:HI c h k) (s:Nat) {f:eN} (h1:f.ks.length≤k) (h2:QI f.q c.queue):HI c { h with feed:=iK h.feed s f } k:=
 ⟨g.cfg,g.len,g.al,g.tn,g.sq,g.st,fun i=>by show (iK h.feed s f i).ks.length≤k;unfold iK;split;exact h1;exact g.fk i,fun i=>by show QI (iK h.feed s f i).q _;unfold iK;split;exact h2;exact g.fq i⟩
theorem HI.drain (g:HI c h k) (hq:0≤c.queue) (who s:Nat):HI c (B9 h who s) (k+1):=
 (g.did _ _ _).feed_ s (aTI (g.fk s)) ((g.fq s).drain hq who)
theorem HI.watch (g:HI c h k) (who:Int) (s:Nat) (u:ByteArray) (on:Bool):HI c (N3 h who s u on) (k+1):=by
 refine (g.did _ _ _).feed_ s ?_ ?_
 ·have:=g.fk s;cases on
  ·exact aP8 (aC2 _ _ _) (Nat.succ_le_succ this)
  exact aP8 (aC3 _ _ _) (Nat.succ_le_succ this)
 cases on
 ·show QI (m6 _ _ _).q _;rw[YM];exact g.fq s
 show QI (oD _ _ _).q _;rw[YN];exact g.fq s
theorem HI.write (g:HI c h k) (who:Int) (s:Nat) (x:dE) (t:mZ):HI c (k7 h who s x t).1 (k+1):=by
 unfold k7;split
 ·exact g.did _ _ _
 have hs:=(g.st s).mono (aQI k);exact ((g.did who 2 (eE s 4)).set s (x:={ aR h s with book:=(f6 (aR h s).book x t.now h.cfg.sessions).1 }) ⟨hs.l0,hs.c0,(g.st s).bk.write _ _ _,hs.sn⟩).feed_ s (f:=l2 (h.feed s) _ t.seq) (aTI (g.fk s)) ((g.fq s).tell _ _)
theorem HI.sweep (g:HI c h k) (who:Int) (s:Nat) (t:mZ):HI c (HT h who s t) (k+1):=by
 have hs:=(g.st s).mono (aQI k);exact ((g.did who 2 (eE s 4)).set s (x:={ aR h s with book:=(f5 (aR h s).book t.now).1 }) ⟨hs.l0,hs.c0,hs.bk.sweep _,hs.sn⟩).feed_ s (f:=l2 (h.feed s) _ t.seq) (aTI (g.fk s)) ((g.fq s).tell _ _)
theorem aM7 {s:ByteArray} (h:¬s=⟨#[]⟩):¬s.size=0:=fun e=>h (ByteArray.ext (Array.eq_empty_of_size_eq_zero e))
theorem BO.mul {i j:Int} {t:TypeId} (h0:-9223372036854775808≤i*j) (h1:i*j≤9223372036854775807):BO .mul t (O i) (O j) (O (i*j)):=by
 have:=WH (k:=.i64) (i:=i) (j:=j) (t:=t)
 rwa [JM h0 h1]at this
theorem J4 {v:Int} (h0:0≤v) (h1:v≤18446744073709551615):M4 .u64 v 1=v%2:=by
 obtain⟨n,rfl⟩:=aRS h0
 have e:(BitVec.ofInt 64 (n:Int) &&& BitVec.ofInt 64 1).toNat=n%2:=by
  rw[BitVec.toNat_and]
  have h2:(BitVec.ofInt 64 (n:Int)).toNat=n:=by
   rw[BitVec.toNat_ofInt];omega
  have h3:(BitVec.ofInt 64 1).toNat=1:=Z;rw[h2,h3,Nat.and_one_is_mod]
 show IntKind.u64.wrap ((BitVec.ofInt 64 (n:Int) &&& BitVec.ofInt 64 1).toNat:Int)=_;rw[e,JN aTZ aTZ];rfl
theorem LY {v:Int} (h0:0≤v) (h1:v≤18446744073709551615):BS .u64 v 1=gX v:=by
 obtain⟨n,rfl⟩:=aRS h0
 have h2:(BitVec.ofInt 64 (n:Int)).toNat=n:=by
  rw[BitVec.toNat_ofInt];omega
 have e:(BitVec.ofInt 64 (n:Int) &&& ~~~(BitVec.ofInt 64 1)).toNat=n-n%2:=by
  have hx:BitVec.ofInt 64 (n:Int)=BitVec.ofNat 64 n:=by
   apply BitVec.eq_of_toNat_eq;rw[h2,BitVec.toNat_ofNat];omega
  have key:∀x:BitVec 64,x &&& ~~~(BitVec.ofInt 64 1)=x-(x &&& 1#64):=by
   intro x
   have h3:(x &&& ~~~(1#64))+(x &&& 1#64)=x:=by
    rw[BitVec.add_eq_or_of_and_eq_zero]
    ·apply BitVec.eq_of_getLsbD_eq;intro i hi;simp only[BitVec.getLsbD_or,BitVec.getLsbD_and,BitVec.getLsbD_not];cases x.getLsbD i<;>cases (1#64).getLsbD i<;>simp[hi]
    apply BitVec.eq_of_getLsbD_eq;intro i hi;simp only[BitVec.getLsbD_and,BitVec.getLsbD_not];cases x.getLsbD i<;>cases (1#64).getLsbD i<;>simp
   have h4:BitVec.ofInt 64 1=1#64:=Z;rw[h4,BitVec.eq_sub_iff_add_eq];exact h3
  rw[key,hx]
  have h5:(BitVec.ofNat 64 n &&& 1#64).toNat=n%2:=by
   rw[BitVec.toNat_and,BitVec.toNat_ofNat]
   have:n%2^64=n:=by omega
   rw[this];show n &&& 1=n%2;exact Nat.and_one_is_mod n
  have h6:(BitVec.ofNat 64 n).toNat=n:=by
   rw[BitVec.toNat_ofNat];omega
  rw[BitVec.toNat_sub,h5,h6];omega
 show IntKind.u64.wrap ((BitVec.ofInt 64 (n:Int) &&& ~~~(BitVec.ofInt 64 1)).toNat:Int)=_;rw[e,JN aTZ aTZ];unfold gX;omega
theorem Hi (a b:Int) (t:TW) (h0:0≤a) (h1:a≤18446744073709551615) (h2:0≤b) (h3:b≤18446744073709551615):aL 104 [U a,U b] t No (fun v _=>v=U (d8 a b)):=by
 refine bG func104 Z ntmps104<|aD<|WL.a Z<|aB<|WC.seq<|aD<|WL.m Z<|WL.m Z<|aA (aN Z Z (Ht aTZ aTZ))<|aA (aN Z Z lN) ?_;refine aB ?_;refine bD Z (fun o8=>?_) (fun o8=>?_)
 ·have hc:=bA o8;exact aD<|WL.a Z<|aB<|WC.ret<|WQ.tr<|WQ.ret Z (.tmp Z .nil) (by unfold d8;rw[if_pos aTZ];rfl)
 have hc:=aY o8;exact WC.skip<|WQ.n<|aD<|WL.m Z<|WL.m Z<|aA (aN Z Z (P7 aTZ aTZ))<|WL.a Z<|aB<|WC.ret<|WQ.ret Z (.tmp Z .nil) (by unfold d8;rw[if_neg aTZ];rfl)
theorem aOU (now seq:Int) (cl:Bool) (b:Int) (t:TW) (h0:0≤now) (h1:now≤18446744073709551615) (h2:0≤b) (h3:b≤18446744073709551615):aL 85 [.agg #[U now,U seq,.bool cl],U b] t No (fun v _=>v=.agg #[U (d8 now b),U seq,.bool cl]):=by
 refine bG func85 Z ntmps85<|aD<|aI (dP (.loc 2) (cs:=[U now,U seq,.bool cl]) Z) ?_;rintro _ t1 ⟨b2,rfl,s1,aV,nb2,_⟩;refine aI (Ef.al (.loc 4) P6) ?_;rintro _ t2 ⟨b4,rfl,s2,aP,nb4,_⟩;have aV:=aV.n s2;refine aB<|aD<|WL.q 0 Z AA<|WL.r (aF Z gT (aV.cell Z))<|WL.m Z<|aI (Ef.call Z XU (Hi _ _ _ aTZ aTZ aTZ aTZ) aT2) ?_;rintro _ t3 ⟨s3,rfl⟩;obtain⟨aV,aP⟩:=Q2 (aV.n s3) (aP.n s3);refine WL.q 0 Z AA<|WL.e0 (Ef.T [U (d8 now b)] Z Z aV oV (.inl nb2)) ?_;rintro _ t4 ⟨_,s4,gM⟩;have aV:Bk t4 b2 [U (d8 now b),U seq,.bool cl] _ _:=gM;clear gM;have aP:=aP.n s4;refine aB<|aD<|WL.r (Rd.la Z sD (aV.at (vs:=[U (d8 now b),U seq,.bool cl]) Z))<|WL.e0 (Ef.T [U (d8 now b),U seq,.bool cl] Z Z aP r6 (.inl nb4)) ?_;rintro _ t5 ⟨_,s5,eD⟩;have aP:Bk t5 b4 [U (d8 now b),U seq,.bool cl] _ _:=eD;clear eD;exact aB<|WC.ret<|WQ.ret Z (.cell Z (eQ sD Z (aP.at (vs:=[U (d8 now b),U seq,.bool cl]) Z)) .nil) (Z)
theorem aOW (now seq:Int) (cl:Bool) (t:TW) (h0:0≤seq) (h1:seq≤18446744073709551615):aL 186 [.agg #[U now,U seq,.bool cl]] t No (fun v _=>v=.tuple #[.agg #[U now,U (d8 seq 1),.bool cl],U (d8 seq 1)]):=by
 refine bG func186 Z ntmps186<|aD<|aI (dP (.loc 1) (cs:=[U now,U seq,.bool cl]) Z) ?_;rintro _ t1 ⟨b1,rfl,s1,aJ,nb1,_⟩;refine aI (Ef.al (.loc 2) P6) ?_;rintro _ t2 ⟨b2,rfl,s2,aV,nb2,_⟩;have aJ:=aJ.n s2;refine WL.a Z<|aB<|aD<|WL.q 1 Z FN<|WL.r (aF Z gT (aJ.cell Z))<|aI (Ef.call Z XU (Hi _ _ _ aTZ aTZ aTZ aTZ) aT2) ?_;rintro _ t3 ⟨s3,rfl⟩;obtain⟨aJ,aV⟩:=Q2 (aJ.n s3) (aV.n s3);refine WL.q 1 Z FN<|WL.e0 (Ef.T [U (d8 seq 1)] Z Z aJ oV (.inl nb1)) ?_;rintro _ t4 ⟨_,s4,l8⟩;have aJ:Bk t4 b1 [U now,U (d8 seq 1),.bool cl] _ _:=l8;clear l8;have aV:=aV.n s4;refine aB<|eK (fun w=>At w b1 0 [U now,U (d8 seq 1),.bool cl]∧At w b1 1 [U (d8 seq 1)]∧True) .body (⟨aJ.at Z,aJ.at Z,trivial⟩) ?_;obtain⟨aJ,aV⟩:=Q2 (aJ.n dW) (aV.n dW);refine aE 1 Z (Fr.q 1 Z FN)<|cD 0 Z (fun w hw=>Rd.la Z sD hw.1)<|cD 2 Z (fun w hw=>aF Z gT (hw.2.1.one Z))<|dY 3 Z (Ef.T [U now,U (d8 seq 1),.bool cl] Z Z aV r6 (.inl nb2)) aVO ?_;rintro _ t5 ⟨_,s5,gM⟩;have aV:Bk t5 b2 [U now,U (d8 seq 1),.bool cl] _ _:=gM;clear gM;exact aE 4 Z (hZ Z)<|cK<|WQ.n<|WC.ret<|WQ.ret Z (.cell Z (eQ sD Z (aV.at (vs:=[U now,U (d8 seq 1),.bool cl]) Z)) (.tmp Z .nil)) (Z)
theorem aOV (now seq:Int) (cl:Bool) (t:TW):aL 123 [.agg #[U now,U seq,.bool cl]] t No (fun v _=>v=.agg #[U now,U seq,.bool true]):=by
 refine bG func123 Z ntmps123<|aD<|aI (dP (.loc 1) (cs:=[U now,U seq,.bool cl]) Z) ?_;rintro _ t1 ⟨b1,rfl,s1,aJ,nb1,_⟩;refine aI (Ef.al (.loc 2) P6) ?_;rintro _ t2 ⟨b2,rfl,s2,aV,nb2,_⟩;have aJ:=aJ.n s2;refine aB<|aD<|WL.q 2 Z D3<|WL.e0 (Ef.T [.bool true] Z Z aJ lM (.inl nb1)) ?_;rintro _ t3 ⟨_,s3,l8⟩;have aJ:Bk t3 b1 [U now,U seq,.bool true] _ _:=l8;clear l8;have aV:=aV.n s3;refine aB<|aD<|WL.r (Rd.la Z sD (aJ.at (vs:=[U now,U seq,.bool true]) Z))<|WL.e0 (Ef.T [U now,U seq,.bool true] Z Z aV r6 (.inl nb2)) ?_;rintro _ t4 ⟨_,s4,gM⟩;have aV:Bk t4 b2 [U now,U seq,.bool true] _ _:=gM;clear gM;exact aB<|WC.ret<|WQ.ret Z (.cell Z (eQ sD Z (aV.at (vs:=[U now,U seq,.bool true]) Z)) .nil) (Z)
theorem Ui (now until_:Int) (t:TW):aL 146 [U now,U until_] t No (fun v _=>v=.bool (decide (until_≤now))):=by
 refine bG func146 Z ntmps146<|aD<|WL.a Z<|aB<|aD<|WL.m Z<|WL.m Z<|aA (aN Z Z BO.le)<|WL.a Z<|aB ?_;exact WC.ret<|WQ.ret Z (.tmp Z .nil) (Z)
theorem Xb (v bd:Int) (t:TW):aL 203 [.agg #[U v,U bd]] t No (fun r _=>r=.bool (decide (bd≤v))):=by
 refine bG func203 Z ntmps203<|aD<|aI (dP (.loc 1) (cs:=[U v,U bd]) Z) ?_;rintro _ t1 ⟨b1,rfl,s1,aJ,nb1,_⟩;refine WL.a Z<|aB<|aD<|WL.q 0 Z HF<|WL.r (aF Z gT (aJ.cell Z))<|WL.q 1 Z aC8<|WL.r (aF Z gT (aJ.cell Z))<|aA (aN Z Z lX)<|WL.a Z<|aB ?_;exact WC.ret<|WQ.ret Z (.tmp Z .nil) (Z)
theorem Jh (v bd:Int) (t:TW) (h0:0≤v) (h1:v≤18446744073709551615):aL 204 [.agg #[U v,U bd]] t No (fun r _=>r=.bool (RD v)):=by
 refine bG func204 Z ntmps204<|aD<|aI (dP (.loc 1) (cs:=[U v,U bd]) Z) ?_;rintro _ t1 ⟨b1,rfl,s1,aJ,nb1,_⟩;refine WL.a Z<|aB<|aD<|WL.q 0 Z HF<|WL.r (aF Z gT (aJ.cell Z))<|aA (aN Z Z WG)<|aA (aN Z Z dO)<|WL.a Z<|aB<|WC.ret ?_;exact WQ.ret Z (.tmp Z .nil) (by unfold RD;rw[←J4 h0 h1];rfl)
theorem Xc (v bd:Int) (t:TW):aL 257 [.agg #[U v,U bd]] t No (fun r _=>r=U v):=by
 refine bG func257 Z ntmps257<|aD<|aI (dP (.loc 1) (cs:=[U v,U bd]) Z) ?_;rintro _ t1 ⟨b1,rfl,s1,aJ,nb1,_⟩;exact WL.a Z<|aB<|aD<|WL.q 0 Z HF<|WL.r (aF Z gT (aJ.cell Z))<|WL.a Z<|aB<|WC.ret<|WQ.ret Z (.tmp Z .nil) (Z)
theorem Jf (b:Int) (t:TW) (h0:0≤b) (h1:b≤18446744073709551615):aL 59 [U b] t No (fun r _=>r=.agg #[U 0,U (gX b)]):=by
 refine bG func59 Z ntmps59<|aD<|aI (Ef.al (.loc 2) Hs) ?_;rintro _ t1 ⟨b2,rfl,s1,aV,nb2,_⟩;refine aB<|aD<|WL.m Z<|aA (aN Z Z MP)<|aA (Fr.bd (vs:=[(1,U (BS .u64 b 1))]) (cs:=#[U 0,U (BS .u64 b 1)]) Z (fun w=>by kernel_rfl))<|WL.e0 (Ef.T [U 0,U (BS .u64 b 1)] Z Z aV DE (.inl nb2)) ?_;rintro _ t2 ⟨_,s2,gM⟩;have aV:Bk t2 b2 [U 0,U (BS .u64 b 1)] _ _:=gM;clear gM;exact aB<|WC.ret<|WQ.ret Z (.cell Z (eQ sC Z (aV.at (vs:=[U 0,U (BS .u64 b 1)]) Z)) .nil) (by rw[←LY h0 h1];rfl)
theorem Wz (v bd:Int) (t:TW) (h0:0≤v) (h1:v<18446744073709551615):aL 185 [.agg #[U v,U bd]] t No (fun r _=>r=.agg #[U (BU v bd),U bd]):=by
 refine bG func185 Z ntmps185<|aD<|aI (dP (.loc 1) (cs:=[U v,U bd]) Z) ?_;rintro _ t1 ⟨b1,rfl,s1,aJ,nb1,_⟩;refine aI (Ef.al (.loc 2) Hs) ?_;rintro _ t2 ⟨b2,rfl,s2,aV,nb2,_⟩;have aJ:=aJ.n s2;refine aB<|WC.seq<|aD<|WL.r (Rd.la Z sC (aJ.at (vs:=[U v,U bd]) Z))<|aI (Ef.call Z aA4 (Xb _ _ _) aT2) ?_;rintro _ t3 ⟨s3,rfl⟩;obtain⟨aJ,aV⟩:=Q2 (aJ.n s3) (aV.n s3);refine aA (eJ Z)<|WL.m Z ?_;refine eP 6 Z (fun vF=>?_) (fun vF=>?_)
 ·refine WL.r (Rd.la Z sC (aJ.at (vs:=[U v,U bd]) Z))<|aI (Ef.call Z Kb (Jh _ _ _ aTZ aTZ) aT2) ?_;rintro _ t4 ⟨s4,rfl⟩;obtain⟨aJ,aV⟩:=Q2 (aJ.n s4) (aV.n s4);refine aA (eJ Z)<|aA (cQ Z Z)<|aB ?_;refine bD Z (fun lR=>?_) (fun lR=>?_)
  ·refine WC.rg<|WL.q 0 Z HF<|WL.r (aF Z gT (aJ.cell Z))<|aA (aN Z Z (P7 aTZ aTZ))<|WL.q 0 Z HF<|WL.e0 (Ef.T [U (v+1)] Z Z aJ oV (.inl nb1)) ?_;rintro _ t5 ⟨_,s5,l8⟩;have aJ:Bk t5 b1 [U (v+1),U bd] _ _:=l8;clear l8;have aV:=aV.n s5;refine WL.nil<|WQ.n<|aD<|WL.r (Rd.la Z sC (aJ.at (vs:=[U (v+1),U bd]) Z))<|WL.e0 (Ef.T [U (v+1),U bd] Z Z aV DE (.inl nb2)) ?_;rintro _ t6 ⟨_,s6,gM⟩;have aV:Bk t6 b2 [U (v+1),U bd] _ _:=gM;clear gM;exact aB<|WC.ret<|WQ.ret Z (.cell Z (eQ sC Z (aV.at (vs:=[U (v+1),U bd]) Z)) .nil) (by simp[dB,BU,aY (iG vF),iG lR])
  refine WC.skip<|WQ.n<|aD<|WL.r (Rd.la Z sC (aJ.at (vs:=[U v,U bd]) Z))<|WL.e0 (Ef.T [U v,U bd] Z Z aV DE (.inl nb2)) ?_;rintro _ t7 ⟨_,s7,gM⟩;have aV:Bk t7 b2 [U v,U bd] _ _:=gM;clear gM;exact aB<|WC.ret<|WQ.ret Z (.cell Z (eQ sC Z (aV.at (vs:=[U v,U bd]) Z)) .nil) (by simp[dB,BU,aY (iG vF),iG lR])
 refine WL.s<|WL.s<|WL.s<|aA (cG Z Z)<|aB<|nH<|WC.skip<|WQ.n<|aD<|WL.r (Rd.la Z sC (aJ.at (vs:=[U v,U bd]) Z)) ?_;refine WL.e0 (Ef.T [U v,U bd] Z Z aV DE (.inl nb2)) ?_;rintro _ t8 ⟨_,s8,gM⟩;have aV:Bk t8 b2 [U v,U bd] _ _:=gM;clear gM;exact aB<|WC.ret<|WQ.ret Z (.cell Z (eQ sC Z (aV.at (vs:=[U v,U bd]) Z)) .nil) (by simp[dB,BU,bA (iG vF)])
theorem Xa (v bd:Int) (t:TW) (h0:0≤v) (h1:v<18446744073709551615):aL 187 [.agg #[U v,U bd]] t No (fun r _=>r=.agg #[U (DS v),U bd]):=by
 refine bG func187 Z ntmps187<|aD<|aI (dP (.loc 1) (cs:=[U v,U bd]) Z) ?_;rintro _ t1 ⟨b1,rfl,s1,aJ,nb1,_⟩;refine aI (Ef.al (.loc 2) Hs) ?_;rintro _ t2 ⟨b2,rfl,s2,aV,nb2,_⟩;have aJ:=aJ.n s2;refine aB<|WC.seq<|aD<|WL.r (Rd.la Z sC (aJ.at (vs:=[U v,U bd]) Z))<|aI (Ef.call Z Kb (Jh _ _ _ aTZ aTZ) aT2) ?_;rintro _ t3 ⟨s3,rfl⟩;obtain⟨aJ,aV⟩:=Q2 (aJ.n s3) (aV.n s3);refine aB ?_;refine bD Z (fun H9=>?_) (fun H9=>?_)
 ·refine WC.rg<|WL.q 0 Z HF<|WL.r (aF Z gT (aJ.cell Z))<|aA (aN Z Z (P7 aTZ aTZ))<|WL.q 0 Z HF<|WL.e0 (Ef.T [U (v+1)] Z Z aJ oV (.inl nb1)) ?_;rintro _ t4 ⟨_,s4,l8⟩;have aJ:Bk t4 b1 [U (v+1),U bd] _ _:=l8;clear l8;have aV:=aV.n s4;refine WL.nil<|WQ.n<|aD<|WL.r (Rd.la Z sC (aJ.at (vs:=[U (v+1),U bd]) Z))<|WL.e0 (Ef.T [U (v+1),U bd] Z Z aV DE (.inl nb2)) ?_;rintro _ t5 ⟨_,s5,gM⟩;have aV:Bk t5 b2 [U (v+1),U bd] _ _:=gM;clear gM;exact aB<|WC.ret<|WQ.ret Z (.cell Z (eQ sC Z (aV.at (vs:=[U (v+1),U bd]) Z)) .nil) (by simp[dB,DS,H9])
 refine WC.skip<|WQ.n<|aD<|WL.r (Rd.la Z sC (aJ.at (vs:=[U v,U bd]) Z))<|WL.e0 (Ef.T [U v,U bd] Z Z aV DE (.inl nb2)) ?_;rintro _ t6 ⟨_,s6,gM⟩;have aV:Bk t6 b2 [U v,U bd] _ _:=gM;clear gM;exact aB<|WC.ret<|WQ.ret Z (.cell Z (eQ sC Z (aV.at (vs:=[U v,U bd]) Z)) .nil) (by simp[dB,DS,H9])
theorem Jg (a b bd:Int) (t:TW) (h0:0≤a) (h1:a≤18446744073709551615) (h2:0≤bd) (h3:bd≤18446744073709551615):aL 253 [U a,U b,U bd] t No (fun r _=>r=.bool (decide (a=b∧a%2=0∧a<gX bd))):=by
 refine bG func253 Z ntmps253<|aD<|WL.a Z<|aB<|aD<|WL.m Z<|WL.m Z<|aA (aN Z Z dO)<|WL.m Z ?_;refine eP 10 Z (fun pA=>?_) (fun pA=>?_)
 ·obtain rfl:=bA pA;refine WL.m Z<|aA (aN Z Z WG)<|aA (aN Z Z dO)<|aA (cQ Z Z)<|WL.m Z ?_;refine eP 15 Z (fun OY=>?_) (fun OY=>?_)
  ·rw[J4 h0 h1]at OY;exact WL.m Z<|WL.m Z<|aA (aN Z Z MP)<|aA (aN Z Z BO.lt)<|aA (cQ Z Z)<|WL.a Z<|aB<|WC.ret<|WQ.ret Z (.tmp Z .nil) (by simp[dB,J4 h0 h1,LY h2 h3,bA pA,bA OY])
  rw[J4 h0 h1]at OY;exact WL.s<|WL.s<|WL.s<|WL.s<|aA (cG Z Z)<|WL.a Z<|aB<|WC.ret<|WQ.ret Z (.tmp Z .nil) (by simp[dB,J4 h0 h1,LY h2 h3,bA pA,aY OY])
 refine WL.s<|WL.s<|WL.s<|aA (cG Z Z)<|WL.m Z<|WL.s<|WL.s<|WL.s<|WL.s<|aA (cG Z Z) ?_;exact WL.a Z<|aB<|WC.ret<|WQ.ret Z (.tmp Z .nil) (by simp[dB,J4 h0 h1,LY h2 h3,aY pA])
theorem CD (s w:Int) (t:TW) (h0:0≤s) (h1:s≤100) (h2:0≤w) (h3:w≤100):aL 105 [O s,O w] t No (fun r _=>r=O (4*s+w)):=by
 refine bG func105 Z ntmps105<|aD<|WL.a Z<|aB<|aD<|WL.m Z<|aA (aN Z Z (BO.mul aTZ aTZ))<|WL.m Z<|aA (aN Z Z (BO.add aTZ aTZ))<|WL.a Z ?_;exact aB<|WC.ret<|WQ.ret Z (.tmp Z .nil) (Z)
theorem Wj (i1 s1 p1 u1 i2 s2 p2 u2:Int) (t:TW):aL 168 [.agg #[O i1,O s1,O p1,U u1],.agg #[O i2,O s2,O p2,U u2]] t No (fun r _=>r=.bool (decide (p2<p1∨p1=p2∧i1<i2))):=by
 refine bG func168 Z ntmps168<|aD<|aI (dP (.loc 2) (cs:=[O i1,O s1,O p1,U u1]) Z) ?_;rintro _ t1 ⟨b2,rfl,s1,aV,nb2,_⟩;refine aI (dP (.loc 3) (cs:=[O i2,O s2,O p2,U u2]) Z) ?_;rintro _ t2 ⟨b3,rfl,s2,aG,nb3,_⟩;have aV:=aV.n s2;refine WL.a Z<|aB<|aD<|WL.q 2 Z B3<|WL.r (aF Z bE (aV.cell Z))<|WL.q 2 Z B3<|WL.r (aF Z bE (aG.cell Z))<|aA (aN Z Z lN)<|WL.m Z ?_;refine eP 10 Z (fun pA=>?_) (fun pA=>?_)
 ·refine WL.s<|WL.s<|WL.s<|WL.s<|WL.s<|WL.s<|WL.s<|WL.s<|WL.s<|WL.s ?_;exact WL.s<|WL.s<|aA (cQ Z Z)<|WL.a Z<|aB<|WC.ret<|WQ.ret Z (.tmp Z .nil) (by simp[dB,bA pA])
 refine WL.q 2 Z B3<|WL.r (aF Z bE (aV.cell Z))<|WL.q 2 Z B3<|WL.r (aF Z bE (aG.cell Z))<|aA (aN Z Z dO)<|WL.m Z ?_;refine eP 16 Z (fun F7=>?_) (fun F7=>?_)
 ·refine WL.q 0 Z uW<|WL.r (aF Z bE (aV.cell Z))<|WL.q 0 Z uW<|WL.r (aF Z bE (aG.cell Z))<|aA (aN Z Z BO.lt)<|aA (cQ Z Z)<|aA (cG Z Z)<|WL.a Z<|aB<|WC.ret ?_;exact WQ.ret Z (.tmp Z .nil) (by simp[dB,aY pA,bA F7])
 refine WL.s<|WL.s<|WL.s<|WL.s<|WL.s<|aA (cG Z Z)<|aA (cG Z Z)<|WL.a Z<|aB<|WC.ret ?_;exact WQ.ret Z (.tmp Z .nil) (by simp[dB,aY pA,aY F7])
theorem aM3 (id st pr:Int) (t:TW):aL 114 [O id,O st,O pr] t No (fun r _=>r=.bool (gU id st pr)):=by
 refine bG func114 Z ntmps114<|aD<|WL.a Z<|aB<|aD<|WL.m Z<|aA (aN Z Z lX)<|WL.m Z ?_;refine eP 9 Z (fun rP=>?_) (fun rP=>?_)
 ·refine WL.m Z<|aA (aN Z Z BO.le)<|aA (cQ Z Z)<|WL.m Z ?_;refine eP 13 Z (fun EM=>?_) (fun EM=>?_)
  ·refine WL.m Z<|aA (aN Z Z lX)<|aA (cQ Z Z)<|WL.m Z ?_;refine eP 17 Z (fun sS=>?_) (fun sS=>?_)
   ·refine WL.m Z<|aA (aN Z Z BO.le)<|aA (cQ Z Z)<|WL.m Z ?_;refine eP 21 Z (fun F8=>?_) (fun F8=>?_)
    ·refine WL.m Z<|aA (aN Z Z lX)<|aA (cQ Z Z)<|WL.m Z ?_;refine eP 25 Z (fun AX=>?_) (fun AX=>?_)
     ·exact WL.m Z<|aA (aN Z Z BO.le)<|aA (cQ Z Z)<|WL.a Z<|aB<|WC.ret<|WQ.ret Z (.tmp Z .nil) (by simp[dB,gU,bA rP,bA EM,bA sS,bA F8,bA AX])
     exact WL.s<|WL.s<|aA (cG Z Z)<|WL.a Z<|aB<|WC.ret<|WQ.ret Z (.tmp Z .nil) (by simp[dB,gU,bA rP,bA EM,bA sS,bA F8,aY AX])
    refine WL.s<|WL.s<|aA (cG Z Z)<|WL.m Z<|WL.s<|WL.s<|aA (cG Z Z)<|WL.a Z<|aB<|WC.ret ?_;exact WQ.ret Z (.tmp Z .nil) (by simp[dB,gU,bA rP,bA EM,bA sS,aY F8])
   refine WL.s<|WL.s<|aA (cG Z Z)<|WL.m Z<|WL.s<|WL.s<|aA (cG Z Z)<|WL.m Z<|WL.s<|WL.s ?_;exact aA (cG Z Z)<|WL.a Z<|aB<|WC.ret<|WQ.ret Z (.tmp Z .nil) (by simp[dB,gU,bA rP,bA EM,aY sS])
  refine WL.s<|WL.s<|aA (cG Z Z)<|WL.m Z<|WL.s<|WL.s<|aA (cG Z Z)<|WL.m Z<|WL.s<|WL.s ?_;exact aA (cG Z Z)<|WL.m Z<|WL.s<|WL.s<|aA (cG Z Z)<|WL.a Z<|aB<|WC.ret<|WQ.ret Z (.tmp Z .nil) (by simp[dB,gU,bA rP,aY EM])
 refine WL.s<|WL.s<|aA (cG Z Z)<|WL.m Z<|WL.s<|WL.s<|aA (cG Z Z)<|WL.m Z<|WL.s<|WL.s ?_;refine aA (cG Z Z)<|WL.m Z<|WL.s<|WL.s<|aA (cG Z Z)<|WL.m Z<|WL.s<|WL.s<|aA (cG Z Z)<|WL.a Z ?_;exact aB<|WC.ret<|WQ.ret Z (.tmp Z .nil) (by simp[dB,gU,aY rP])
theorem GF (n lo hi:Int) (t:TW):aL 71 [O n,O lo,O hi] t No (fun r _=>r=.bool (decide (lo≤n∧n≤hi))):=by
 refine bG func71 Z ntmps71<|aD<|WL.a Z<|aB<|aD<|WL.m Z<|WL.m Z<|aA (aN Z Z lX)<|WL.m Z ?_;refine eP 10 Z (fun pA=>?_) (fun pA=>?_)
 ·exact WL.m Z<|WL.m Z<|aA (aN Z Z BO.le)<|aA (cQ Z Z)<|WL.a Z<|aB<|WC.ret<|WQ.ret Z (.tmp Z .nil) (by simp[dB,bA pA])
 exact WL.s<|WL.s<|WL.s<|aA (cG Z Z)<|WL.a Z<|aB<|WC.ret<|WQ.ret Z (.tmp Z .nil) (by simp[dB,aY pA])
theorem HW (s:ByteArray) (t:TW):aL 113 [.string s] t No (fun r _=>r=.bool (pF s)):=by
 refine bG func113 Z ntmps113<|aD<|WL.a Z<|aB<|aD<|WL.m Z<|aA (aN Z Z JS)<|WL.m Z ?_;refine eP 5 Z (fun IR=>?_) (fun IR=>?_)
 ·have hn:=aM7 (aY (iG IR));exact WL.m Z<|aA (GW Z underlying9)<|aA (aN Z Z BO.le)<|aA (cQ Z Z)<|WL.a Z<|aB<|WC.ret<|WQ.ret Z (.tmp Z .nil) (by simp[dB,pF,hn];omega)
 have hn:=bA (iG IR);exact WL.s<|WL.s<|WL.s<|aA (cG Z Z)<|WL.a Z<|aB<|WC.ret<|WQ.ret Z (.tmp Z .nil) (by subst hn;rfl)
theorem SI (who:Int) (t:TW):aL 148 [O who] t No (fun r _=>r=.bool (decide (0≤who∧who<8))):=by
 refine bG func148 Z ntmps148<|aD<|WL.a Z<|aB<|aD<|WL.m Z<|aA (aN Z Z lX)<|WL.m Z ?_;refine eP 5 Z (fun IR=>?_) (fun IR=>?_)
 ·exact WL.m Z<|aA (aN Z Z BO.lt)<|aA (cQ Z Z)<|WL.a Z<|aB<|WC.ret<|WQ.ret Z (.tmp Z .nil) (by simp[dB,bA IR])
 exact WL.s<|WL.s<|aA (cG Z Z)<|WL.a Z<|aB<|WC.ret<|WQ.ret Z (.tmp Z .nil) (by simp[dB,aY IR])
theorem Jj (x:Int) (t:TW):aL 209 [O x] t No (fun r _=>r=.bool false):=by
 refine bG func209 Z ntmps209<|aD<|WL.a Z<|aB<|aD<|WL.m Z<|WL.m Z<|aA (aN Z Z BO.ne)<|WL.a Z<|aB ?_;exact WC.ret<|WQ.ret Z (.tmp Z .nil) (by simp[dB])
theorem Xi (x:ByteArray) (t:TW):aL 214 [.string x] t No (fun r _=>r=.bool false):=by
 refine bG func214 Z ntmps214<|aD<|WL.a Z<|aB<|aD<|WL.m Z<|WL.m Z<|aA (aN Z Z JS)<|WL.a Z<|aB ?_;exact WC.ret<|WQ.ret Z (.tmp Z .nil) (by simp[dB])
theorem aNN (x:ByteArray) (t:TW):aL 206 [.string x] t No (fun r _=>r=.bool false):=by
 refine bG func206 Z ntmps206<|aD<|WL.a Z<|aB<|aD<|WL.m Z<|WL.m Z<|aA (aN Z Z JS)<|WL.a Z<|aB ?_;exact WC.ret<|WQ.ret Z (.tmp Z .nil) (by simp[dB])
theorem Xh (x y:ByteArray) (t:TW):aL 205 [.string x,.string y] t No (fun r _=>r=.bool (iZ x y)):=by
 refine bG func205 Z ntmps205<|aD<|WL.a Z<|aB<|aD<|WL.m Z<|aI (Ef.call Z aA9 (Xi _ _) aT2) ?_;rintro _ t1 ⟨s1,rfl⟩;refine WL.m Z<|WL.s<|WL.s<|WL.s<|aA (cG Z Z)<|WL.m Z<|WL.m Z<|WL.m Z<|aA (aN Z Z Vc)<|aA (cG Z Z) ?_;exact WL.a Z<|aB<|WC.ret<|WQ.ret Z (.tmp Z .nil) (by simp[dB])
theorem Xg (x y:Int) (t:TW):aL 196 [O x,O y] t No (fun r _=>r=O (DW x y)):=by
 refine bG func196 Z ntmps196<|aD<|WL.a Z<|aB<|aD<|WL.m Z<|aI (Ef.call Z Kc (Jj _ _) aT2) ?_;rintro _ t1 ⟨s1,rfl⟩;refine WL.a Z<|aB<|aD<|WL.m Z<|aI (Ef.call Z Kc (Jj _ _) aT2) ?_;rintro _ t2 ⟨s2,rfl⟩;refine WL.a Z<|aB<|WC.seq<|aD<|WL.m Z<|aB<|nH<|WC.skip<|WQ.n<|WC.seq ?_;refine aD<|WL.m Z<|aB<|nH<|WC.skip<|WQ.n<|WC.seq<|aD<|WL.m Z<|WL.m Z ?_;refine aA (aN Z Z BO.lt)<|aB ?_;refine bD Z (fun eY=>?_) (fun eY=>?_)
 ·exact aD<|WL.a Z<|aB<|WC.ret<|WQ.tr<|WQ.ret Z (.tmp Z .nil) (by simp[dB,DW,bA eY])
 refine WC.skip<|WQ.n<|WC.seq<|aD<|WL.m Z<|WL.m Z<|aA (aN Z Z lN)<|aB ?_;refine bD Z (fun lT=>?_) (fun lT=>?_)
 ·exact aD<|WL.a Z<|aB<|WC.ret<|WQ.tr<|WQ.ret Z (.tmp Z .nil) (by simp[dB,DW,aY eY,bA lT])
 exact WC.skip<|WQ.n<|aD<|WL.a Z<|aB<|WC.ret<|WQ.ret Z (.tmp Z .nil) (by simp[dB,DW,aY eY,aY lT])
open Go.RowKit
section
variable {P:Program}
theorem aLW (w:World) (t ti ty e:TypeId) (i:TypeInfo) (z:Value) (bytes:Nat) (ht:P.underlying t=some (.slice e)) {k:IntKind} (Dh:P.underlying ti=some (.int k)) (hi:P.info? e=some i) (hz:i.zero=some z)
  (xG:i.bytes=bytes) (vH:0<i.size) (yN:0<bytes) (n:Nat) (xs:List Value) (kx:IntKind) (m:Nat) (hm:0<m)
  (hbytes:(n+m)*bytes≤140737488355328) (A:Option Addr) (cap:Nat) (kL:cap<n+m) (kM:(Builtin.firstCells i.size n (.slice A n cap)).run P w.drew=.ok xs.toArray w.drew) :
  (Builtin.append_ #[t,ti] ty #[.slice A n cap,.int kx m]).run P w =
   .ok (.slice (some ⟨w.heap.size,0,none⟩) (n+m) (grownCap w (n+m) cap e)) (w.drew.alloc (.cells (xs.toArray++Builtin.zeroCells z.cells m++Builtin.zeroCells z.cells (grownCap w (n+m) cap e-(n+m))) e)):=by
 subst xG;have rN:n+m≤140737488355328:=aP8 (Nat.le_mul_of_pos_right _ yN) hbytes
 have hw:IntKind.i64.wrap (m:Int)=m:=by rw[IntKind.wrap_i64];omega
 have OT:¬((m:Int)<0):=by omega
 have hmb:m*i.bytes≤140737488355328:=aP8 (aQM _ (Nat.le_add_left m n)) hbytes
 have Ah:¬(281474976710656<(m:Int)*(i.bytes:Int)):=by
  rw[←Int.natCast_mul];omega
 have sW:i.size≠0:=by omega
 obtain⟨news,xN⟩:∃news,news=(Builtin.zeroCells z.cells m).toList:=⟨_,Z⟩
 have hna:Builtin.zeroCells z.cells m=news.toArray:=by rw[xN]
 have hn:¬(n+m≤cap):=by omega
 have aD3 : ¬(9223372036854775807<((n:Int)+(m:Int))):=by omega
 have nS:=growslice_fits kL hbytes
 have aD2 : ¬(281474976710656<Builtin.nextslicecap (n+m) cap*i.bytes):=by omega
 have hmz:¬(m*i.size=0):=Nat.mul_ne_zero aTZ sW;simp[Builtin.append_,run_underlying ht,run_underlying Dh,sizeOf,typeInfo,zeroValue,hi,hz,asInt,asIntOf,hw,OT,Ah,hn,aD3, aD2, Question.forced,kM,newRow,grownCap,hmz,hna];congr 2;apply Array.ext';simp[aQ6]
end
section
variable {α:Type} {dk:Kn α} {c:i7} {E:eI} {dd:Option Nat} {ty:TypeId} {pos:String} {af:Array Edge} {gd:Option (Nat × Bool)} {x y:Operand} {v:Value} {t:TW} {g:bB} {B e:Nat} {xs:List α}
theorem QA {q ti k bytes m b cap len:Nat} {z:Value} {kx ki:IntKind} {cs:List Value} (h:ev E x=some (.slice (some ⟨b,0,none⟩) len cap)) (h' : ev E y=some (.int kx m)) (ht:iQ q e k) (Dh:P.underlying ti=some (.int ki)) (he:El e dk.k bytes z) (mM:0<dk.k) (yN:0<bytes)
  (mO:len=xs.length) (hb:Bk t b cs e g) (cW:cs.length=cap*dk.k) (qL:len≤cap) (hC:Cs dk t cs xs) (rO:0<m) (aF6:cap<xs.length+m) (fY:xs.length+m≤1000000) (xG:bytes≤1000) (gt:bB) :
  Ef c ⟨dd,.call { callee:=.builtin .append,args:=#[x,y],argTypes:=#[q,ti] },ty,pos,af,gd⟩ E t (fun v' t' => bQ No t t' ∧∃b' cap' cs', v' = .slice (some ⟨b', 0,none⟩) (xs.length+m) cap' ∧ t.w.heap.size≤b' ∧ c.t0.w.heap.size≤b' ∧ Bk t' b' cs' e gt∧xs.length+m≤cap' ∧ cs'.length=cap' * dk.k∧cap' ≤ maxLen∧Cs dk t' cs' xs):=.mk fun hs a ha K Q hk=>by
 have hi:=(y5 he.h).1;have hz:=(y5 he.h).2.1;have vH:=(y5 he.h).2.2.1;have nQ:=(y5 he.h).2.2.2;have Dq:=he.c;generalize (P.info? e).getD default=i0 at hi hz vH nQ;subst mO;have aF9:(xs.length+m)*bytes≤1000000*1000:=Nat.mul_le_mul fY xG;have h5:xs.length*dk.k≤cap*dk.k:=aQM _ qL
 obtain⟨inner,lH⟩:∃inner,inner=cs.take (xs.length*dk.k):=⟨_,Z⟩
 have IK:inner.length=xs.length*dk.k:=by rw[lH,aQD,cW];omega
 have kM:(Builtin.firstCells i0.size xs.length (.slice (some ⟨b,0,none⟩) xs.length cap)).run P t.w.drew=.ok inner.toArray t.w.drew:=run_firstCells_some (P:=P) t.w.drew i0.size xs.length _ _ cap inner (by rw[IK,vH]) (fun j u hj=>by
  rw[sB];refine (Bk.drew hb).cell ?_;rw[lH,aQ9]at hj;split at hj
  ·simpa using hj
  ·cases hj)
 have lK:=aLW (P:=P) t.w q ti ty e i0 z bytes ht.1 Dh hi hz nQ aTZ yN xs.length inner kx m rO aTZ (some ⟨b,0,none⟩) cap aF6 kM;have dA:=grownCap_ge t.w (xs.length+m) cap e;have CG:=grownCap_le_maxLen t.w (xs.length+m) cap e aV0;generalize hcap' : grownCap t.w (xs.length+m) cap e=cap' at lK dA CG
 obtain⟨cs', Br⟩:∃cs' : List Value,cs' = inner++((Builtin.zeroCells z.cells m).toList++(Builtin.zeroCells z.cells (cap' - (xs.length+m))).toList):=⟨_,Z⟩
 have ea:inner.toArray++Builtin.zeroCells z.cells m++Builtin.zeroCells z.cells (cap' - (xs.length+m))=cs'.toArray:=by
  rw[Br];apply Array.ext';simp
 rw[ea]at lK;have aM:=(t.drew_step).trans (t.drew.alloc_step cs' e gt);unfold Oper.wp
 have:(execOp a.eval ⟨dd,.call { callee:=.builtin .append,args:=#[x,y],argTypes:=#[q,ti] },ty,pos,af,gd⟩).run P t.w=.ok (.value (.slice (some ⟨t.w.heap.size,0,none⟩) (xs.length+m) cap')) (t.drew.alloc cs' e gt).w:=by
  simp only[execOp,resolve,invoke,builtin,Sem.run_bind,Sem.run_pure,Result.andThen_ok,aRP,aRC,aS4,ha.ev h,ha.ev h', lK];rfl
 rw[this];refine hk _ _ (hs.trans aM.no) ⟨aM,_,cap', cs', Z,aP9 _,hs.size,t.drew.alloc_bk cs' e gt,dA,?_,CG,fun i u hu=>?_⟩
 ·rw[Br];simp only[aQE,Array.length_toList,size_zeroCells,Dq,IK,←aQ0];rw[show xs.length+(m+(cap' - (xs.length+m)))=cap' by omega]
 ·have h2:=dk.stp aM nofun (hC i u hu);have aW:=(aQG.1 hu).1;have h3:(i+1)*dk.k≤xs.length*dk.k:=aQM _ aW
  have e1:fJ cs' dk.k i=fJ cs dk.k i:=by
   rw[Br, Gd IK,if_pos aW,lH];unfold fJ;rw[aQ0]at h3;rw[aTC,aSG,aQ3 aTZ]
  rw[e1];exact h2
theorem QC {f q tr e' k b b' o' la ca lb cb:Nat} {cs cs' : List Value} {ea eb:TypeId} {ga gb:bB} {ts:Array TypeId} {fn:Func} {xs:List Operand} (hx:evs E xs=some [.slice (some ⟨b,0,none⟩) la ca,.slice (some ⟨b', o', none⟩) lb cb])
  (hf : P.funcs[f]? = some fn) (aGA : (fn.name == "runtime.NumGoroutine") = false) (hbo : fn.body.isNone = true) (hn : Extern.findNext fn = none) (he : Extern.find fn = some (Extern.SlicesOverlaps.overlaps #[q, q] #[tr])) (ht : iQ q e' k)
  (hb:Bk t b cs ea ga) (eX : Bk t b' cs' eb gb) (bR:b≠b') (h0:cs' ≠ []) :
  Ef c ⟨dd,.call { callee:=.value (.func f),args:=xs.toArray,argTypes:=ts },ty,pos,af,gd⟩ E t (fun v' t' => v' = .bool false∧t=t'):=.mk fun hs a ha K Q hk=>by
 unfold Oper.wp;have hov:=Lib.run_overlaps_apart (P:=P) t.w q tr e' ht.1 k (fun w=>ht.2.run w) ⟨b,0,none⟩ ⟨b', o', none⟩ la ca lb cb bR ea eb cs.length cs'.length (by simp[World.shape?,hb.1]) (by simp[World.shape?,eX.1]) (by simpa using h0) (hb.frozen 0) (by simp[World.frozen?,hb.1])
 have:(execOp a.eval ⟨dd,.call { callee:=.value (.func f),args:=xs.toArray,argTypes:=ts },ty,pos,af,gd⟩).run P t.w=.ok (.value (.bool false)) t.w:=by
  simp only[execOp,resolve,Act.eval,Deferred.ofValue,invoke,aRP,ha.evs hx,Sem.run_bind,Sem.run_pure,Result.andThen_ok,aTJ,Array.append_empty,run_callFunc_extern hf aGA hbo hn he,hov]
 rw[this];exact hk _ _ hs ⟨Z,Z⟩
end
theorem Bk.upd {t t' : TW} {b b2:Nat} {cs:List Value} {ty:TypeId} {g:bB} (h:Bk t b cs ty g) (u:FB b2 t t') (bR:b≠b2):Bk t' b cs ty g:=⟨(u.keep b bR).2.trans h.1,(u.keep b bR).1.trans h.2⟩
theorem UQ {α:Type} {xs:List α} {i:Nat} (y:α) (hi:i≤xs.length):(xs.take i).take i++[y]++(xs.take i).drop (i+1)=xs.take i++[y]:=by
 rw[aSG,Nat.min_self,aS2 aUA,aR3]
theorem UR {α:Type} {xs:List α} {i m:Nat} (y:α) (hi:i≤xs.length):(xs.take i++[y]).take (i+1)++xs.drop i++(xs.take i++[y]).drop (i+1+m)=xs.take i++y::xs.drop i:=by
 have hl:(xs.take i++[y]).length=i+1:=by rw[aQE,aQD,aQ3 hi];rfl
 rw[aR0 aTZ,aS2 (l:=xs.take i++[y]) aTZ,aR3,aQ6];rfl
theorem US {α:Type} {xs:List α} {i m:Nat} (y:α) (hi:i<xs.length) (hm:xs.length≤i+m):(xs.take (i+1)++xs.drop i++xs.drop (i+1+m)).take i++[y]++(xs.take (i+1)++xs.drop i++xs.drop (i+1+m)).drop (i+1)=xs.take i++y::xs.drop i:=by
 have hl:(xs.take (i+1)).length=i+1:=by rw[aQD];omega
 rw[aS2 (l:=xs) (i:=i+1+m) aTZ,aR3,aST aTZ,List.drop_append,aS2 (l:=xs.take (i+1)) aTZ,aRB,aSG,aQ3 aTZ,hl,aSJ,List.drop_zero,aQ6];rfl
theorem aND (g:bB) (v:Value) (xs:List ByteArray) (t:TW) (h:Sl t dJ v xs) (hl:xs.length≤900000) (hg:g≠.fz):aL 170 [v] t No (fun r t' => aZ t' g t.w.heap.size 9 dJ r xs):=by
 obtain⟨A,cap,rfl,kL⟩:=h.form
 cases A with
 | none=>
  have e0:xs=[]:=by
   by_cases bR:xs=[]
   ·exact bR
   obtain⟨A,cap,e1,_,h2⟩:=h;obtain⟨b,o,e2,_⟩:=h2 bR;rw[e2]at e1;cases e1
  subst e0;refine bG func170 Z ntmps170<|aD<|WL.a Z<|aB<|WC.seq<|aD<|WL.m Z<|aA (QE Z underlying54)<|aB<|jN ?_;exact aD<|WL.a Z<|aB<|WC.ret<|WQ.tr<|WQ.ret Z (.tmp Z .nil) (aZ.nil _ _ _ _ _)
 | some A=>
 refine bG func170 Z ntmps170<|aD<|WL.a Z<|aB<|WC.seq<|aD<|WL.m Z<|aA (QF Z underlying54)<|aB<|nH ?_;refine WC.skip<|WQ.n<|aD<|aI (cP (g) (vs:=[]) (cs:=[]) (e:=9) Z (fun w=>by kernel_rfl)) ?_;rintro _ t1 ⟨b5,rfl,s1,aK,nb5,_⟩;have h:=h.n s1;refine WL.m Z<|aI (lY Z Z jT NA aT0 (oX (B:=t.w.heap.size) aK nb5 Z aT0) h (aQ1 (aR1 nb5 aK.lt)) aT8 aT0 hg (.inl (aP9 _))) ?_;rintro v7 t2 ⟨s2,hr⟩;exact WL.a Z<|aB<|WC.ret<|WQ.ret Z (.tmp Z .nil) (by simpa[dB]using hr)
theorem aNB (g:bB) (v:Value) (xs:List dS) (t:TW) (h:Sl t gS v xs) (hl:xs.length≤900000) (hg:g≠.fz):aL 172 [v] t No (fun r t' => aZ t' g t.w.heap.size 228 gS r xs):=by
 obtain⟨A,cap,rfl,kL⟩:=h.form
 cases A with
 | none=>
  have e0:xs=[]:=by
   by_cases bR:xs=[]
   ·exact bR
   obtain⟨A,cap,e1,_,h2⟩:=h;obtain⟨b,o,e2,_⟩:=h2 bR;rw[e2]at e1;cases e1
  subst e0;refine bG func172 Z ntmps172<|aD<|WL.a Z<|aB<|WC.seq<|aD<|WL.m Z<|aA (QE Z underlying153)<|aB<|jN ?_;exact aD<|WL.a Z<|aB<|WC.ret<|WQ.tr<|WQ.ret Z (.tmp Z .nil) (aZ.nil _ _ _ _ _)
 | some A=>
 refine bG func172 Z ntmps172<|aD<|WL.a Z<|aB<|WC.seq<|aD<|WL.m Z<|aA (QF Z underlying153)<|aB<|nH ?_;refine WC.skip<|WQ.n<|aD<|aI (cP (g) (vs:=[]) (cs:=[]) (e:=228) Z (fun w=>by kernel_rfl)) ?_;rintro _ t1 ⟨b5,rfl,s1,aK,nb5,_⟩;have h:=h.n s1;refine WL.m Z<|aI (lY Z Z mF XK aT0 (oX (B:=t.w.heap.size) aK nb5 Z aT0) h (aQ1 (aR1 nb5 aK.lt)) aT8 aT0 hg (.inl (aP9 _))) ?_;rintro v7 t2 ⟨s2,hr⟩;exact WL.a Z<|aB<|WC.ret<|WQ.ret Z (.tmp Z .nil) (by simpa[dB]using hr)
theorem aNC (g:bB) (v:Value) (xs:List bT) (t:TW) (h:Sl t dL v xs) (hl:xs.length≤900000) (hg:g≠.fz):aL 144 [v] t No (fun r t' => aZ t' g t.w.heap.size 134 dL r xs):=by
 obtain⟨A,cap,rfl,kL⟩:=h.form
 cases A with
 | none=>
  have e0:xs=[]:=by
   by_cases bR:xs=[]
   ·exact bR
   obtain⟨A,cap,e1,_,h2⟩:=h;obtain⟨b,o,e2,_⟩:=h2 bR;rw[e2]at e1;cases e1
  subst e0;refine bG func144 Z ntmps144<|aD<|WL.a Z<|aB<|WC.seq<|aD<|WL.m Z<|aA (QE Z underlying123)<|aB<|jN ?_;exact aD<|WL.a Z<|aB<|WC.ret<|WQ.tr<|WQ.ret Z (.tmp Z .nil) (aZ.nil _ _ _ _ _)
 | some A=>
 refine bG func144 Z ntmps144<|aD<|WL.a Z<|aB<|WC.seq<|aD<|WL.m Z<|aA (QF Z underlying123)<|aB<|nH ?_;refine WC.skip<|WQ.n<|aD<|aI (cP (g) (vs:=[]) (cs:=[]) (e:=134) Z (fun w=>by kernel_rfl)) ?_;rintro _ t1 ⟨b5,rfl,s1,aK,nb5,_⟩;have h:=h.n s1;refine WL.m Z<|aI (lY Z Z fU BX aT0 (oX (B:=t.w.heap.size) aK nb5 Z aT0) h (aQ1 (aR1 nb5 aK.lt)) aT8 aT0 hg (.inl (aP9 _))) ?_;rintro v7 t2 ⟨s2,hr⟩;exact WL.a Z<|aB<|WC.ret<|WQ.ret Z (.tmp Z .nil) (by simpa[dB]using hr)
theorem aNE (g:bB) (v:Value) (xs:List Int) (t:TW) (h:Sl t (fS .u32) v xs) (hl:xs.length≤900000) (hg:g≠.fz):aL 200 [v] t No (fun r t' => aZ t' g t.w.heap.size 253 (fS .u32) r xs):=by
 obtain⟨A,cap,rfl,kL⟩:=h.form
 cases A with
 | none=>
  have e0:xs=[]:=by
   by_cases bR:xs=[]
   ·exact bR
   obtain⟨A,cap,e1,_,h2⟩:=h;obtain⟨b,o,e2,_⟩:=h2 bR;rw[e2]at e1;cases e1
  subst e0;refine bG func200 Z ntmps200<|aD<|WL.a Z<|aB<|WC.seq<|aD<|WL.m Z<|aA (QE Z underlying176)<|aB<|jN ?_;exact aD<|WL.a Z<|aB<|WC.ret<|WQ.tr<|WQ.ret Z (.tmp Z .nil) (aZ.nil _ _ _ _ _)
 | some A=>
 refine bG func200 Z ntmps200<|aD<|WL.a Z<|aB<|WC.seq<|aD<|WL.m Z<|aA (QF Z underlying176)<|aB<|nH ?_;refine WC.skip<|WQ.n<|aD<|aI (cP (g) (vs:=[]) (cs:=[]) (e:=253) Z (fun w=>by kernel_rfl)) ?_;rintro _ t1 ⟨b5,rfl,s1,aK,nb5,_⟩;have h:=h.n s1;refine WL.m Z<|aI (lY Z Z mW XL aT0 (oX (B:=t.w.heap.size) aK nb5 Z aT0) h (aQ1 (aR1 nb5 aK.lt)) aT8 aT0 hg (.inl (aP9 _))) ?_;rintro v7 t2 ⟨s2,hr⟩;exact WL.a Z<|aB<|WC.ret<|WQ.ret Z (.tmp Z .nil) (by simpa[dB]using hr)
theorem Sy {g:bB} {B i:Nat} {v:Value} {xs:List ByteArray} (t:TW) (hr:aZ t g B 9 dJ v xs) (hg:g≠.fz) (hB:B≤t.w.heap.size) (hi:i<xs.length) (hl:xs.length≤900000):aL 169 [v,O (i:Int),O ((i+1:Nat):Int)] t (fun z=>z=g) (fun r t' => aZ t' g B 9 dJ r (xs.eraseIdx i)):=by
 obtain⟨b,cap,rfl⟩:∃b cap,v=.slice (some ⟨b,0,none⟩) xs.length cap:=by
  rcases hr.cases with ⟨h1,h2⟩|h1
  ·subst h2;simp at hi
  exact h1
 obtain⟨cs,_,sG,hb,kL,cW,qN,hC⟩:=hr.open_;have hk:(dJ).k=1:=Z;rw[hk]at cW;have hE:=hC.part aU0 (i+1) hi;have hA:At t.w b ((i+1)*(dJ).k) ((cs.drop ((i+1)*(dJ).k)).take ((xs.length-(i+1))*(dJ).k)):=yD hb;have nT:=hE.one;generalize xN:(cs.drop ((i+1)*(dJ).k)).take ((xs.length-(i+1))*(dJ).k)=news at hE hA nT
 have fL:news.length=(xs.length-(i+1))*1:=by rw[hE.1,aQT,hk]
 have uY:=hC.put (j:=i) hE aTZ aVV;rw[hk]at uY hA;have bZ:(put cs (i*1) news).length=cs.length:=lB (by rw[fL,cW];omega)
 have el_:xs.take i++xs.drop (i+1)++xs.drop (i+(xs.drop (i+1)).length)=xs.eraseIdx i++xs.drop (i+(xs.drop (i+1)).length):=by rw[aSC]
 rw[el_]at uY;have AN:(xs.eraseIdx i).length=xs.length-1:=aTV hi;have kZ:=uY.take (xs.length-1);rw[aST aTZ,aR0 aTZ]at kZ;refine bG func169 Z ntmps169<|aD<|WL.a Z<|aB<|aD<|WL.m Z<|WL.m Z<|WL.m Z<|WL.m Z<|aA (dC Z underlying54) ?_;refine aA (QG Z Z Z Z jT aTZ aTZ aTZ aTZ aTZ)<|aB<|WC.seq<|aD<|WL.m Z<|WL.m Z<|aA (aN Z Z dO)<|aB ?_;refine bD Z (fun eY=>?_) (fun eY=>?_)
 ·exact aD<|WL.m Z<|WL.a Z<|aB<|WC.ret<|WQ.tr<|WQ.ret Z (.tmp Z .nil) (absurd (bA eY) aTZ)
 refine WC.skip<|WQ.n<|aD<|WL.m Z<|aA (dC Z underlying54)<|WL.a Z<|aB<|eK (fun _=>True) .body (trivial)<|DL.m 0 Z Z<|DL.m 1 Z Z ?_;refine aE 2 Z (wY Z Z jT aTZ aTZ)<|DL.m 3 Z Z<|DL.m 4 Z Z<|aE 5 Z (BN Z Z jT aTZ aTZ) ?_
 obtain⟨o2,eo2,gR⟩:∃o2,(if cap=((i+1:Nat):Int).toNat then some (⟨b,0,none⟩:Addr) else (some (⟨b,0,none⟩:Addr)).map (·.add (((i+1:Nat):Int).toNat*1)))=some ⟨b,o2,none⟩∧At t.w b o2 news:=by
  rw[aQP];by_cases xI:cap=i+1
  ·refine⟨0,if_pos xI,fun j v hj=>?_⟩;have:news=[]:=aR6 aVW;rw[this]at hj;cases hj
  exact⟨(i+1)*1,by rw[if_neg xI,aRV,sB,aQF],hA⟩
 refine DL.re 25 Z (congrArg (fun A=>Value.slice A _ _) eo2)<|bH 6 Z (P9 (m:=xs.length-(i+1)) (news:=news) (len:=i) Z Z jT hb fL (fun j v hj=>gR j v hj) nT aTZ cW (.inr Z)) aT7 ?_;rintro _ t1 ⟨rfl,_,s1,aV⟩;refine aE 7 Z (hZ Z)<|cK<|WQ.n<|aD<|WL.m Z<|WL.m Z<|aA (dC Z underlying54)<|WL.m Z<|aA (QH Z Z Z jT aTZ aTZ aTZ aTZ)<|WL.e0 (MT (k:=1) Z underlying54 zr9 aTZ aV Z aT0 (by rw[bZ,cW];omega) (.inr Z)) ?_;rintro _ t2 ⟨news2,EK,_,s2,aG⟩;refine aB<|aD<|WL.m Z<|WL.a Z<|aB<|WC.ret ?_;have aM:=s1.trans s2
 have e7:i+(xs.length-(i+1))=xs.length-1:=by omega
 have e8:0+((i+(xs.length-(i+1)):Nat):Int).toNat*1=(xs.length-1)*(dJ).k:=by rw[aQP,e7,aQF,hk]
 rw[e8]at aG;have j8:=(kZ.step ((TW.drew_step t).no.trans aM) (fun e=>hg e.symm)).tail (news:=news2) (j:=xs.length-1) aTZ aVU
 have IP:news2.length=1*1:=by rw[EK,e7,aQP,aQP];congr 1;omega
 have hR:=tK (xs:=xs.eraseIdx i) aG sG aTZ aVX qN j8;exact WQ.ret Z (.tmp Z .nil) aVT
theorem aNG {g:bB} {B i:Nat} {v:Value} {xs:List dS} (t:TW) (hr:aZ t g B 228 gS v xs) (hg:g≠.fz) (hB:B≤t.w.heap.size) (hi:i<xs.length) (hl:xs.length≤900000):aL 171 [v,O (i:Int),O ((i+1:Nat):Int)] t (fun z=>z=g) (fun r t' => aZ t' g B 228 gS r (xs.eraseIdx i)):=by
 obtain⟨b,cap,rfl⟩:∃b cap,v=.slice (some ⟨b,0,none⟩) xs.length cap:=by
  rcases hr.cases with ⟨h1,h2⟩|h1
  ·subst h2;simp at hi
  exact h1
 obtain⟨cs,_,sG,hb,kL,cW,qN,hC⟩:=hr.open_;have hk:(gS).k=4:=Z;rw[hk]at cW;have hE:=hC.part aU0 (i+1) hi;have hA:At t.w b ((i+1)*(gS).k) ((cs.drop ((i+1)*(gS).k)).take ((xs.length-(i+1))*(gS).k)):=yD hb;have nT:=hE.one;generalize xN:(cs.drop ((i+1)*(gS).k)).take ((xs.length-(i+1))*(gS).k)=news at hE hA nT
 have fL:news.length=(xs.length-(i+1))*4:=by rw[hE.1,aQT,hk]
 have uY:=hC.put (j:=i) hE aTZ aVV;rw[hk]at uY hA;have bZ:(put cs (i*4) news).length=cs.length:=lB (by rw[fL,cW];omega)
 have el_:xs.take i++xs.drop (i+1)++xs.drop (i+(xs.drop (i+1)).length)=xs.eraseIdx i++xs.drop (i+(xs.drop (i+1)).length):=by rw[aSC]
 rw[el_]at uY;have AN:(xs.eraseIdx i).length=xs.length-1:=aTV hi;have kZ:=uY.take (xs.length-1);rw[aST aTZ,aR0 aTZ]at kZ;refine bG func171 Z ntmps171<|aD<|WL.a Z<|aB<|aD<|WL.m Z<|WL.m Z<|WL.m Z<|WL.m Z<|aA (dC Z underlying153) ?_;refine aA (QG Z Z Z Z mF aTZ aTZ aTZ aTZ aTZ)<|aB<|WC.seq<|aD<|WL.m Z<|WL.m Z<|aA (aN Z Z dO)<|aB ?_;refine bD Z (fun eY=>?_) (fun eY=>?_)
 ·exact aD<|WL.m Z<|WL.a Z<|aB<|WC.ret<|WQ.tr<|WQ.ret Z (.tmp Z .nil) (absurd (bA eY) aTZ)
 refine WC.skip<|WQ.n<|aD<|WL.m Z<|aA (dC Z underlying153)<|WL.a Z<|aB<|eK (fun _=>True) .body (trivial)<|DL.m 0 Z Z<|DL.m 1 Z Z ?_;refine aE 2 Z (wY Z Z mF aTZ aTZ)<|DL.m 3 Z Z<|DL.m 4 Z Z<|aE 5 Z (BN Z Z mF aTZ aTZ) ?_
 obtain⟨o2,eo2,gR⟩:∃o2,(if cap=((i+1:Nat):Int).toNat then some (⟨b,0,none⟩:Addr) else (some (⟨b,0,none⟩:Addr)).map (·.add (((i+1:Nat):Int).toNat*4)))=some ⟨b,o2,none⟩∧At t.w b o2 news:=by
  rw[aQP];by_cases xI:cap=i+1
  ·refine⟨0,if_pos xI,fun j v hj=>?_⟩;have:news=[]:=aR6 aVW;rw[this]at hj;cases hj
  exact⟨(i+1)*4,by rw[if_neg xI,aRV,sB,aQF],hA⟩
 refine DL.re 25 Z (congrArg (fun A=>Value.slice A _ _) eo2)<|bH 6 Z (P9 (m:=xs.length-(i+1)) (news:=news) (len:=i) Z Z mF hb fL (fun j v hj=>gR j v hj) nT aTZ cW (.inr Z)) aT7 ?_;rintro _ t1 ⟨rfl,_,s1,aV⟩;refine aE 7 Z (hZ Z)<|cK<|WQ.n<|aD<|WL.m Z<|WL.m Z<|aA (dC Z underlying153)<|WL.m Z<|aA (QH Z Z Z mF aTZ aTZ aTZ aTZ)<|WL.e0 (MT (k:=4) Z underlying153 JP aTZ aV Z aT0 (by rw[bZ,cW];omega) (.inr Z)) ?_;rintro _ t2 ⟨news2,EK,_,s2,aG⟩;refine aB<|aD<|WL.m Z<|WL.a Z<|aB<|WC.ret ?_;have aM:=s1.trans s2
 have e7:i+(xs.length-(i+1))=xs.length-1:=by omega
 have e8:0+((i+(xs.length-(i+1)):Nat):Int).toNat*4=(xs.length-1)*(gS).k:=by rw[aQP,e7,aQF,hk]
 rw[e8]at aG;have j8:=(kZ.step ((TW.drew_step t).no.trans aM) (fun e=>hg e.symm)).tail (news:=news2) (j:=xs.length-1) aTZ aVU
 have IP:news2.length=1*4:=by rw[EK,e7,aQP,aQP];congr 1;omega
 have hR:=tK (xs:=xs.eraseIdx i) aG sG aTZ aVX qN j8;exact WQ.ret Z (.tmp Z .nil) aVT
theorem aNH {g:bB} {B i:Nat} {v:Value} {xs:List bT} (t:TW) (hr:aZ t g B 134 dL v xs) (hg:g≠.fz) (hB:B≤t.w.heap.size) (hi:i<xs.length) (hl:xs.length≤900000):aL 179 [v,O (i:Int),O ((i+1:Nat):Int)] t (fun z=>z=g) (fun r t' => aZ t' g B 134 dL r (xs.eraseIdx i)):=by
 obtain⟨b,cap,rfl⟩:∃b cap,v=.slice (some ⟨b,0,none⟩) xs.length cap:=by
  rcases hr.cases with ⟨h1,h2⟩|h1
  ·subst h2;simp at hi
  exact h1
 obtain⟨cs,_,sG,hb,kL,cW,qN,hC⟩:=hr.open_;have hk:(dL).k=4:=Z;rw[hk]at cW;have hE:=hC.part aU0 (i+1) hi;have hA:At t.w b ((i+1)*(dL).k) ((cs.drop ((i+1)*(dL).k)).take ((xs.length-(i+1))*(dL).k)):=yD hb;have nT:=hE.one;generalize xN:(cs.drop ((i+1)*(dL).k)).take ((xs.length-(i+1))*(dL).k)=news at hE hA nT
 have fL:news.length=(xs.length-(i+1))*4:=by rw[hE.1,aQT,hk]
 have uY:=hC.put (j:=i) hE aTZ aVV;rw[hk]at uY hA;have bZ:(put cs (i*4) news).length=cs.length:=lB (by rw[fL,cW];omega)
 have el_:xs.take i++xs.drop (i+1)++xs.drop (i+(xs.drop (i+1)).length)=xs.eraseIdx i++xs.drop (i+(xs.drop (i+1)).length):=by rw[aSC]
 rw[el_]at uY;have AN:(xs.eraseIdx i).length=xs.length-1:=aTV hi;have kZ:=uY.take (xs.length-1);rw[aST aTZ,aR0 aTZ]at kZ;refine bG func179 Z ntmps179<|aD<|WL.a Z<|aB<|aD<|WL.m Z<|WL.m Z<|WL.m Z<|WL.m Z<|aA (dC Z underlying123) ?_;refine aA (QG Z Z Z Z fU aTZ aTZ aTZ aTZ aTZ)<|aB<|WC.seq<|aD<|WL.m Z<|WL.m Z<|aA (aN Z Z dO)<|aB ?_;refine bD Z (fun eY=>?_) (fun eY=>?_)
 ·exact aD<|WL.m Z<|WL.a Z<|aB<|WC.ret<|WQ.tr<|WQ.ret Z (.tmp Z .nil) (absurd (bA eY) aTZ)
 refine WC.skip<|WQ.n<|aD<|WL.m Z<|aA (dC Z underlying123)<|WL.a Z<|aB<|eK (fun _=>True) .body (trivial)<|DL.m 0 Z Z<|DL.m 1 Z Z ?_;refine aE 2 Z (wY Z Z fU aTZ aTZ)<|DL.m 3 Z Z<|DL.m 4 Z Z<|aE 5 Z (BN Z Z fU aTZ aTZ) ?_
 obtain⟨o2,eo2,gR⟩:∃o2,(if cap=((i+1:Nat):Int).toNat then some (⟨b,0,none⟩:Addr) else (some (⟨b,0,none⟩:Addr)).map (·.add (((i+1:Nat):Int).toNat*4)))=some ⟨b,o2,none⟩∧At t.w b o2 news:=by
  rw[aQP];by_cases xI:cap=i+1
  ·refine⟨0,if_pos xI,fun j v hj=>?_⟩;have:news=[]:=aR6 aVW;rw[this]at hj;cases hj
  exact⟨(i+1)*4,by rw[if_neg xI,aRV,sB,aQF],hA⟩
 refine DL.re 25 Z (congrArg (fun A=>Value.slice A _ _) eo2)<|bH 6 Z (P9 (m:=xs.length-(i+1)) (news:=news) (len:=i) Z Z fU hb fL (fun j v hj=>gR j v hj) nT aTZ cW (.inr Z)) aT7 ?_;rintro _ t1 ⟨rfl,_,s1,aV⟩;refine aE 7 Z (hZ Z)<|cK<|WQ.n<|aD<|WL.m Z<|WL.m Z<|aA (dC Z underlying123)<|WL.m Z<|aA (QH Z Z Z fU aTZ aTZ aTZ aTZ)<|WL.e0 (MT (k:=4) Z underlying123 JO aTZ aV Z aT0 (by rw[bZ,cW];omega) (.inr Z)) ?_;rintro _ t2 ⟨news2,EK,_,s2,aG⟩;refine aB<|aD<|WL.m Z<|WL.a Z<|aB<|WC.ret ?_;have aM:=s1.trans s2
 have e7:i+(xs.length-(i+1))=xs.length-1:=by omega
 have e8:0+((i+(xs.length-(i+1)):Nat):Int).toNat*4=(xs.length-1)*(dL).k:=by rw[aQP,e7,aQF,hk]
 rw[e8]at aG;have j8:=(kZ.step ((TW.drew_step t).no.trans aM) (fun e=>hg e.symm)).tail (news:=news2) (j:=xs.length-1) aTZ aVU
 have IP:news2.length=1*4:=by rw[EK,e7,aQP,aQP];congr 1;omega
 have hR:=tK (xs:=xs.eraseIdx i) aG sG aTZ aVX qN j8;exact WQ.ret Z (.tmp Z .nil) aVT
theorem aNI {g:bB} {B i:Nat} {v:Value} {xs:List Int} (t:TW) (hr:aZ t g B 253 (fS .u32) v xs) (hg:g≠.fz) (hB:B≤t.w.heap.size) (hi:i<xs.length) (hl:xs.length≤900000):aL 202 [v,O (i:Int),O ((i+1:Nat):Int)] t (fun z=>z=g) (fun r t' => aZ t' g B 253 (fS .u32) r (xs.eraseIdx i)):=by
 obtain⟨b,cap,rfl⟩:∃b cap,v=.slice (some ⟨b,0,none⟩) xs.length cap:=by
  rcases hr.cases with ⟨h1,h2⟩|h1
  ·subst h2;simp at hi
  exact h1
 obtain⟨cs,_,sG,hb,kL,cW,qN,hC⟩:=hr.open_;have hk:((fS .u32)).k=1:=Z;rw[hk]at cW;have hE:=hC.part aU0 (i+1) hi;have hA:At t.w b ((i+1)*((fS .u32)).k) ((cs.drop ((i+1)*((fS .u32)).k)).take ((xs.length-(i+1))*((fS .u32)).k)):=yD hb;have nT:=hE.one;generalize xN:(cs.drop ((i+1)*((fS .u32)).k)).take ((xs.length-(i+1))*((fS .u32)).k)=news at hE hA nT
 have fL:news.length=(xs.length-(i+1))*1:=by rw[hE.1,aQT,hk]
 have uY:=hC.put (j:=i) hE aTZ aVV;rw[hk]at uY hA;have bZ:(put cs (i*1) news).length=cs.length:=lB (by rw[fL,cW];omega)
 have el_:xs.take i++xs.drop (i+1)++xs.drop (i+(xs.drop (i+1)).length)=xs.eraseIdx i++xs.drop (i+(xs.drop (i+1)).length):=by rw[aSC]
 rw[el_]at uY;have AN:(xs.eraseIdx i).length=xs.length-1:=aTV hi;have kZ:=uY.take (xs.length-1);rw[aST aTZ,aR0 aTZ]at kZ;refine bG func202 Z ntmps202<|aD<|WL.a Z<|aB<|aD<|WL.m Z<|WL.m Z<|WL.m Z<|WL.m Z<|aA (dC Z underlying176) ?_;refine aA (QG Z Z Z Z mW aTZ aTZ aTZ aTZ aTZ)<|aB<|WC.seq<|aD<|WL.m Z<|WL.m Z<|aA (aN Z Z dO)<|aB ?_;refine bD Z (fun eY=>?_) (fun eY=>?_)
 ·exact aD<|WL.m Z<|WL.a Z<|aB<|WC.ret<|WQ.tr<|WQ.ret Z (.tmp Z .nil) (absurd (bA eY) aTZ)
 refine WC.skip<|WQ.n<|aD<|WL.m Z<|aA (dC Z underlying176)<|WL.a Z<|aB<|eK (fun _=>True) .body (trivial)<|DL.m 0 Z Z<|DL.m 1 Z Z ?_;refine aE 2 Z (wY Z Z mW aTZ aTZ)<|DL.m 3 Z Z<|DL.m 4 Z Z<|aE 5 Z (BN Z Z mW aTZ aTZ) ?_
 obtain⟨o2,eo2,gR⟩:∃o2,(if cap=((i+1:Nat):Int).toNat then some (⟨b,0,none⟩:Addr) else (some (⟨b,0,none⟩:Addr)).map (·.add (((i+1:Nat):Int).toNat*1)))=some ⟨b,o2,none⟩∧At t.w b o2 news:=by
  rw[aQP];by_cases xI:cap=i+1
  ·refine⟨0,if_pos xI,fun j v hj=>?_⟩;have:news=[]:=aR6 aVW;rw[this]at hj;cases hj
  exact⟨(i+1)*1,by rw[if_neg xI,aRV,sB,aQF],hA⟩
 refine DL.re 25 Z (congrArg (fun A=>Value.slice A _ _) eo2)<|bH 6 Z (P9 (m:=xs.length-(i+1)) (news:=news) (len:=i) Z Z mW hb fL (fun j v hj=>gR j v hj) nT aTZ cW (.inr Z)) aT7 ?_;rintro _ t1 ⟨rfl,_,s1,aV⟩;refine aE 7 Z (hZ Z)<|cK<|WQ.n<|aD<|WL.m Z<|WL.m Z<|aA (dC Z underlying176)<|WL.m Z<|aA (QH Z Z Z mW aTZ aTZ aTZ aTZ)<|WL.e0 (MT (k:=1) Z underlying176 aPU aTZ aV Z aT0 (by rw[bZ,cW];omega) (.inr Z)) ?_;rintro _ t2 ⟨news2,EK,_,s2,aG⟩;refine aB<|aD<|WL.m Z<|WL.a Z<|aB<|WC.ret ?_;have aM:=s1.trans s2
 have e7:i+(xs.length-(i+1))=xs.length-1:=by omega
 have e8:0+((i+(xs.length-(i+1)):Nat):Int).toNat*1=(xs.length-1)*((fS .u32)).k:=by rw[aQP,e7,aQF,hk]
 rw[e8]at aG;have j8:=(kZ.step ((TW.drew_step t).no.trans aM) (fun e=>hg e.symm)).tail (news:=news2) (j:=xs.length-1) aTZ aVU
 have IP:news2.length=1*1:=by rw[EK,e7,aQP,aQP];congr 1;omega
 have hR:=tK (xs:=xs.eraseIdx i) aG sG aTZ aVX qN j8;exact WQ.ret Z (.tmp Z .nil) aVT
theorem wW {g g1:bB} {B i b1:Nat} {v:Value} {xs:List ByteArray} {y:ByteArray} {c1:List Value} (t:TW) (hr:aZ t g B 9 dJ v xs) (aJ:Bk t b1 c1 9 g1) (hy:dJ.R t y c1) (hg:g≠.fz) (AP:g1≠g) (hB:B≤t.w.heap.size) (hi:i≤xs.length) (hl:xs.length≤900000):aL 173 [v,O (i:Int),.slice (some ⟨b1,0,none⟩) 1 1] t (fun z=>z=g) (fun r t' => aZ t' g B 9 dJ r (xs.take i++y::xs.drop i)):=by
 obtain⟨A,cap,rfl,kL⟩:=hr.form;have hk:(dJ).k=1:=Z;have eA:¬bB.fz=g:=fun h=>hg h.symm;have hl1:c1.length=1:=(dJ).len hy;refine bG func173 Z ntmps173<|aD<|WL.a Z<|aB<|aD<|WL.m Z<|WL.m Z<|aA (BN Z Z jT aTZ aTZ)<|aB<|aD ?_;refine WL.m Z<|aA (dC Z underlying54)<|WL.a Z<|aB<|WC.seq<|aD<|WL.m Z<|aA (aN Z Z dO)<|aB ?_;refine bD Z (fun eY=>?_) (fun eY=>?_)
 ·exact aD<|WL.m Z<|WL.a Z<|aB<|WC.ret<|WQ.tr<|WQ.ret Z (.tmp Z .nil) (absurd (bA eY) aT0)
 refine WC.skip<|WQ.n<|aD<|WL.m Z<|aA (dC Z underlying54)<|WL.a Z<|aB<|WC.seq<|aD<|WL.m Z ?_;refine WL.m Z<|aA (aN Z Z dO)<|aB ?_;refine bD Z (fun iF=>?_) (fun iF=>?_)
 ·refine aD<|WL.m Z<|WL.m Z<|aI (fO (y1:=y) Z Z aJ hy jT NA aT0 hr hB aTZ aT0 hg (.inr Z)) ?_;rintro v25 t1 ⟨s1,jG⟩;refine WL.a Z<|aB<|WC.ret<|WQ.tr ?_
  have e0:i=xs.length:=by have:=bA iF;omega
  subst e0;exact WQ.ret Z (.tmp Z .nil) (by simpa[dB]using jG)
 have hi:i<xs.length:=by have:=aY iF;omega
 obtain⟨b,rfl⟩:∃b,A=some ⟨b,0,none⟩:=by
  rcases hr.cases with ⟨_,h2⟩|⟨b,cap2,h1⟩
  ·subst h2;exact absurd hi (aQW _)
  exact⟨b,(Value.slice.inj h1).1⟩
 obtain⟨cs,_,sG,hb,_,cW,qN,hC⟩:=hr.open_;rw[hk]at cW;have nQ:b1≠b:=aJ.ne hb AP;have EF:=hb.lt;have hE:=hC.part aU0 i (aQ1 hi);have hA:At t.w b (i*(dJ).k) ((cs.drop (i*(dJ).k)).take ((xs.length-i)*(dJ).k)):=yD hb;have gN:i*1≤cap*1:=aQM _ aTZ
 have OD:(xs.length-i)*1+i*1≤cap*1:=by rw[←aQ0];exact aQM _ aTZ
 generalize xN:(cs.drop (i*(dJ).k)).take ((xs.length-i)*(dJ).k)=news at hE hA
 have fL:news.length=(xs.length-i)*1:=by rw[hE.1,aQT,hk]
 have nT:=hE.one;rw[hk]at hA;refine WC.skip<|WQ.n<|WC.seq<|aD<|WL.m Z<|WL.m Z<|aA (aN Z Z (BO.add aTZ aTZ))<|WL.m Z<|aA (QD Z underlying54)<|aA (aN Z Z lN) ?_;refine aB ?_;refine bD Z (fun iX=>?_) (fun iX=>?_)
 ·have wN:=bA iX;refine aD<|WL.m Z<|WL.m Z<|aA (wY Z Z jT aTZ aTZ)<|WL.m Z<|WL.m Z<|aA (aN Z Z (BO.add aTZ aTZ))<|WL.m Z<|aA (aN Z Z (BO.sub aTZ aTZ))<|WL.re 39 (v' := O ((xs.length+1-i:Nat):Int)) Z (congrArg (Value.int .i64) aTZ) ?_;refine aI (QA (xs:=xs.take i) (m:=xs.length+1-i) (len:=i) Z Z jT underlying3 NA aT0 aT0 aUA hb (by rw[cW,hk]) aTZ (hC.take i) aTZ aUA aUA aT0 g) ?_;rintro v40 t2 ⟨s2,b2,cap2,cs2,e2,j7,AE,aV,qH,iB,oM,kZ⟩;rw[aQD,aQ3 (aQ1 hi),show i+(xs.length+1-i)=xs.length+1 by omega]at e2 qH;subst e2;have aJ:=aJ.n s2;have hy:=dJ.stp s2 id hy;obtain⟨hE,hb⟩:=Q2 (hE.n s2) (hb.n s2);rw[hk]at iB;have Ar:(xs.length+1)*1≤cap2*1:=aQM _ qH;refine WL.a Z<|aB<|aD<|WL.m Z<|WL.m Z<|aA (kX Z Z jT aTZ aTZ aTZ)<|WL.m Z<|aI (tG (news:=c1) Z Z jT aV aU2 (fun j v hj=>by rw[aQF];exact aJ.cell hj) (Kn.one _ hy) aU3 (.inl AE)) ?_;rintro _ t3 ⟨u3,s3,aG⟩;rw[aQF,aQP]at aG;have j8:=(kZ.step s3 eA).put (j:=i) (zW (dJ.stp s3 eA hy)) aUA (by rw[iB,hk];omega);rw[show [y].length=1 from rfl,UQ y (aQ1 hi),hk]at j8;have hb:=hb.upd u3 aTZ;have hE:=hE.step s3 eA
  have hA:At t3.w b (i*1) news:=by rw[←xN,hk];exact yD hb
  have bZ:(put cs2 (i*1) c1).length=cs2.length:=lB aU3;refine aB<|eK (fun _=>True) (.then_ .body) (trivial)<|DL.m 0 Z Z<|DL.m 1 Z Z<|DL.m 2 Z Z<|aE 3 Z (aN Z Z (BO.add aTZ aTZ))<|aE 4 Z (kX Z Z jT aTZ aTZ aTZ)<|DL.m 5 Z Z<|DL.m 6 Z Z<|aE 7 Z (kX Z Z jT aTZ aTZ aTZ) ?_;refine bH 8 Z (tG (news:=news) Z Z jT aG aU1 (fun j v hj=>by rw[aQF];exact hA j v hj) nT aUY (.inl AE)) aT7 ?_;rintro _ t4 ⟨u4,s4,aP⟩;rw[aQF,show ((i:Int)+((1:Nat):Int)).toNat=i+1 by omega]at aP;have nO:=((j8.step (TW.drew_step t3) id).step s4 eA).put (j:=i+1) (hE.step (T:=fun q=>q=g) ((TW.drew_step t3).no.trans s4) eA) (by rw[aQE,aQD];simp;omega) (by rw[bZ,iB,hk];omega);rw[UR y (aQ1 hi),hk]at nO;refine cK<|WQ.n<|aD<|WL.m Z<|WL.a Z<|aB<|WC.ret<|WQ.tr ?_
  have mO:(xs.take i++y::xs.drop i).length=xs.length+1:=by rw[aQE,aQD,aQH,aQT];omega
  have hR:=tK aP (aP8 hB j7) (by rw[mO];exact qH) aVZ oM nO;rw[mO]at hR;exact WQ.ret Z (.tmp Z .nil) (hR)
 have nS:=aY iX;refine WC.skip<|WQ.n<|aD<|WL.m Z<|WL.m Z<|WL.m Z<|aA (aN Z Z (BO.add aTZ aTZ))<|aA (wY Z Z jT aTZ aTZ)<|WL.a Z<|aB ?_;refine WC.seq<|aD<|WL.m Z<|WL.m Z<|WL.m Z<|WL.m Z<|aA (aN Z Z (BO.add aTZ aTZ))<|aA (kX Z Z jT aTZ aTZ aTZ)<|aI (QC (tr:=4) Z func190 aT1 aT1 aT1 aT1 jT aJ hb nQ aVR) ?_;rintro _ _ ⟨rfl,rfl⟩;refine aA (eJ Z)<|aB<|jN<|eK (fun _=>True) (.then_ .body) (trivial)<|DL.m 0 Z Z<|DL.m 1 Z Z<|DL.m 2 Z Z<|aE 3 Z (aN Z Z (BO.add aTZ aTZ))<|aE 4 Z (kX Z Z jT aTZ aTZ aTZ)<|DL.m 5 Z Z ?_;refine DL.m 6 Z Z<|aE 7 Z (kX Z Z jT aTZ aTZ aTZ)<|bH 8 Z (tG (news:=news) Z Z jT hb aU1 (fun j v hj=>by rw[aQF];exact hA j v hj) nT aUZ (.inr Z)) aT7 ?_;rintro _ t6 ⟨u6,s6,aG⟩;rw[aQF,show ((i:Int)+((1:Nat):Int)).toNat=i+1 by omega]at aG;have aM:=(TW.drew_step t).no.trans s6;have j8:=(hC.step aM eA).put (j:=i+1) (hE.step (T:=fun q=>q=g) aM eA) aTZ (by rw[cW,hk];omega);rw[hk]at j8;have bZ:(put cs ((i+1)*1) news).length=cs.length:=lB aUZ
 have aJ:=(aJ.step aM AP)
 have hy:=dJ.stp aM eA hy;refine cK<|WQ.n<|aD<|WL.m Z<|WL.m Z<|aA (kX Z Z jT aTZ aTZ aTZ)<|WL.m Z<|aI (tG (news:=c1) Z Z jT aG aU2 (fun j v hj=>by rw[aQF];exact aJ.cell hj) (Kn.one _ hy) (by rw[bZ,hl1,cW];omega) (.inr Z)) ?_;rintro _ t7 ⟨u7,s7,aP⟩;rw[aQF,aQP]at aP;have nO:=(j8.step s7 eA).put (j:=i) (zW (dJ.stp s7 eA hy)) aT8 (by rw[bZ,cW,hk];omega);rw[show [y].length=1 from rfl,US y hi (by rw[aQT];omega),hk]at nO;refine aB<|aD<|WL.m Z<|WL.a Z<|aB<|WC.ret<|WQ.tr ?_
 have mO:(xs.take i++y::xs.drop i).length=xs.length+1:=by rw[aQE,aQD,aQH,aQT];omega
 have hR:=tK aP sG (by rw[mO];omega) aVY qN nO;rw[mO]at hR;exact WQ.ret Z (.tmp Z .nil) (hR)
theorem aNK {g g1:bB} {B i b1:Nat} {v:Value} {xs:List dS} {y:dS} {c1:List Value} (t:TW) (hr:aZ t g B 228 gS v xs) (aJ:Bk t b1 c1 228 g1) (hy:gS.R t y c1) (hg:g≠.fz) (AP:g1≠g) (hB:B≤t.w.heap.size) (hi:i≤xs.length) (hl:xs.length≤900000):aL 174 [v,O (i:Int),.slice (some ⟨b1,0,none⟩) 1 1] t (fun z=>z=g) (fun r t' => aZ t' g B 228 gS r (xs.take i++y::xs.drop i)):=by
 obtain⟨A,cap,rfl,kL⟩:=hr.form;have hk:(gS).k=4:=Z;have eA:¬bB.fz=g:=fun h=>hg h.symm;have hl1:c1.length=4:=(gS).len hy;refine bG func174 Z ntmps174<|aD<|WL.a Z<|aB<|aD<|WL.m Z<|WL.m Z<|aA (BN Z Z mF aTZ aTZ)<|aB<|aD ?_;refine WL.m Z<|aA (dC Z underlying153)<|WL.a Z<|aB<|WC.seq<|aD<|WL.m Z<|aA (aN Z Z dO)<|aB ?_;refine bD Z (fun eY=>?_) (fun eY=>?_)
 ·exact aD<|WL.m Z<|WL.a Z<|aB<|WC.ret<|WQ.tr<|WQ.ret Z (.tmp Z .nil) (absurd (bA eY) aT0)
 refine WC.skip<|WQ.n<|aD<|WL.m Z<|aA (dC Z underlying153)<|WL.a Z<|aB<|WC.seq<|aD<|WL.m Z ?_;refine WL.m Z<|aA (aN Z Z dO)<|aB ?_;refine bD Z (fun iF=>?_) (fun iF=>?_)
 ·refine aD<|WL.m Z<|WL.m Z<|aI (fO (y1:=y) Z Z aJ hy mF XK aT0 hr hB aTZ aT0 hg (.inr Z)) ?_;rintro v25 t1 ⟨s1,jG⟩;refine WL.a Z<|aB<|WC.ret<|WQ.tr ?_
  have e0:i=xs.length:=by have:=bA iF;omega
  subst e0;exact WQ.ret Z (.tmp Z .nil) (by simpa[dB]using jG)
 have hi:i<xs.length:=by have:=aY iF;omega
 obtain⟨b,rfl⟩:∃b,A=some ⟨b,0,none⟩:=by
  rcases hr.cases with ⟨_,h2⟩|⟨b,cap2,h1⟩
  ·subst h2;exact absurd hi (aQW _)
  exact⟨b,(Value.slice.inj h1).1⟩
 obtain⟨cs,_,sG,hb,_,cW,qN,hC⟩:=hr.open_;rw[hk]at cW;have nQ:b1≠b:=aJ.ne hb AP;have EF:=hb.lt;have hE:=hC.part aU0 i (aQ1 hi);have hA:At t.w b (i*(gS).k) ((cs.drop (i*(gS).k)).take ((xs.length-i)*(gS).k)):=yD hb;have gN:i*4≤cap*4:=aQM _ aTZ
 have OD:(xs.length-i)*4+i*4≤cap*4:=by rw[←aQ0];exact aQM _ aTZ
 generalize xN:(cs.drop (i*(gS).k)).take ((xs.length-i)*(gS).k)=news at hE hA
 have fL:news.length=(xs.length-i)*4:=by rw[hE.1,aQT,hk]
 have nT:=hE.one;rw[hk]at hA;refine WC.skip<|WQ.n<|WC.seq<|aD<|WL.m Z<|WL.m Z<|aA (aN Z Z (BO.add aTZ aTZ))<|WL.m Z<|aA (QD Z underlying153)<|aA (aN Z Z lN) ?_;refine aB ?_;refine bD Z (fun iX=>?_) (fun iX=>?_)
 ·have wN:=bA iX;refine aD<|WL.m Z<|WL.m Z<|aA (wY Z Z mF aTZ aTZ)<|WL.m Z<|WL.m Z<|aA (aN Z Z (BO.add aTZ aTZ))<|WL.m Z<|aA (aN Z Z (BO.sub aTZ aTZ))<|WL.re 39 (v' := O ((xs.length+1-i:Nat):Int)) Z (congrArg (Value.int .i64) aTZ) ?_;refine aI (QA (xs:=xs.take i) (m:=xs.length+1-i) (len:=i) Z Z mF underlying3 XK aT0 aT0 aUA hb (by rw[cW,hk]) aTZ (hC.take i) aTZ aUA aUA aT0 g) ?_;rintro v40 t2 ⟨s2,b2,cap2,cs2,e2,j7,AE,aV,qH,iB,oM,kZ⟩;rw[aQD,aQ3 (aQ1 hi),show i+(xs.length+1-i)=xs.length+1 by omega]at e2 qH;subst e2;have aJ:=aJ.n s2;have hy:=gS.stp s2 id hy;obtain⟨hE,hb⟩:=Q2 (hE.n s2) (hb.n s2);rw[hk]at iB;have Ar:(xs.length+1)*4≤cap2*4:=aQM _ qH;refine WL.a Z<|aB<|aD<|WL.m Z<|WL.m Z<|aA (kX Z Z mF aTZ aTZ aTZ)<|WL.m Z<|aI (tG (news:=c1) Z Z mF aV aU2 (fun j v hj=>by rw[aQF];exact aJ.cell hj) (Kn.one _ hy) aU3 (.inl AE)) ?_;rintro _ t3 ⟨u3,s3,aG⟩;rw[aQF,aQP]at aG;have j8:=(kZ.step s3 eA).put (j:=i) (zW (gS.stp s3 eA hy)) aUA (by rw[iB,hk];omega);rw[show [y].length=1 from rfl,UQ y (aQ1 hi),hk]at j8;have hb:=hb.upd u3 aTZ;have hE:=hE.step s3 eA
  have hA:At t3.w b (i*4) news:=by rw[←xN,hk];exact yD hb
  have bZ:(put cs2 (i*4) c1).length=cs2.length:=lB aU3;refine aB<|eK (fun _=>True) (.then_ .body) (trivial)<|DL.m 0 Z Z<|DL.m 1 Z Z<|DL.m 2 Z Z<|aE 3 Z (aN Z Z (BO.add aTZ aTZ))<|aE 4 Z (kX Z Z mF aTZ aTZ aTZ)<|DL.m 5 Z Z<|DL.m 6 Z Z<|aE 7 Z (kX Z Z mF aTZ aTZ aTZ) ?_;refine bH 8 Z (tG (news:=news) Z Z mF aG aU1 (fun j v hj=>by rw[aQF];exact hA j v hj) nT aUY (.inl AE)) aT7 ?_;rintro _ t4 ⟨u4,s4,aP⟩;rw[aQF,show ((i:Int)+((1:Nat):Int)).toNat=i+1 by omega]at aP;have nO:=((j8.step (TW.drew_step t3) id).step s4 eA).put (j:=i+1) (hE.step (T:=fun q=>q=g) ((TW.drew_step t3).no.trans s4) eA) (by rw[aQE,aQD];simp;omega) (by rw[bZ,iB,hk];omega);rw[UR y (aQ1 hi),hk]at nO;refine cK<|WQ.n<|aD<|WL.m Z<|WL.a Z<|aB<|WC.ret<|WQ.tr ?_
  have mO:(xs.take i++y::xs.drop i).length=xs.length+1:=by rw[aQE,aQD,aQH,aQT];omega
  have hR:=tK aP (aP8 hB j7) (by rw[mO];exact qH) aVZ oM nO;rw[mO]at hR;exact WQ.ret Z (.tmp Z .nil) (hR)
 have nS:=aY iX;refine WC.skip<|WQ.n<|aD<|WL.m Z<|WL.m Z<|WL.m Z<|aA (aN Z Z (BO.add aTZ aTZ))<|aA (wY Z Z mF aTZ aTZ)<|WL.a Z<|aB ?_;refine WC.seq<|aD<|WL.m Z<|WL.m Z<|WL.m Z<|WL.m Z<|aA (aN Z Z (BO.add aTZ aTZ))<|aA (kX Z Z mF aTZ aTZ aTZ)<|aI (QC (tr:=4) Z func192 aT1 aT1 aT1 aT1 mF aJ hb nQ aVR) ?_;rintro _ _ ⟨rfl,rfl⟩;refine aA (eJ Z)<|aB<|jN<|eK (fun _=>True) (.then_ .body) (trivial)<|DL.m 0 Z Z<|DL.m 1 Z Z<|DL.m 2 Z Z<|aE 3 Z (aN Z Z (BO.add aTZ aTZ))<|aE 4 Z (kX Z Z mF aTZ aTZ aTZ)<|DL.m 5 Z Z ?_;refine DL.m 6 Z Z<|aE 7 Z (kX Z Z mF aTZ aTZ aTZ)<|bH 8 Z (tG (news:=news) Z Z mF hb aU1 (fun j v hj=>by rw[aQF];exact hA j v hj) nT aUZ (.inr Z)) aT7 ?_;rintro _ t6 ⟨u6,s6,aG⟩;rw[aQF,show ((i:Int)+((1:Nat):Int)).toNat=i+1 by omega]at aG;have aM:=(TW.drew_step t).no.trans s6;have j8:=(hC.step aM eA).put (j:=i+1) (hE.step (T:=fun q=>q=g) aM eA) aTZ (by rw[cW,hk];omega);rw[hk]at j8;have bZ:(put cs ((i+1)*4) news).length=cs.length:=lB aUZ
 have aJ:=(aJ.step aM AP)
 have hy:=gS.stp aM eA hy;refine cK<|WQ.n<|aD<|WL.m Z<|WL.m Z<|aA (kX Z Z mF aTZ aTZ aTZ)<|WL.m Z<|aI (tG (news:=c1) Z Z mF aG aU2 (fun j v hj=>by rw[aQF];exact aJ.cell hj) (Kn.one _ hy) (by rw[bZ,hl1,cW];omega) (.inr Z)) ?_;rintro _ t7 ⟨u7,s7,aP⟩;rw[aQF,aQP]at aP;have nO:=(j8.step s7 eA).put (j:=i) (zW (gS.stp s7 eA hy)) aT8 (by rw[bZ,cW,hk];omega);rw[show [y].length=1 from rfl,US y hi (by rw[aQT];omega),hk]at nO;refine aB<|aD<|WL.m Z<|WL.a Z<|aB<|WC.ret<|WQ.tr ?_
 have mO:(xs.take i++y::xs.drop i).length=xs.length+1:=by rw[aQE,aQD,aQH,aQT];omega
 have hR:=tK aP sG (by rw[mO];omega) aVY qN nO;rw[mO]at hR;exact WQ.ret Z (.tmp Z .nil) (hR)
theorem aNL {g g1:bB} {B i b1:Nat} {v:Value} {xs:List bT} {y:bT} {c1:List Value} (t:TW) (hr:aZ t g B 134 dL v xs) (aJ:Bk t b1 c1 134 g1) (hy:dL.R t y c1) (hg:g≠.fz) (AP:g1≠g) (hB:B≤t.w.heap.size) (hi:i≤xs.length) (hl:xs.length≤900000):aL 178 [v,O (i:Int),.slice (some ⟨b1,0,none⟩) 1 1] t (fun z=>z=g) (fun r t' => aZ t' g B 134 dL r (xs.take i++y::xs.drop i)):=by
 obtain⟨A,cap,rfl,kL⟩:=hr.form;have hk:(dL).k=4:=Z;have eA:¬bB.fz=g:=fun h=>hg h.symm;have hl1:c1.length=4:=(dL).len hy;refine bG func178 Z ntmps178<|aD<|WL.a Z<|aB<|aD<|WL.m Z<|WL.m Z<|aA (BN Z Z fU aTZ aTZ)<|aB<|aD ?_;refine WL.m Z<|aA (dC Z underlying123)<|WL.a Z<|aB<|WC.seq<|aD<|WL.m Z<|aA (aN Z Z dO)<|aB ?_;refine bD Z (fun eY=>?_) (fun eY=>?_)
 ·exact aD<|WL.m Z<|WL.a Z<|aB<|WC.ret<|WQ.tr<|WQ.ret Z (.tmp Z .nil) (absurd (bA eY) aT0)
 refine WC.skip<|WQ.n<|aD<|WL.m Z<|aA (dC Z underlying123)<|WL.a Z<|aB<|WC.seq<|aD<|WL.m Z ?_;refine WL.m Z<|aA (aN Z Z dO)<|aB ?_;refine bD Z (fun iF=>?_) (fun iF=>?_)
 ·refine aD<|WL.m Z<|WL.m Z<|aI (fO (y1:=y) Z Z aJ hy fU BX aT0 hr hB aTZ aT0 hg (.inr Z)) ?_;rintro v25 t1 ⟨s1,jG⟩;refine WL.a Z<|aB<|WC.ret<|WQ.tr ?_
  have e0:i=xs.length:=by have:=bA iF;omega
  subst e0;exact WQ.ret Z (.tmp Z .nil) (by simpa[dB]using jG)
 have hi:i<xs.length:=by have:=aY iF;omega
 obtain⟨b,rfl⟩:∃b,A=some ⟨b,0,none⟩:=by
  rcases hr.cases with ⟨_,h2⟩|⟨b,cap2,h1⟩
  ·subst h2;exact absurd hi (aQW _)
  exact⟨b,(Value.slice.inj h1).1⟩
 obtain⟨cs,_,sG,hb,_,cW,qN,hC⟩:=hr.open_;rw[hk]at cW;have nQ:b1≠b:=aJ.ne hb AP;have EF:=hb.lt;have hE:=hC.part aU0 i (aQ1 hi);have hA:At t.w b (i*(dL).k) ((cs.drop (i*(dL).k)).take ((xs.length-i)*(dL).k)):=yD hb;have gN:i*4≤cap*4:=aQM _ aTZ
 have OD:(xs.length-i)*4+i*4≤cap*4:=by rw[←aQ0];exact aQM _ aTZ
 generalize xN:(cs.drop (i*(dL).k)).take ((xs.length-i)*(dL).k)=news at hE hA
 have fL:news.length=(xs.length-i)*4:=by rw[hE.1,aQT,hk]
 have nT:=hE.one;rw[hk]at hA;refine WC.skip<|WQ.n<|WC.seq<|aD<|WL.m Z<|WL.m Z<|aA (aN Z Z (BO.add aTZ aTZ))<|WL.m Z<|aA (QD Z underlying123)<|aA (aN Z Z lN) ?_;refine aB ?_;refine bD Z (fun iX=>?_) (fun iX=>?_)
 ·have wN:=bA iX;refine aD<|WL.m Z<|WL.m Z<|aA (wY Z Z fU aTZ aTZ)<|WL.m Z<|WL.m Z<|aA (aN Z Z (BO.add aTZ aTZ))<|WL.m Z<|aA (aN Z Z (BO.sub aTZ aTZ))<|WL.re 39 (v' := O ((xs.length+1-i:Nat):Int)) Z (congrArg (Value.int .i64) aTZ) ?_;refine aI (QA (xs:=xs.take i) (m:=xs.length+1-i) (len:=i) Z Z fU underlying3 BX aT0 aT0 aUA hb (by rw[cW,hk]) aTZ (hC.take i) aTZ aUA aUA aT0 g) ?_;rintro v40 t2 ⟨s2,b2,cap2,cs2,e2,j7,AE,aV,qH,iB,oM,kZ⟩;rw[aQD,aQ3 (aQ1 hi),show i+(xs.length+1-i)=xs.length+1 by omega]at e2 qH;subst e2;have aJ:=aJ.n s2;have hy:=dL.stp s2 id hy;obtain⟨hE,hb⟩:=Q2 (hE.n s2) (hb.n s2);rw[hk]at iB;have Ar:(xs.length+1)*4≤cap2*4:=aQM _ qH;refine WL.a Z<|aB<|aD<|WL.m Z<|WL.m Z<|aA (kX Z Z fU aTZ aTZ aTZ)<|WL.m Z<|aI (tG (news:=c1) Z Z fU aV aU2 (fun j v hj=>by rw[aQF];exact aJ.cell hj) (Kn.one _ hy) aU3 (.inl AE)) ?_;rintro _ t3 ⟨u3,s3,aG⟩;rw[aQF,aQP]at aG;have j8:=(kZ.step s3 eA).put (j:=i) (zW (dL.stp s3 eA hy)) aUA (by rw[iB,hk];omega);rw[show [y].length=1 from rfl,UQ y (aQ1 hi),hk]at j8;have hb:=hb.upd u3 aTZ;have hE:=hE.step s3 eA
  have hA:At t3.w b (i*4) news:=by rw[←xN,hk];exact yD hb
  have bZ:(put cs2 (i*4) c1).length=cs2.length:=lB aU3;refine aB<|eK (fun _=>True) (.then_ .body) (trivial)<|DL.m 0 Z Z<|DL.m 1 Z Z<|DL.m 2 Z Z<|aE 3 Z (aN Z Z (BO.add aTZ aTZ))<|aE 4 Z (kX Z Z fU aTZ aTZ aTZ)<|DL.m 5 Z Z<|DL.m 6 Z Z<|aE 7 Z (kX Z Z fU aTZ aTZ aTZ) ?_;refine bH 8 Z (tG (news:=news) Z Z fU aG aU1 (fun j v hj=>by rw[aQF];exact hA j v hj) nT aUY (.inl AE)) aT7 ?_;rintro _ t4 ⟨u4,s4,aP⟩;rw[aQF,show ((i:Int)+((1:Nat):Int)).toNat=i+1 by omega]at aP;have nO:=((j8.step (TW.drew_step t3) id).step s4 eA).put (j:=i+1) (hE.step (T:=fun q=>q=g) ((TW.drew_step t3).no.trans s4) eA) (by rw[aQE,aQD];simp;omega) (by rw[bZ,iB,hk];omega);rw[UR y (aQ1 hi),hk]at nO;refine cK<|WQ.n<|aD<|WL.m Z<|WL.a Z<|aB<|WC.ret<|WQ.tr ?_
  have mO:(xs.take i++y::xs.drop i).length=xs.length+1:=by rw[aQE,aQD,aQH,aQT];omega
  have hR:=tK aP (aP8 hB j7) (by rw[mO];exact qH) aVZ oM nO;rw[mO]at hR;exact WQ.ret Z (.tmp Z .nil) (hR)
 have nS:=aY iX;refine WC.skip<|WQ.n<|aD<|WL.m Z<|WL.m Z<|WL.m Z<|aA (aN Z Z (BO.add aTZ aTZ))<|aA (wY Z Z fU aTZ aTZ)<|WL.a Z<|aB ?_;refine WC.seq<|aD<|WL.m Z<|WL.m Z<|WL.m Z<|WL.m Z<|aA (aN Z Z (BO.add aTZ aTZ))<|aA (kX Z Z fU aTZ aTZ aTZ)<|aI (QC (tr:=4) Z func197 aT1 aT1 aT1 aT1 fU aJ hb nQ aVR) ?_;rintro _ _ ⟨rfl,rfl⟩;refine aA (eJ Z)<|aB<|jN<|eK (fun _=>True) (.then_ .body) (trivial)<|DL.m 0 Z Z<|DL.m 1 Z Z<|DL.m 2 Z Z<|aE 3 Z (aN Z Z (BO.add aTZ aTZ))<|aE 4 Z (kX Z Z fU aTZ aTZ aTZ)<|DL.m 5 Z Z ?_;refine DL.m 6 Z Z<|aE 7 Z (kX Z Z fU aTZ aTZ aTZ)<|bH 8 Z (tG (news:=news) Z Z fU hb aU1 (fun j v hj=>by rw[aQF];exact hA j v hj) nT aUZ (.inr Z)) aT7 ?_;rintro _ t6 ⟨u6,s6,aG⟩;rw[aQF,show ((i:Int)+((1:Nat):Int)).toNat=i+1 by omega]at aG;have aM:=(TW.drew_step t).no.trans s6;have j8:=(hC.step aM eA).put (j:=i+1) (hE.step (T:=fun q=>q=g) aM eA) aTZ (by rw[cW,hk];omega);rw[hk]at j8;have bZ:(put cs ((i+1)*4) news).length=cs.length:=lB aUZ
 have aJ:=(aJ.step aM AP)
 have hy:=dL.stp aM eA hy;refine cK<|WQ.n<|aD<|WL.m Z<|WL.m Z<|aA (kX Z Z fU aTZ aTZ aTZ)<|WL.m Z<|aI (tG (news:=c1) Z Z fU aG aU2 (fun j v hj=>by rw[aQF];exact aJ.cell hj) (Kn.one _ hy) (by rw[bZ,hl1,cW];omega) (.inr Z)) ?_;rintro _ t7 ⟨u7,s7,aP⟩;rw[aQF,aQP]at aP;have nO:=(j8.step s7 eA).put (j:=i) (zW (dL.stp s7 eA hy)) aT8 (by rw[bZ,cW,hk];omega);rw[show [y].length=1 from rfl,US y hi (by rw[aQT];omega),hk]at nO;refine aB<|aD<|WL.m Z<|WL.a Z<|aB<|WC.ret<|WQ.tr ?_
 have mO:(xs.take i++y::xs.drop i).length=xs.length+1:=by rw[aQE,aQD,aQH,aQT];omega
 have hR:=tK aP sG (by rw[mO];omega) aVY qN nO;rw[mO]at hR;exact WQ.ret Z (.tmp Z .nil) (hR)
theorem aNM {g g1:bB} {B i b1:Nat} {v:Value} {xs:List Int} {y:Int} {c1:List Value} (t:TW) (hr:aZ t g B 253 (fS .u32) v xs) (aJ:Bk t b1 c1 253 g1) (hy:(fS .u32).R t y c1) (hg:g≠.fz) (AP:g1≠g) (hB:B≤t.w.heap.size) (hi:i≤xs.length) (hl:xs.length≤900000):aL 201 [v,O (i:Int),.slice (some ⟨b1,0,none⟩) 1 1] t (fun z=>z=g) (fun r t' => aZ t' g B 253 (fS .u32) r (xs.take i++y::xs.drop i)):=by
 obtain⟨A,cap,rfl,kL⟩:=hr.form;have hk:((fS .u32)).k=1:=Z;have eA:¬bB.fz=g:=fun h=>hg h.symm;have hl1:c1.length=1:=((fS .u32)).len hy;refine bG func201 Z ntmps201<|aD<|WL.a Z<|aB<|aD<|WL.m Z<|WL.m Z<|aA (BN Z Z mW aTZ aTZ)<|aB<|aD ?_;refine WL.m Z<|aA (dC Z underlying176)<|WL.a Z<|aB<|WC.seq<|aD<|WL.m Z<|aA (aN Z Z dO)<|aB ?_;refine bD Z (fun eY=>?_) (fun eY=>?_)
 ·exact aD<|WL.m Z<|WL.a Z<|aB<|WC.ret<|WQ.tr<|WQ.ret Z (.tmp Z .nil) (absurd (bA eY) aT0)
 refine WC.skip<|WQ.n<|aD<|WL.m Z<|aA (dC Z underlying176)<|WL.a Z<|aB<|WC.seq<|aD<|WL.m Z ?_;refine WL.m Z<|aA (aN Z Z dO)<|aB ?_;refine bD Z (fun iF=>?_) (fun iF=>?_)
 ·refine aD<|WL.m Z<|WL.m Z<|aI (fO (y1:=y) Z Z aJ hy mW XL aT0 hr hB aTZ aT0 hg (.inr Z)) ?_;rintro v25 t1 ⟨s1,jG⟩;refine WL.a Z<|aB<|WC.ret<|WQ.tr ?_
  have e0:i=xs.length:=by have:=bA iF;omega
  subst e0;exact WQ.ret Z (.tmp Z .nil) (by simpa[dB]using jG)
 have hi:i<xs.length:=by have:=aY iF;omega
 obtain⟨b,rfl⟩:∃b,A=some ⟨b,0,none⟩:=by
  rcases hr.cases with ⟨_,h2⟩|⟨b,cap2,h1⟩
  ·subst h2;exact absurd hi (aQW _)
  exact⟨b,(Value.slice.inj h1).1⟩
 obtain⟨cs,_,sG,hb,_,cW,qN,hC⟩:=hr.open_;rw[hk]at cW;have nQ:b1≠b:=aJ.ne hb AP;have EF:=hb.lt;have hE:=hC.part aU0 i (aQ1 hi);have hA:At t.w b (i*((fS .u32)).k) ((cs.drop (i*((fS .u32)).k)).take ((xs.length-i)*((fS .u32)).k)):=yD hb;have gN:i*1≤cap*1:=aQM _ aTZ
 have OD:(xs.length-i)*1+i*1≤cap*1:=by rw[←aQ0];exact aQM _ aTZ
 generalize xN:(cs.drop (i*((fS .u32)).k)).take ((xs.length-i)*((fS .u32)).k)=news at hE hA
 have fL:news.length=(xs.length-i)*1:=by rw[hE.1,aQT,hk]
 have nT:=hE.one;rw[hk]at hA;refine WC.skip<|WQ.n<|WC.seq<|aD<|WL.m Z<|WL.m Z<|aA (aN Z Z (BO.add aTZ aTZ))<|WL.m Z<|aA (QD Z underlying176)<|aA (aN Z Z lN) ?_;refine aB ?_;refine bD Z (fun iX=>?_) (fun iX=>?_)
 ·have wN:=bA iX;refine aD<|WL.m Z<|WL.m Z<|aA (wY Z Z mW aTZ aTZ)<|WL.m Z<|WL.m Z<|aA (aN Z Z (BO.add aTZ aTZ))<|WL.m Z<|aA (aN Z Z (BO.sub aTZ aTZ))<|WL.re 39 (v' := O ((xs.length+1-i:Nat):Int)) Z (congrArg (Value.int .i64) aTZ) ?_;refine aI (QA (xs:=xs.take i) (m:=xs.length+1-i) (len:=i) Z Z mW underlying3 XL aT0 aT0 aUA hb (by rw[cW,hk]) aTZ (hC.take i) aTZ aUA aUA aT0 g) ?_;rintro v40 t2 ⟨s2,b2,cap2,cs2,e2,j7,AE,aV,qH,iB,oM,kZ⟩;rw[aQD,aQ3 (aQ1 hi),show i+(xs.length+1-i)=xs.length+1 by omega]at e2 qH;subst e2;have aJ:=aJ.n s2;have hy:=(fS .u32).stp s2 id hy;obtain⟨hE,hb⟩:=Q2 (hE.n s2) (hb.n s2);rw[hk]at iB;have Ar:(xs.length+1)*1≤cap2*1:=aQM _ qH;refine WL.a Z<|aB<|aD<|WL.m Z<|WL.m Z<|aA (kX Z Z mW aTZ aTZ aTZ)<|WL.m Z<|aI (tG (news:=c1) Z Z mW aV aU2 (fun j v hj=>by rw[aQF];exact aJ.cell hj) (Kn.one _ hy) aU3 (.inl AE)) ?_;rintro _ t3 ⟨u3,s3,aG⟩;rw[aQF,aQP]at aG;have j8:=(kZ.step s3 eA).put (j:=i) (zW ((fS .u32).stp s3 eA hy)) aUA (by rw[iB,hk];omega);rw[show [y].length=1 from rfl,UQ y (aQ1 hi),hk]at j8;have hb:=hb.upd u3 aTZ;have hE:=hE.step s3 eA
  have hA:At t3.w b (i*1) news:=by rw[←xN,hk];exact yD hb
  have bZ:(put cs2 (i*1) c1).length=cs2.length:=lB aU3;refine aB<|eK (fun _=>True) (.then_ .body) (trivial)<|DL.m 0 Z Z<|DL.m 1 Z Z<|DL.m 2 Z Z<|aE 3 Z (aN Z Z (BO.add aTZ aTZ))<|aE 4 Z (kX Z Z mW aTZ aTZ aTZ)<|DL.m 5 Z Z<|DL.m 6 Z Z<|aE 7 Z (kX Z Z mW aTZ aTZ aTZ) ?_;refine bH 8 Z (tG (news:=news) Z Z mW aG aU1 (fun j v hj=>by rw[aQF];exact hA j v hj) nT aUY (.inl AE)) aT7 ?_;rintro _ t4 ⟨u4,s4,aP⟩;rw[aQF,show ((i:Int)+((1:Nat):Int)).toNat=i+1 by omega]at aP;have nO:=((j8.step (TW.drew_step t3) id).step s4 eA).put (j:=i+1) (hE.step (T:=fun q=>q=g) ((TW.drew_step t3).no.trans s4) eA) (by rw[aQE,aQD];simp;omega) (by rw[bZ,iB,hk];omega);rw[UR y (aQ1 hi),hk]at nO;refine cK<|WQ.n<|aD<|WL.m Z<|WL.a Z<|aB<|WC.ret<|WQ.tr ?_
  have mO:(xs.take i++y::xs.drop i).length=xs.length+1:=by rw[aQE,aQD,aQH,aQT];omega
  have hR:=tK aP (aP8 hB j7) (by rw[mO];exact qH) aVZ oM nO;rw[mO]at hR;exact WQ.ret Z (.tmp Z .nil) (hR)
 have nS:=aY iX;refine WC.skip<|WQ.n<|aD<|WL.m Z<|WL.m Z<|WL.m Z<|aA (aN Z Z (BO.add aTZ aTZ))<|aA (wY Z Z mW aTZ aTZ)<|WL.a Z<|aB ?_;refine WC.seq<|aD<|WL.m Z<|WL.m Z<|WL.m Z<|WL.m Z<|aA (aN Z Z (BO.add aTZ aTZ))<|aA (kX Z Z mW aTZ aTZ aTZ)<|aI (QC (tr:=4) Z func212 aT1 aT1 aT1 aT1 mW aJ hb nQ aVR) ?_;rintro _ _ ⟨rfl,rfl⟩;refine aA (eJ Z)<|aB<|jN<|eK (fun _=>True) (.then_ .body) (trivial)<|DL.m 0 Z Z<|DL.m 1 Z Z<|DL.m 2 Z Z<|aE 3 Z (aN Z Z (BO.add aTZ aTZ))<|aE 4 Z (kX Z Z mW aTZ aTZ aTZ)<|DL.m 5 Z Z ?_;refine DL.m 6 Z Z<|aE 7 Z (kX Z Z mW aTZ aTZ aTZ)<|bH 8 Z (tG (news:=news) Z Z mW hb aU1 (fun j v hj=>by rw[aQF];exact hA j v hj) nT aUZ (.inr Z)) aT7 ?_;rintro _ t6 ⟨u6,s6,aG⟩;rw[aQF,show ((i:Int)+((1:Nat):Int)).toNat=i+1 by omega]at aG;have aM:=(TW.drew_step t).no.trans s6;have j8:=(hC.step aM eA).put (j:=i+1) (hE.step (T:=fun q=>q=g) aM eA) aTZ (by rw[cW,hk];omega);rw[hk]at j8;have bZ:(put cs ((i+1)*1) news).length=cs.length:=lB aUZ
 have aJ:=(aJ.step aM AP)
 have hy:=(fS .u32).stp aM eA hy;refine cK<|WQ.n<|aD<|WL.m Z<|WL.m Z<|aA (kX Z Z mW aTZ aTZ aTZ)<|WL.m Z<|aI (tG (news:=c1) Z Z mW aG aU2 (fun j v hj=>by rw[aQF];exact aJ.cell hj) (Kn.one _ hy) (by rw[bZ,hl1,cW];omega) (.inr Z)) ?_;rintro _ t7 ⟨u7,s7,aP⟩;rw[aQF,aQP]at aP;have nO:=(j8.step s7 eA).put (j:=i) (zW ((fS .u32).stp s7 eA hy)) aT8 (by rw[bZ,cW,hk];omega);rw[show [y].length=1 from rfl,US y hi (by rw[aQT];omega),hk]at nO;refine aB<|aD<|WL.m Z<|WL.a Z<|aB<|WC.ret<|WQ.tr ?_
 have mO:(xs.take i++y::xs.drop i).length=xs.length+1:=by rw[aQE,aQD,aQH,aQT];omega
 have hR:=tK aP sG (by rw[mO];omega) aVY qN nO;rw[mO]at hR;exact WQ.ret Z (.tmp Z .nil) (hR)
theorem Zg:aO 131:=aO.mk func131 aT0 aT1
theorem Zh:aO 132:=aO.mk func132 aT0 aT1
theorem Zi:aO 133:=aO.mk func133 aT0 aT1
theorem Zj:aO 134:=aO.mk func134 aT0 aT1
theorem Zk:aO 135:=aO.mk func135 aT0 aT1
theorem Zl:aO 136:=aO.mk func136 aT0 aT1
theorem Zm:aO 137:=aO.mk func137 aT0 aT1
theorem Ka:aO 195:=aO.mk func195 aT0 aT1
theorem aBC:aO 239:=aO.mk func239 aT0 aT1
theorem aBE:aO 245:=aO.mk func245 aT0 aT1
theorem aBF:aO 246:=aO.mk func246 aT0 aT1
theorem aBG:aO 247:=aO.mk func247 aT0 aT1
theorem aBL:aO 260:=aO.mk func260 aT0 aT1
theorem aBM:aO 261:=aO.mk func261 aT0 aT1
theorem aBN:aO 262:=aO.mk func262 aT0 aT1
section
variable {α:Type} {d:Kn α} {t t' : TW} {g:bB} {B e:Nat} {xs:List α} {cs:List Value}
theorem Ev {o:Nat} {v:Value} (h:o<cs.length):put cs o [v]=cs.set o v:=by
 unfold put;rw[aTG,if_pos h,aQ6];rfl
theorem aMY {k i i' j:Nat} {v:Value} (hj:j<k):fJ (cs.set (i*k+j) v) k i' = if i' = i then (fJ cs k i).set j v else fJ cs k i' := by
 apply aTM;intro m;by_cases hm:m<k
 ·have e1:(fJ (cs.set (i*k+j) v) k i')[m]?=(cs.set (i*k+j) v)[i' * k+m]?:=by
   unfold fJ;rw[aQ9,if_pos hm,aRM]
  rw[e1];split
  ·rename_i h;subst h;rw[aTP,aTP]
   have e2:(fJ cs k i')[m]?=cs[i' * k+m]?:=by
    unfold fJ;rw[aQ9,if_pos hm,aRM]
   rw[e2]
   have e3:(fJ cs k i').length=min k (cs.length-i' * k):=by
    unfold fJ;rw[aQD,aQT]
   by_cases hjm:j=m
   ·subst hjm;rw[if_pos rfl,if_pos rfl,e3];by_cases hl:i' * k+j<cs.length
    ·rw[if_pos hl,if_pos aTZ]
    rw[if_neg hl,if_neg aTZ]
   rw[if_neg aTZ,if_neg hjm]
  rename_i h
  have bR:i*k+j≠i' * k+m:=by
   intro he;rcases Nat.lt_or_gt_of_ne h with h|h
   ·have h1:(i' + 1)*k≤i*k:=aQM _ h;rw[aQ0]at h1;omega
   have h1:(i+1)*k≤i' * k:=aQM _ h;rw[aQ0]at h1;omega
  rw[aRN bR];unfold fJ;rw[aQ9,if_pos hm,aRM]
 have h1:∀c:List Value,∀n,(fJ c k n)[m]?=none:=fun c n=>by
  unfold fJ;rw[aQ9,if_neg hm]
 rw[h1];split
 ·rw[aRJ];rw[aQZ];unfold fJ;rw[aQD];omega
 rw[h1]
theorem Cs.setf {i j:Nat} {x z:α} {v:Value} (h:Cs d t cs xs) (hi:xs[i]?=some x) (hj:j<d.k) (hf:(i+1)*d.k≤cs.length) (hR:∀c,d.R t x c→d.R t z (c.set j v)):Cs d t (X.put cs (i*d.k+j) [v]) (xs.set i z):=fun n y hn=>by
 rw[aQ0]at hf;rw[Ev aTZ,aMY hj];rw[aTP]at hn;by_cases lH:i=n
 ·subst lH;rw[if_pos rfl];rw[if_pos rfl,if_pos (aQG.1 hi).1]at hn;rw[←aQB hn];exact hR _ (h i x hi)
 ·rw[if_neg (fun e=>lH e.symm)];rw[if_neg lH]at hn;exact h n y hn
end
section
variable {α:Type} {dk:Kn α} {c:i7} {E:eI} {dd:Option Nat} {ty:TypeId} {pos:String} {af:Array Edge} {gd:Option (Nat × Bool)} {x y:Operand} {v:Value} {t:TW} {g:bB} {B e:Nat} {xs:List α}
theorem JX {q b o len cap i:Nat} {z:α} {vs:List Value} (h:ev E x=some (.pointer (some ⟨b,o,none⟩))) (h' : ev E y=some v) (hr:aZ t g B e dk (.slice (some ⟨b,0,none⟩) len cap) xs) (ho:o=i*dk.k) (hi:i<xs.length) (hv:v.cells=vs.toArray) (hR:dk.R t z vs) (hq:bY q dk.k) (hg:g≠.fz)
  (hT:c.t0.w.heap.size≤B∨c.T g):Ef c ⟨dd,.store q x y,ty,pos,af,gd⟩ E t (fun _ t' => bQ (fun k=>k=g) t t' ∧ aZ t' g B e dk (.slice (some ⟨b,0,none⟩) len cap) (xs.set i z)):=by
 obtain⟨cs,rfl,hB,hb,hc,hs,hm,hC⟩:=hr.open_;have hvl:=dk.len hR;subst ho
 have nS:i*dk.k+vs.length≤cs.length:=by
  have h1:(i+1)*dk.k≤cap*dk.k:=aQM _ aTZ;rw[aQ0]at h1;omega
 refine .mk fun fM a ha K Q hk=>(Ef.st (ty:=ty) (pos:=pos) (af:=af) (g:=gd) (d:=dd) h h' hb hv (dk.one hR) hq hvl nS (hT.imp (fun h=>aP8 h hB) id)).out fM a ha K Q fun v' t' aM hh=>hk v' t' aM ?_;obtain⟨hu,g9,aV⟩:=hh;refine⟨g9,?_⟩;have kZ:=(hC.step g9 (fun e=>hg e.symm)).put (j:=i) (zW (dk.stp g9 (fun e=>hg e.symm) hR)) aTZ aTZ
 have e1:xs.take i++[z]++xs.drop (i+[z].length)=xs.set i z:=by
  rw[aTG,if_pos hi,aQ6];rfl
 rw[e1]at kZ;have:=tK (xs:=xs.set i z) aV hB (by rw[aQZ];exact hc) (by rw[lB nS,hs]) hm kZ
 rwa [aQZ]at this
theorem Vg {q b o len cap i j:Nat} {x0 z:α} {u:Value} (h:ev E x=some (.pointer (some ⟨b,o,none⟩))) (h' : ev E y=some u) (hr:aZ t g B e dk (.slice (some ⟨b,0,none⟩) len cap) xs) (ho:o=i*dk.k+j) (hj:j<dk.k) (hi:xs[i]?=some x0) (hv:u.cells=#[u]) (h1:u.oneCell' = true) (hR:∀t' c,bQ (fun k=>k=g) t t' → dk.R t' x0 c→dk.R t' z (c.set j u)) (hq:bY q 1) (hg:g≠.fz)
  (hT:c.t0.w.heap.size≤B∨c.T g):Ef c ⟨dd,.store q x y,ty,pos,af,gd⟩ E t (fun _ t' => bQ (fun k=>k=g) t t' ∧ aZ t' g B e dk (.slice (some ⟨b,0,none⟩) len cap) (xs.set i z)):=by
 obtain⟨cs,rfl,hB,hb,hc,hs,hm,hC⟩:=hr.open_;subst ho;have aW:=(aQG.1 hi).1
 have hf:(i+1)*dk.k≤cs.length:=by
  rw[hs];exact aQM _ aTZ
 have nS:i*dk.k+j+[u].length≤cs.length:=by
  rw[aQ0]at hf;simp;omega
 refine .mk fun fM a ha K Q hk=>(Ef.st (vs:=[u]) (ty:=ty) (pos:=pos) (af:=af) (g:=gd) (d:=dd) h h' hb hv (fun w hw=>by rw[aQR.1 hw];exact h1) hq Z nS (hT.imp (fun h=>aP8 h hB) id)).out fM a ha K Q fun v' t' aM hh=>hk v' t' aM ?_;obtain⟨hu,g9,aV⟩:=hh;refine⟨g9,?_⟩;have kZ:=(hC.step g9 (fun e=>hg e.symm)).setf (z:=z) (v:=u) hi hj hf (fun c hc=>hR _ c g9 hc);have:=tK (xs:=xs.set i z) aV hB (by rw[aQZ];exact hc) (by rw[lB nS,hs]) hm kZ
 rwa [aQZ]at this
end
section
variable {α:Type} {d:Kn α} {t t' : TW} {g:bB} {B e:Nat} {v:Value} {xs:List α}
structure uT (t:TW) (d:Kn α) (v:Value) (xs:List α):Prop where
 form:∃A cap,v=.slice A xs.length cap∧xs.length≤cap
 at_:∀{i x},xs[i]?=some x→∃b o cap c,v=.slice (some ⟨b,o,none⟩) xs.length cap∧xs.length≤cap∧d.R t x c∧At t.w b (o+i*d.k) c∧b<t.w.heap.size∧True
theorem uT.step (h:uT t d v xs) (s:bQ No t t') (_:¬No bB.fz):uT t' d v xs:=⟨h.form,fun hi=>by
 obtain⟨b,o,cap,c,h1,h2,h3,h4,h5,_⟩:=h.at_ hi
 exact⟨b,o,cap,c,h1,h2,d.stp s id h3,h4.step s h5 id,aSI h5 s.size,trivial⟩⟩
theorem uT.n (h:uT t d v xs) (s:bQ No t t'):uT t' d v xs:=h.step s id
theorem Sl.rdb (h:Sl t d v xs):uT t d v xs:=⟨h.form,fun hi=>by
 obtain⟨b,o,cap,c,h1,h2,h3,h4,h5,_⟩:=h.at_ hi
 exact⟨b,o,cap,c,h1,h2,h3,h4,h5,trivial⟩⟩
theorem aZ.rdb (h:aZ t g B e d v xs):uT t d v xs:=⟨h.form,fun hi=>by
 obtain⟨b,cap,c,h1,h2,h3,h4,h5,_⟩:=h.at_ hi
 exact⟨b,0,cap,c,h1,h2,h3,by rw[aQF];exact h4,h5,trivial⟩⟩
end
theorem Ok (lo hi:Nat) (h:lo+hi≤2000000):IntKind.i64.wrap ((IntKind.u64.wrap ((lo:Int)+(hi:Int))).fdiv (2^min (1:Int).toNat IntKind.u64.bits))=(((lo+hi) / 2:Nat):Int):=by
 rw[JN aTZ aTZ];have:(2^min (1:Int).toNat IntKind.u64.bits:Int)=2:=Z;rw[this,Int.fdiv_eq_ediv_of_nonneg _ aTZ,JM aTZ aTZ];omega
theorem Sx (v:Value) (xs:List ByteArray) (k:ByteArray) (t:TW) (h:Sl t dJ v xs) (hl:xs.length≤1000000):aL 188 [v,.string k] t No (fun r _=>r=.tuple #[O ((cH xs k).1:Int),.bool (cH xs k).2]):=by
 obtain⟨A,cap,rfl,kL⟩:=h.form;have nQ:=RC (fun m=>(xs[m]?).any fun x=>iZ x k) _ 0 xs.length (aP9 _) (aQC _);refine bG func188 Z ntmps188<|aD<|WL.a Z<|WL.a Z<|aB<|aD<|WL.m Z<|aA (dC Z underlying54)<|WL.a Z<|aB ?_;refine aD<|WL.m Z<|WL.a Z<|WL.a Z<|aB<|WC.seq<|WC.block<|WC.loop (σ:=Nat × Nat) (fun p t' => Sl t' dJ (.slice A xs.length cap) xs∧p.1≤p.2∧p.2≤xs.length∧bs (fun m=>(xs[m]?).any fun x=>iZ x k) p.1 p.2=bs (fun m=>(xs[m]?).any fun x=>iZ x k) 0 xs.length∧True) (fun p=>[(0,.slice A xs.length cap),(1,.string k),(4,O 0),(5,.bool false),(6,O (xs.length:Int)),(7,O (p.1:Int)),(8,O (p.2:Int))]) (fun p=>p.2-p.1) (0,xs.length) ⟨Z,Z,Z,Z,Z,Z,Z,trivial⟩ ⟨h,aQC _,aP9 _,Z,trivial⟩ ?_;rintro⟨lo,hi⟩ t1 ⟨h,h1,h2,h3,_⟩;dsimp only at h1 h2 h3;refine WC.seq<|aD<|WL.m Z<|WL.m Z<|aA (aN Z Z BO.lt)<|aB ?_;refine bD Z (fun nR=>?_) (fun nR=>?_)
 ·have aW:lo<hi:=by have:=bA nR;omega
  refine WC.skip<|WQ.n<|WC.block<|aD<|WL.m Z<|WL.m Z<|aA (aN Z Z (BO.add aTZ aTZ))<|aA (Fr.cv Z underlying3 underlying174)<|aA (aN Z Z (WM aT0))<|aA (Fr.cv Z underlying174 underlying3) ?_;refine WL.re 21 (v' := O (((lo+hi) / 2:Nat):Int)) Z (congrArg (Value.int .i64) (Ok lo hi aTZ))<|WL.a Z<|aB<|aD<|WL.m Z<|WL.m Z ?_
  have hm:(lo+hi) / 2<xs.length:=by omega
  obtain⟨b,o,cap,c,e1,kA,hR,hA,kN,eA⟩:=h.at_ (aQA hm);obtain⟨rfl,_,rfl⟩:=Value.slice.inj e1;obtain rfl:c=[.string xs[(lo+hi) / 2]]:=hR;refine aA (bV Z Z jT aTZ aTZ)<|WL.r (aF Z fN (hA.one Z))<|WL.m Z<|aI (Ef.call Z aA5 (Xh _ _ _) aT2) ?_;rintro _ t2 ⟨s2,rfl⟩;have h:=h.n s2;refine aB ?_;refine bD Z (fun AI=>?_) (fun AI=>?_)
  ·have h4:bs (fun m=>(xs[m]?).any fun x=>iZ x k) ((lo+hi) / 2+1) hi=bs (fun m=>(xs[m]?).any fun x=>iZ x k) 0 xs.length:=by
    rw[←h3];conv=>rhs;rw[bs,if_pos aW]
    rw[if_pos (by rw[aQA hm];exact AI)]
   exact WC.rg<|WL.m Z<|aA (aN Z Z (BO.add aTZ aTZ))<|WL.a Z<|WL.nil<|cE<|dX ((lo+hi) / 2+1,hi) ⟨Z,Z,Z,Z,Z,Z,Z,trivial⟩ ⟨h,(by show (lo+hi) / 2+1≤hi;omega),h2,h4,trivial⟩ (by show hi-((lo+hi) / 2+1)<hi-lo;omega)
  have h4:bs (fun m=>(xs[m]?).any fun x=>iZ x k) lo ((lo+hi) / 2)=bs (fun m=>(xs[m]?).any fun x=>iZ x k) 0 xs.length:=by
   rw[←h3];conv=>rhs;rw[bs,if_pos aW]
   rw[if_neg (by rw[aQA hm];exact fun e=>aRE (AI.symm.trans e))]
  exact WC.rg<|WL.m Z<|WL.a Z<|WL.nil<|cE<|dX (lo,(lo+hi) / 2) ⟨Z,Z,Z,Z,Z,Z,Z,trivial⟩ ⟨h,(by show lo≤(lo+hi) / 2;omega),(by show (lo+hi) / 2≤xs.length;omega),h4,trivial⟩ (by show (lo+hi) / 2-lo<hi-lo;omega)
 have dA:hi≤lo:=by have:=aY nR;omega
 have h4:bs (fun m=>(xs[m]?).any fun x=>iZ x k) 0 xs.length=lo:=by rw[←h3,bs,if_neg aTZ]
 clear h3;refine WC.exit<|cN<|cN<|fK<|WQ.n<|aD<|WL.m Z<|WL.m Z<|WL.m Z<|aA (aN Z Z BO.lt) ?_;refine WL.m Z ?_;refine eP 35 Z (fun CV=>?_) (fun CV=>?_)
 ·have hm:lo<xs.length:=by have:=bA CV;omega
  obtain⟨b,o,cap,c,e1,kA,hR,hA,kN,eA⟩:=h.at_ (aQA hm);obtain⟨rfl,_,rfl⟩:=Value.slice.inj e1;obtain rfl:c=[.string xs[lo]]:=hR;refine WL.m Z<|WL.m Z<|aA (bV Z Z jT aTZ aTZ)<|WL.r (aF Z fN (hA.one Z))<|WL.m Z<|aA (aN Z Z BO.seq)<|WL.m Z ?_;refine eP 42 Z (fun Co=>?_) (fun Co=>?_)
  ·refine WL.s<|WL.s<|WL.s<|WL.s<|WL.s<|WL.s<|WL.s<|WL.s<|WL.s<|aA (cQ Z Z) ?_;refine aA (cQ Z Z)<|WL.a Z<|WL.a Z<|aB<|WC.ret ?_;exact WQ.ret Z (.tmp Z (.tmp Z .nil)) (by have e:=bA Co;simp only[cH,h4,aQA hm,aS9,e,decide_true];rfl)
  refine WL.m Z<|WL.m Z<|aA (bV Z Z jT aTZ aTZ)<|WL.r (aF Z fN (hA.one Z))<|aI (Ef.call Z aA6 (aNN _ _) aT2) ?_;rintro _ t3 ⟨s3,rfl⟩;refine WL.m Z<|WL.s<|WL.s<|aA (cG Z Z)<|aA (cG Z Z)<|aA (cQ Z Z)<|WL.a Z<|WL.a Z<|aB<|WC.ret ?_;exact WQ.ret Z (.tmp Z (.tmp Z .nil)) (by have e:=aY Co;simp only[cH,h4,aQA hm,aS9,e,decide_false];rfl)
 refine WL.s<|WL.s<|WL.s<|WL.s<|WL.s<|WL.s<|WL.s<|WL.s<|WL.s<|WL.s ?_;refine WL.s<|WL.s<|WL.s<|WL.s<|WL.s<|WL.s<|WL.s<|aA (cG Z Z)<|WL.a Z<|WL.a Z ?_;refine aB<|WC.ret ?_;exact WQ.ret Z (.tmp Z (.tmp Z .nil)) (by have e:=aY CV;simp only[cH,h4,aRJ (show xs.length≤lo by omega),Option.any_none];rfl)
theorem Sk (x:bT) (q:Int) (t:TW):aL 195 [.agg (kW x).toArray,O q] t No (fun r _=>r=O (DW x.id q)):=by
 refine bG func195 Z ntmps195<|aD<|aI (dP (.loc 2) (cs:=[O x.id,O x.status,O x.prio,U x.til]) Z) ?_;rintro _ t1 ⟨b2,rfl,s1,aV,nb2,_⟩;refine WL.a Z<|aB<|aD<|WL.q 0 Z uW<|WL.r (aF Z bE (aV.cell Z))<|WL.m Z<|aI (Ef.call Z aAZ (Xg _ _ _) aT2) ?_;rintro _ t2 ⟨s2,rfl⟩;exact WL.a Z<|aB<|WC.ret<|WQ.ret Z (.tmp Z .nil) (Z)
theorem Sj {b:Nat} {g:bB} (x:bT) (now:Int) (t:TW) (hb:Bk t b [U now] 22 g):aL 145 [.agg (kW x).toArray,Y b] t No (fun r _=>r=.bool (decide (x.til≤now))):=by
 refine bG func145 Z ntmps145<|aD<|aI (dP (.loc 2) (cs:=[O x.id,O x.status,O x.prio,U x.til]) Z) ?_;rintro _ t1 ⟨b2,rfl,s1,aV,nb2,_⟩;have hb:=hb.n s1;refine WL.a Z<|aB<|aD<|WL.r (aF Z gT (hb.cell Z))<|WL.q 3 Z HD<|WL.r (aF Z gT (aV.cell Z))<|aI (Ef.call Z Jw (Ui _ _ _) aT2) ?_;rintro _ t2 ⟨s2,rfl⟩;exact WL.a Z<|aB<|WC.ret<|WQ.ret Z (.tmp Z .nil) (Z)
theorem aNA (v:Value) (xs:List bT) (q:Int) (t:TW) (h:uT t dL v xs) (hl:xs.length≤1000000):aL 194 [v,O q,.func (.func 195) #[] #[]] t No (fun r _=>r=.tuple #[O ((eV xs q).1:Int),.bool (eV xs q).2]):=by
 obtain⟨A,cap,rfl,kL⟩:=h.form;have nQ:=RC (fun m=>(xs[m]?).any fun x=>decide (x.id<q)) _ 0 xs.length (aP9 _) (aQC _);refine bG func194 Z ntmps194<|aD<|WL.a Z<|WL.a Z<|aB<|aD<|WL.m Z<|aA (dC Z underlying123)<|WL.a Z<|aB ?_;refine aD<|WL.m Z<|WL.a Z<|WL.a Z<|aB<|WC.seq<|WC.block<|WC.loop (σ:=Nat × Nat) (fun p t' => uT t' dL (.slice A xs.length cap) xs∧p.1≤p.2∧p.2≤xs.length∧bs (fun m=>(xs[m]?).any fun x=>decide (x.id<q)) p.1 p.2=bs (fun m=>(xs[m]?).any fun x=>decide (x.id<q)) 0 xs.length∧True) (fun p=>[(0,.slice A xs.length cap),(1,O q),(2,.func (.func 195) #[] #[]),(6,O 0),(7,.bool false),(8,O (xs.length:Int)),(9,O (p.1:Int)),(10,O (p.2:Int))]) (fun p=>p.2-p.1) (0,xs.length) ⟨Z,Z,Z,Z,Z,Z,Z,Z,trivial⟩ ⟨h,aQC _,aP9 _,Z,trivial⟩ ?_;rintro⟨lo,hi⟩ t1 ⟨h,h1,h2,h3,_⟩;dsimp only at h1 h2 h3;refine WC.seq<|aD<|WL.m Z<|WL.m Z<|aA (aN Z Z BO.lt)<|aB ?_;refine bD Z (fun oI=>?_) (fun oI=>?_)
 ·have aW:lo<hi:=by have:=bA oI;omega
  refine WC.skip<|WQ.n<|WC.block<|aD<|WL.m Z<|WL.m Z<|aA (aN Z Z (BO.add aTZ aTZ))<|aA (Fr.cv Z underlying3 underlying174)<|aA (aN Z Z (WM aT0))<|aA (Fr.cv Z underlying174 underlying3) ?_;refine WL.re 23 (v' := O (((lo+hi) / 2:Nat):Int)) Z (congrArg (Value.int .i64) (Ok lo hi aTZ))<|WL.a Z<|aB<|aD<|WL.m Z<|WL.m Z<|WL.m Z ?_
  have hm:(lo+hi) / 2<xs.length:=by omega
  obtain⟨b,o,cap,c,e1,kA,hR,hA,kN,eA⟩:=h.at_ (aQA hm);obtain⟨rfl,_,rfl⟩:=Value.slice.inj e1;obtain rfl:c=kW xs[(lo+hi) / 2]:=hR;refine aA (bV Z Z fU aTZ aTZ)<|WL.r (Rd.la Z nK hA)<|WL.m Z<|aI (DM (cap:=[]) Z Z Ka (Sk xs[(lo+hi) / 2] q _) aT2) ?_;rintro _ t2 ⟨s2,rfl⟩;have h:=h.n s2;refine aA (aN Z Z BO.lt)<|aB ?_;refine bD Z (fun iX=>?_) (fun iX=>?_)
  ·have H1:xs[(lo+hi) / 2].id<q:=by have:=bA iX;unfold DW at this;split at this;assumption;split at this<;>omega
   have h4:bs (fun m=>(xs[m]?).any fun x=>decide (x.id<q)) ((lo+hi) / 2+1) hi=bs (fun m=>(xs[m]?).any fun x=>decide (x.id<q)) 0 xs.length:=by
    rw[←h3];conv=>rhs;rw[bs,if_pos aW]
    rw[if_pos (by rw[aQA hm];exact aQJ H1)]
   exact WC.rg<|WL.m Z<|aA (aN Z Z (BO.add aTZ aTZ))<|WL.a Z<|WL.nil<|cE<|dX ((lo+hi) / 2+1,hi) ⟨Z,Z,Z,Z,Z,Z,Z,Z,trivial⟩ ⟨h,(by show (lo+hi) / 2+1≤hi;omega),h2,h4,trivial⟩ (by show hi-((lo+hi) / 2+1)<hi-lo;omega)
  have H1:¬xs[(lo+hi) / 2].id<q:=by have:=aY iX;unfold DW at this;split at this;omega;assumption
  have h4:bs (fun m=>(xs[m]?).any fun x=>decide (x.id<q)) lo ((lo+hi) / 2)=bs (fun m=>(xs[m]?).any fun x=>decide (x.id<q)) 0 xs.length:=by
   rw[←h3];conv=>rhs;rw[bs,if_pos aW]
   rw[if_neg (by rw[aQA hm];exact fun e=>H1 (bA e))]
  exact WC.rg<|WL.m Z<|WL.a Z<|WL.nil<|cE<|dX (lo,(lo+hi) / 2) ⟨Z,Z,Z,Z,Z,Z,Z,Z,trivial⟩ ⟨h,(by show lo≤(lo+hi) / 2;omega),(by show (lo+hi) / 2≤xs.length;omega),h4,trivial⟩ (by show (lo+hi) / 2-lo<hi-lo;omega)
 have dA:hi≤lo:=by have:=aY oI;omega
 have h4:bs (fun m=>(xs[m]?).any fun x=>decide (x.id<q)) 0 xs.length=lo:=by rw[←h3,bs,if_neg aTZ]
 clear h3;refine WC.exit<|cN<|cN<|fK<|WQ.n<|aD<|WL.m Z<|WL.m Z<|WL.m Z<|aA (aN Z Z BO.lt) ?_;refine WL.m Z ?_;refine eP 39 Z (fun IQ=>?_) (fun IQ=>?_)
 ·have hm:lo<xs.length:=by have:=bA IQ;omega
  obtain⟨b,o,cap,c,e1,kA,hR,hA,kN,eA⟩:=h.at_ (aQA hm);obtain⟨rfl,_,rfl⟩:=Value.slice.inj e1;obtain rfl:c=kW xs[lo]:=hR;refine WL.m Z<|WL.m Z<|WL.m Z<|aA (bV Z Z fU aTZ aTZ)<|WL.r (Rd.la Z nK hA)<|WL.m Z<|aI (DM (cap:=[]) Z Z Ka (Sk xs[lo] q _) aT2) ?_;rintro _ t3 ⟨s3,rfl⟩;refine aA (aN Z Z dO)<|aA (cQ Z Z)<|WL.a Z<|WL.a Z<|aB<|WC.ret ?_
  have e5:decide (DW xs[lo].id q=0)=decide (xs[lo].id=q):=by unfold DW;split;(rw[aQS aT0,aQS aTZ]);split;(rw[aQS aT0,aQS aTZ]);rw[aQJ Z,aQJ aTZ]
  exact WQ.ret Z (.tmp Z (.tmp Z .nil)) (by simp only[eV,h4,aQA hm,aS9,←e5];rfl)
 refine WL.s<|WL.s<|WL.s<|WL.s<|WL.s<|WL.s<|WL.s<|WL.s<|aA (cG Z Z)<|WL.a Z ?_;refine WL.a Z<|aB<|WC.ret ?_;exact WQ.ret Z (.tmp Z (.tmp Z .nil)) (by have e:=aY IQ;simp only[eV,h4,aRJ (show xs.length≤lo by omega),Option.any_none];rfl)
theorem Gg (v:Value) (xs:List bT) (q:Int) (t:TW) (h:uT t dL v xs) (hl:xs.length≤1000000):aL 177 [v,O q] t No (fun r _=>r=.tuple #[O ((eV xs q).1:Int),.bool (eV xs q).2]):=by
 refine bG func177 Z ntmps177<|aD<|WL.a Z<|WL.a Z<|aB<|aD<|WL.m Z<|WL.m Z<|aI (Ef.call Z aAY (aNA v xs q _ h hl) aT2) ?_;rintro _ t1 ⟨s1,rfl⟩;exact aA (Fr.ext Z Z)<|aA (Fr.ext Z Z)<|WL.a Z<|WL.a Z<|aB<|WC.ret<|WQ.ret Z (.tmp Z (.tmp Z .nil)) (Z)
theorem aNJ {b:Nat} {gb g:bB} {B:Nat} {v:Value} {xs:List bT} {now:Int} (t:TW) (h:aZ t g B 134 dL v xs) (hb:Bk t b [U now] 22 gb) (hl:xs.length≤1000000):aL 175 [v,.func (.func 145) #[] #[Y b]] t No (fun r _=>∃z:Int,r=O z∧((z=-1∧∀i (h:i<xs.length),live now xs[i]=true)∨∃i:Nat,z=(i:Int)∧∃h:i<xs.length,live now xs[i]=false∧∀j (hj:j<i),live now xs[j]=true)):=by
 obtain⟨A,cap,rfl,kL⟩:=h.form;refine bG func175 Z ntmps175<|aD<|WL.a Z<|aB<|WC.seq<|aD<|WL.m Z<|aA (dC Z underlying123)<|WL.m Z<|aB ?_;refine WC.block<|WC.loop (σ:=Nat) (fun k t' => aZ t' g B 134 dL (.slice A xs.length cap) xs∧Bk t' b [U now] 22 gb∧k≤xs.length∧(∀j (h:j<xs.length),j<k→live now xs[j]=true)∧True) (fun k=>[(0,.slice A xs.length cap),(1,.func (.func 145) #[] #[Y b]),(7,O (xs.length:Int)),(8,O (k:Int))]) (fun k=>xs.length-k) 0 ⟨Z,Z,Z,Z,trivial⟩ ⟨h,hb,aQC _,(fun i _ h=>absurd h (aQW _)),trivial⟩ ?_;rintro k t1 ⟨h,hb,hk,hall,_⟩;refine aD<|aA (aN Z Z BO.lt)<|aB<|WC.seq ?_;refine bD Z (fun kF=>?_) (fun kF=>?_)
 ·have aW:k<xs.length:=by have:=bA kF;omega
  refine WC.skip<|WQ.n<|WC.seq<|WC.block<|aD<|WL.m Z<|WL.a Z<|aB<|aD<|WL.m Z ?_;refine WL.m Z<|WL.m Z ?_;obtain⟨bq,capq,cq,e1,kA,hR,hA,kN,eA⟩:=h.at_ (aQA aW);obtain⟨rfl,_,rfl⟩:=Value.slice.inj e1;obtain rfl:cq=kW xs[k]:=hR;rw[←aQF (k*dL.k)]at hA;refine aA (bV Z Z fU aTZ aTZ)<|WL.r (Rd.la Z nK hA)<|aI (DM (cap:=[Y b]) Z Z Jv (Sj xs[k] now _ hb) aT2) ?_;rintro _ t2 ⟨s2,rfl⟩;obtain⟨h,hb⟩:=Q2 (h.n s2) (hb.n s2);refine aB ?_;refine bD Z (fun eY=>?_) (fun eY=>?_)
  ·refine aD<|WL.m Z<|WL.a Z<|aB<|WC.ret<|f4<|WQ.tr<|WQ.tr<|f4<|WQ.tr ?_;exact WQ.ret Z (.tmp Z .nil) (⟨_,Z,.inr ⟨k,Z,aW,by unfold live;rw[eY];rfl,fun j hj=>hall j (Nat.lt_trans hj aW) hj⟩⟩)
  have CB:∀j (h:j<xs.length),j<k+1→live now xs[j]=true:=fun i h hi=>by
   rcases aSV.1 hi with hi|rfl
   ·exact hall i h hi
   unfold live;rw[eY];rfl
  exact WC.skip<|cE<|WQ.n<|WC.rg<|aA (aN Z Z (BO.add aTZ aTZ))<|WL.m Z<|WL.nil<|dX (k+1) ⟨Z,Z,Z,Z,trivial⟩ ⟨h,hb,aW,CB,trivial⟩ aTZ
 have dA:xs.length≤k:=by have:=aY kF;omega
 exact WC.exit<|cN<|cN<|fK<|WQ.n<|aD<|WL.a Z<|aB<|WC.ret<|WQ.ret Z (.tmp Z .nil) (⟨_,Z,.inl ⟨Z,fun i h=>hall i h aTZ⟩⟩)
theorem aNF {b:Nat} {gb g:bB} {B:Nat} {v:Value} {xs:List bT} {now:Int} (t:TW) (hr:aZ t g B 134 dL v xs) (hb:Bk t b [U now] 22 gb) (hg:g≠.fz) (hgb:gb≠g) (TU:g≠.loc 7) (aF3:gb≠.loc 7) (hB:B≤t.w.heap.size) (hl:xs.length≤900000):aL 143 [v,.func (.func 145) #[] #[Y b]] t (fun z=>z=g) (fun r t' => aZ t' g B 134 dL r (xs.filter (live now))):=by
 have Cz:=hr;obtain⟨A,cap,rfl,kL⟩:=hr.form;refine bG func143 Z ntmps143<|aD<|WL.a Z<|aB<|aD<|WL.m Z<|WL.m Z<|aI (Ef.call Z aAM (aNJ _ hr hb aTZ) aT2) ?_;rintro _ t1 ⟨s1,z0,rfl,TE⟩;obtain⟨hb,hr⟩:=Q2 (hb.n s1) (hr.n s1);refine WL.a Z<|aB<|WC.seq<|aD<|WL.m Z<|aA (aN Z Z dO)<|aB ?_;refine bD Z (fun H3=>?_) (fun H3=>?_)
 ·have e0:xs.filter (live now)=xs:=by
   rw[aTN];intro x hx;obtain⟨i,hi,rfl⟩:=aRT hx;rcases TE with ⟨_,h⟩|⟨i,h1,_⟩
   ·exact h i hi
   have:=bA H3;omega
  exact aD<|WL.m Z<|WL.a Z<|aB<|WC.ret<|WQ.tr<|WQ.ret Z (.tmp Z .nil) (by rw[e0];exact hr)
 obtain⟨i0,rfl,hi,hp,aE7⟩:∃i:Nat,z0=(i:Int)∧∃h:i<xs.length,live now xs[i]=false∧∀j (hj:j<i),live now xs[j]=true:=by
  rcases TE with ⟨h1,_⟩|h
  ·exact absurd h1 (aY H3)
  exact h
 obtain⟨b0,rfl⟩:∃b0,A=some ⟨b0,0,none⟩:=by
  rcases hr.cases with ⟨_,h2⟩|⟨b0,cap2,h1⟩
  ·subst h2;exact absurd hi (aQW _)
  exact⟨b0,(Value.slice.inj h1).1⟩
 obtain⟨cs0,_,sG,yN,_,Mx,qN,hC0⟩:=hr.open_;have TX:dL.k=4:=Z;rw[TX]at Mx
 have hF:(xs.take i0).filter (live now)=xs.take i0:=by
  rw[aTN];intro x hx;obtain⟨i,TV,rfl⟩:=aRT hx;rw[List.getElem_take];rw[aQD]at TV;exact aE7 i aTZ
 have hF1:(xs.take (i0+1)).filter (live now)=xs.take i0:=by rw[aQY hi,aSM,hF,aSD (by rw[hp];exact aRE),aS3,aR3]
 have K4:xs.take ((xs.take (i0+1)).filter (live now)).length=(xs.take (i0+1)).filter (live now)∧((xs.take (i0+1)).filter (live now)).length=i0:=by
  rw[hF1,aQD,aQ3 (aQ1 hi)];exact⟨rfl,rfl⟩
 refine WC.skip<|WQ.n<|WC.seq<|aD<|WL.m Z<|aA (aN Z Z (BO.add aTZ aTZ))<|WL.a Z<|aB<|WC.block<|WC.loop (σ:=Nat) (fun k t' => Bk t' b [U now] 22 gb∧i0<k∧k≤xs.length∧(∃cs L,Bk t' b0 cs 134 g∧cs.length=cap*4∧Cs dL t' cs L∧L.length=xs.length∧L.take ((xs.take k).filter (live now)).length=(xs.take k).filter (live now)∧L.drop k=xs.drop k)∧True) (fun k=>[(0,.slice (some ⟨b0,0,none⟩) xs.length cap),(1,.func (.func 145) #[] #[Y b]),(4,.slice none 0 0),(5,O (((xs.take k).filter (live now)).length:Int)),(6,O (k:Int))]) (fun k=>xs.length-k) (i0+1) ⟨Z,Z,Z,(congrArg (fun z:Nat=>some (O (z:Int))) K4.2.symm),Z,trivial⟩ ⟨hb,(aSW _),hi,⟨cs0,xs,yN,Mx,hC0,Z,K4.1,Z⟩,trivial⟩ ?_;rintro k t2 ⟨hb,hik,hk,⟨cs,L,nQ,cW,hC,ZR,K6,HQ⟩,_⟩;refine WC.seq<|aD<|WL.m Z<|WL.m Z<|aA (dC Z underlying123)<|aA (aN Z Z BO.lt)<|aB ?_;refine bD Z (fun lT=>?_) (fun lT=>?_)
 ·have aW:k<xs.length:=by have:=bA lT;omega
  have hLk:L[k]?=some xs[k]:=by have:=congrArg (fun l=>l[0]?) HQ;simpa[aW]using this
  have LH:((xs.take k).filter (live now)).length≤k:=aP8 (aRA _ _) aUA;have kY:=Ge (k:=4) (i:=k) nQ;rw[show fJ cs 4 k=kW xs[k] from hC k _ hLk,←aQF (k*4)]at kY
  have pD:(xs.take (k+1)).filter (live now)=(xs.take k).filter (live now)++[xs[k]].filter (live now):=by rw[aQY aW,aSM]
  refine WC.skip<|WQ.n<|WC.seq<|WC.block<|aD<|WL.m Z<|WL.m Z<|aA (bV Z Z fU aTZ aTZ)<|WL.r (Rd.la Z nK kY)<|aI (Ef.al (.loc 7) JO) ?_;rintro _ t3 ⟨b7,rfl,s3,aQ,nb7,_⟩;obtain⟨hb,nQ⟩:=Q2 (hb.n s3) (nQ.n s3);refine WL.e0 (Ef.T [O xs[k].id,O xs[k].status,O xs[k].prio,U xs[k].til] Z Z aQ DD (.inl nb7)) ?_;rintro _ t4 ⟨_,s4,eG⟩;have aQ:Bk t4 b7 [O xs[k].id,O xs[k].status,O xs[k].prio,U xs[k].til] _ _:=eG;clear eG;obtain⟨hb,nQ⟩:=Q2 (hb.step s4 aF3) (nQ.step s4 TU);refine aB<|aD<|WL.m Z<|WL.r (Rd.la Z nK (aQ.at (vs:=[O xs[k].id,O xs[k].status,O xs[k].prio,U xs[k].til]) Z))<|aI (DM (cap:=[Y b]) Z Z Jv (Sj xs[k] now _ hb) aT2) ?_;rintro _ t5 ⟨s5,rfl⟩;obtain⟨hb,aQ,nQ⟩:=Q3 (hb.n s5) (aQ.n s5) (nQ.n s5);refine aA (eJ Z)<|aB ?_;refine bD Z (fun rI=>?_) (fun rI=>?_)
  ·have qM:live now xs[k]=true:=by unfold live;rw[iG rI];rfl
   rw[aSN qM,aS3]at pD;refine aD<|WL.m Z<|WL.m Z<|WL.r (Rd.la Z nK (aQ.at (vs:=[O xs[k].id,O xs[k].status,O xs[k].prio,U xs[k].til]) Z))<|aA (bV Z Z fU aTZ aTZ)<|WL.e0 (Ef.st (vs:=kW xs[k]) Z Z nQ Z aT9 DD Z (by rw[cW];simp;omega) (.inr Z)) ?_;rintro _ t6 ⟨_,s6,Mn⟩;have hb:=hb.step s6 hgb;generalize hm:((xs.take k).filter (live now)).length=m at *;rw[aQF,aQP]at Mn;have kZ:Cs dL t2 (put cs (m*4) (kW xs[k])) _:=hC.put (j:=m) (zW (dk:=dL) (c:=kW xs[k]) Z) aTZ (by rw[cW,TX];omega)
   have bZ:(put cs (m*4) (kW xs[k])).length=cap*4:=by rw[lB (by rw[cW];simp;omega),cW]
   have HR:(L.take m++[xs[k]]++L.drop (m+[xs[k]].length))=L.set m xs[k]:=by rw[aTG,if_pos aTZ,aQ6];rfl
   rw[HR]at kZ
   have CP:((xs.take (k+1)).filter (live now)).length=m+1:=by rw[pD,aQE,hm];rfl
   have hL4:(L.set m xs[k]).take (m+1)=(xs.take (k+1)).filter (live now):=by rw[pD,←K6,←HR,aQ6,List.take_append,aQD,aQ3 aTZ,Nat.add_sub_cancel_left,aSG,Nat.min_eq_right aTZ];rfl
   have hL5:(L.set m xs[k]).drop (k+1)=xs.drop (k+1):=by rw[List.drop_set_of_lt aTZ,←aTB (i:=1) (j:=k) (l:=L),HQ,aTB]
   refine aB<|WC.rg<|WL.m Z<|aA (aN Z Z (BO.add aTZ aTZ))<|WL.a Z<|WL.nil<|cE<|WQ.n<|WC.rg<|WL.m Z ?_;exact aA (aN Z Z (BO.add aTZ aTZ))<|WL.a Z<|WL.nil<|dX (k+1) ⟨Z,Z,Z,(by rw[CP];rfl),Z,trivial⟩ ⟨hb,aTZ,aW,⟨_,_,Mn,bZ,kZ,(by rw[aQZ];exact ZR),(by rw[CP];exact hL4),hL5⟩,trivial⟩ aTZ
  have qM:¬live now xs[k]=true:=by unfold live;rw[rI];exact aRE
  rw[aSD qM,aS3,aR3]at pD;exact WC.skip<|cE<|WQ.n<|WC.rg<|WL.m Z<|aA (aN Z Z (BO.add aTZ aTZ))<|WL.a Z<|WL.nil<|dX (k+1) ⟨Z,Z,Z,(by rw[pD];rfl),Z,trivial⟩ ⟨hb,aTZ,aW,⟨cs,L,nQ,cW,hC,ZR,(by rw[pD];exact K6),(by rw[←aTB (i:=1) (j:=k) (l:=L),HQ,aTB])⟩,trivial⟩ aTZ
 have dA:k=xs.length:=by have:=aY lT;omega
 subst dA;rw[aQU]at K6;have pU:(xs.filter (live now)).length<xs.length:=List.length_filter_lt_length_iff_exists.2 ⟨_,aQN hi,by rw[hp];exact aRE⟩;refine Vv [(0,.slice (some ⟨b0,0,none⟩) xs.length cap),(5,O ((xs.filter (live now)).length:Int))] ⟨Z,(by rw[aQU];rfl),trivial⟩<|WC.exit<|cN<|cN<|fK<|WQ.n<|aD<|WL.m Z<|WL.m Z<|aA (kX Z Z fU aTZ aTZ aTZ) ?_;refine WL.e0 (MT (k:=4) Z underlying123 JO aTZ nQ Z aT0 (by rw[cW];omega) (.inr Z)) ?_;rintro _ t7 ⟨news2,EK,_,s7,Mo⟩;refine aB<|aD<|WL.m Z<|WL.m Z<|aA (wY Z Z fU aTZ aTZ)<|WL.a Z<|aB<|WC.ret ?_;rw[aQF,aQP]at Mo
 have j8:Cs dL t7 (put cs ((xs.filter (live now)).length*dL.k) news2) (xs.filter (live now)):=by
  have:=hC.take (xs.filter (live now)).length;rw[K6]at this;exact (this.step s7 (fun e=>hg e.symm)).tail (aP9 _) (by rw[cW,TX];omega)
 have hR:=tK Mo sG aTZ (by rw[lB (by rw[EK,cW,aQP];omega),cW,TX]) qN j8;exact WQ.ret Z (.tmp Z .nil) (hR)
end Go.Proofs.YthilcgjhhhmgoaaGreat.X
