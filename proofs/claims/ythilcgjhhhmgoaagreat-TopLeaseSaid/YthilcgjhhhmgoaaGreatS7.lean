/- One part of the proof: PLease4, PLease5, RowTopLease. No condition beyond those that each theorem names. -/
import Derived.Test.YthilcgjhhhmgoaaGreatS6
set_option linter.unusedVariables false
set_option linter.unusedSimpArgs false
set_option linter.unusedSectionVars false
namespace Go.Proofs.YthilcgjhhhmgoaaGreat.X
variable {c:Cfg} {h h' : HallS} {k:Nat} {l l' : List CallS} {st n:Int}
theorem r_stamp (h:HallS) (p:RProc) (n:Int):((rStep h p n).2.placed = p.placed ∨ (rStep h p n).2.placed = n ∨ rLkd p ∧ (rStep h p n).2.placed = p.looked) ∧ (rLkd (rStep h p n).2 → (rStep h p n).2.looked = n ∨ rLkd p ∧ (rStep h p n).2.looked = p.looked):=by
 have look:((rDo2 h p n).2.placed = p.placed ∨ (rDo2 h p n).2.placed = n ∨ rLkd p ∧ (rDo2 h p n).2.placed = p.looked) ∧ (rLkd (rDo2 h p n).2 → (rDo2 h p n).2.looked = n ∨ rLkd p ∧ (rDo2 h p n).2.looked = p.looked):=by
  refine ⟨?_,fun _=>.inl rfl⟩
  show (if _ then n else p.placed) = _ ∨ (if _ then n else p.placed) = _ ∨ _
  split
  ·exact .inr (.inl rfl)
  exact .inl rfl
 have off:∀ (q:RProc) (ph:Nat),q.placed = p.placed → ¬ rLkd q → ¬ (ph = 3 ∨ ph = 6 ∨ ph = 7) → ((rNext q ph).1.placed = p.placed ∨ (rNext q ph).1.placed = n ∨ rLkd p ∧ (rNext q ph).1.placed = p.looked) ∧ (rLkd (rNext q ph).1 → (rNext q ph).1.looked = n ∨ rLkd p ∧ (rNext q ph).1.looked = p.looked):=fun q ph e h1 h2=>by
  obtain ⟨a,b,d,e', f⟩:=rNext_all q ph
  refine ⟨.inl (e'.trans e),fun hl=>?_⟩
  unfold rLkd at hl h1
  omega
 unfold rStep
 split
 ·exact ⟨.inl rfl,fun hl=>.inr ⟨hl,rfl⟩⟩
 split
 ·refine ⟨.inr (.inl rfl),fun hl=>?_⟩
  have hl:(8:Nat) = 3 ∨ (8:Nat) = 6 ∨ (8:Nat) = 7:=hl
  omega
 unfold rDo
 split
 ·rename_i e
  exact off _ 1 rfl (fun hl=>by have hl:p.phase = 3 ∨ p.phase = 6 ∨ p.phase = 7:=hl; omega) (by decide)
 ·rename_i e
  exact off _ 2 rfl (fun hl=>by have hl:p.phase = 3 ∨ p.phase = 6 ∨ p.phase = 7:=hl; omega) (by decide)
 ·exact look
 ·rename_i e
  have hl:rLkd p:=.inl e
  generalize hp1:({ p with valid:=p.valid && decide (p.epochs.getD p.at_ 0 = (hStr h (rS p)).cv ∧ p.epochs.getD p.at_ 0 % 2 = 0 ∧ p.epochs.getD p.at_ 0 < evenB h.cfg.epochs) }:RProc) = p1
  have q1:p1.looked = p.looked ∧ p1.placed = p.placed:=by rw [← hp1]; exact ⟨rfl,rfl⟩
  have ed:(rDo3 h p).2 = if (rNext p1 8).2 = true then rJudge (rNext p1 8).1 else (rNext p1 8).1:=by rw [← hp1]; rfl
  rw [ed]
  obtain ⟨a,b', d,e,f⟩:=rNext_all p1 8
  split
  ·obtain ⟨a2,b2,d2,e2,f2⟩:=rJudge_same (rNext p1 8).1
   rw [d,q1.1,e,q1.2] at e2
   rw [d,q1.1] at d2
   exact ⟨by rcases e2 with e2 | e2; exact .inl e2; exact .inr (.inr ⟨hl,e2⟩),fun _=>.inr ⟨hl,d2⟩⟩
  exact ⟨.inl (e.trans q1.2),fun _=>.inr ⟨hl,d.trans q1.1⟩⟩
 ·rename_i e
  exact off _ 5 rfl (fun hl=>by have hl:p.phase = 3 ∨ p.phase = 6 ∨ p.phase = 7:=hl; omega) (by decide)
 ·exact look
 ·rename_i e
  have hl:rLkd p:=.inr (.inl e)
  obtain ⟨a,b', d,e,f⟩:=rNext_all { p with seen:=gput p.seen (rS p:Int) (hStr h (rS p)).book } 7
  exact ⟨.inl e,fun _=>.inr ⟨hl,d⟩⟩
 ·rename_i e
  have hl:rLkd p:=.inr (.inr e)
  have ed:(rDo7 h p).2 = if (rNext p 8).2 = true then rAnswer (rNext p 8).1 else (rNext p 8).1:=rfl
  rw [ed]
  obtain ⟨a,b', d,e,f⟩:=rNext_all p 8
  split
  ·obtain ⟨a2,b2,d2,e2,f2⟩:=rAnswer_all (rNext p 8).1
   exact ⟨.inr (.inr ⟨hl,e2.trans d⟩),fun _=>.inr ⟨hl,d2.trans d⟩⟩
  exact ⟨.inl e,fun _=>.inr ⟨hl,d⟩⟩
 exact ⟨.inl rfl,fun hl=>.inr ⟨hl,rfl⟩⟩
structure DsI (r:RunS):Prop where
 d1:∀ (a b:Nat) (x y:CallS),r.calls[a]? = some x → r.calls[b]? = some y → 0 ≤ x.placed → x.placed = y.placed → a = b
 d2:∀ (i:Nat) (d:ClientS) (p:RProc) (a:Nat) (x:CallS),r.clients[i]? = some d → d.now = some (.r p) → rLkd p → r.calls[a]? = some x → x.placed = p.looked → (a:Int) = d.call
 d3:∀ (i j:Nat) (d d' : ClientS) (p p' : RProc),r.clients[i]? = some d → r.clients[j]? = some d' → d.now = some (.r p) → d'.now = some (.r p') → rLkd p → rLkd p' → p.looked = p'.looked → i = j
 tk:∀ (a b:Nat) (x y:CallS),r.calls[a]? = some x → r.calls[b]? = some y → a < b → x.who = 9 → y.who = 9 → x.placed < y.placed
 tk0:∀ (a:Nat) (x:CallS),r.calls[a]? = some x → x.who = 9 → 0 ≤ x.placed
theorem StI.plt {r:RunS} (K:StI c r) {a:Nat} {x:CallS} (h:r.calls[a]? = some x):x.placed < r.n:=by
 have hb:=K.bd x (List.mem_of_getElem? h)
 have n0:=K.n0
 rcases hb.2.2.2.1 with e | e <;> omega
theorem StI.lk {r:RunS} (K:StI c r) {i:Nat} {d:ClientS} {p:RProc} (h:r.clients[i]? = some d) (hn:d.now = some (.r p)) (hl:rLkd p):0 ≤ p.looked ∧ p.looked < r.n:=by
 obtain ⟨hc0,x,hx,hb,_⟩:=K.cur i d _ h hn
 have hb2:=hb.2 hl
 have hbd:=K.bd x (List.mem_of_getElem? hx)
 omega
theorem DsI.app {r r' : RunS} (K:StI c r) (g:DsI r) {x:CallS} (hx:x.placed = -1 ∧ x.who ≠ 9 ∨ x.placed = r.n) (e1:r'.calls = r.calls ++ [x]) (e2:∀ (i:Nat) (d:ClientS) p,r'.clients[i]? = some d → d.now = some (.r p) → rLkd p → r.clients[i]? = some d):DsI r' := by
 have n0:=K.n0
 have hlen:∀ (a:Nat) y,r.calls[a]? = some y → a < r.calls.length:=fun a y h=>(List.getElem?_eq_some_iff.1 h).1
 refine ⟨fun a b x1 y h1 h2 h0 he=>?_,fun i d p a y hi hn hl hy he=>?_,fun i j d d' p p' hi hj hn hn' hl hl' he=>g.d3 i j d d' p p' (e2 i d p hi hn hl) (e2 j d' p' hj hn' hl') hn hn' hl hl' he,fun a b x1 y h1 h2 hab hw1 hw2=>?_,fun a y hy hw=>?_⟩
 ·rw [e1] at h1 h2
  rcases app_at h1 with g1 | ⟨rfl,rfl⟩
  ·rcases app_at h2 with g2 | ⟨rfl,rfl⟩
   ·exact g.d1 a b x1 y g1 g2 h0 he
   have:=K.plt g1
   omega
  rcases app_at h2 with h2 | ⟨rfl,_⟩
  ·have:=K.plt h2
   omega
  rfl
 ·rw [e1] at hy
  have hi:=e2 i d p hi hn hl
  rcases app_at hy with hy | ⟨rfl,rfl⟩
  ·exact g.d2 i d p a y hi hn hl hy he
  have:=K.lk hi hn hl
  omega
 ·rw [e1] at h1 h2
  rcases app_at h1 with g1 | ⟨rfl,rfl⟩
  ·rcases app_at h2 with g2 | ⟨rfl,rfl⟩
   ·exact g.tk a b x1 y g1 g2 hab hw1 hw2
   have:=K.plt g1
   omega
  rcases app_at h2 with h2 | ⟨rfl,_⟩
  ·have:=hlen b y h2
   omega
  omega
 rw [e1] at hy
 rcases app_at hy with hy | ⟨rfl,rfl⟩
 ·exact g.tk0 a y hy hw
 omega
theorem DsI.mod {r r' : RunS} (K:StI c r) (g:DsI r) {j i0:Nat} {f:CallS → CallS} {x:CallS} (hx:r.calls[j]? = some x) (h9:x.who ≠ 9) (hw:(f x).who = x.who) (hp:(f x).placed = x.placed ∨ (f x).placed = r.n ∨ ∃ (i:Nat) (d:ClientS) (p:RProc),r.clients[i]? = some d ∧ d.now = some (.r p) ∧ rLkd p ∧ (j:Int) = d.call ∧ (f x).placed = p.looked) (e1:r'.calls = r.calls.modify j f) (e2:∀ (i:Nat) (d:ClientS) p,r'.clients[i]? = some d → d.now = some (.r p) → rLkd p → ∃ d0,r.clients[i]? = some d0 ∧ d.call = d0.call ∧ (p.looked = r.n ∧ i = i0 ∧ (j:Int) = d.call ∨ ∃ p0,d0.now = some (.r p0) ∧ rLkd p0 ∧ p.looked = p0.looked)):DsI r' := by
 have n0:=K.n0
 have key:∀ (b:Nat) z,r.calls[b]? = some z → b ≠ j → 0 ≤ (f x).placed → (f x).placed = z.placed → False:=fun b z hz hb h0 he=>by
  rcases hp with e | e | ⟨i,d,p,a1,a2,a3,a4,a5⟩
  ·exact hb (g.d1 b j z x hz hx (by omega) (by omega))
  ·have:=K.plt hz
   omega
  have:=g.d2 i d p b z a1 a2 a3 hz (by omega)
  omega
 have at' : ∀ (a:Nat) y,r'.calls[a]? = some y → ∃ z,r.calls[a]? = some z ∧ (a = j ∧ z = x ∧ y = f x ∨ a ≠ j ∧ y = z):=fun a y hy=>by
  rw [e1] at hy
  obtain ⟨z,hz,rfl⟩:=modify_at hy
  refine ⟨z,hz,?_⟩
  by_cases e:j = a
  ·subst e
   rw [hx] at hz
   obtain rfl:=Option.some.inj hz
   rw [if_pos rfl]
   exact .inl ⟨rfl,rfl,rfl⟩
  rw [if_neg e]
  exact .inr ⟨fun h=>e h.symm,rfl⟩
 refine ⟨fun a b x1 y h1 h2 h0 he=>?_,fun i d p a y hi hn hl hy he=>?_,fun i i' d d' p p' hi hi' hn hn' hl hl' he=>?_,fun a b x1 y h1 h2 hab hw1 hw2=>?_,fun a y hy hw' => ?_⟩
 ·obtain ⟨z1,g1,q1⟩:=at' a x1 h1
  obtain ⟨z2,g2,q2⟩:=at' b y h2
  rcases q1 with ⟨rfl,rfl,rfl⟩ | ⟨n1,rfl⟩
  ·rcases q2 with ⟨rfl,_,_⟩ | ⟨n2,rfl⟩
   ·rfl
   exact (key b y g2 n2 h0 he).elim
  rcases q2 with ⟨rfl,rfl,rfl⟩ | ⟨n2,rfl⟩
  ·exact (key a x1 g1 n1 (by omega) he.symm).elim
  exact g.d1 a b x1 y g1 g2 h0 he
 ·obtain ⟨z,hz,q⟩:=at' a y hy
  obtain ⟨d0,b1,b2,b3⟩:=e2 i d p hi hn hl
  rcases b3 with ⟨b3,b4,b5⟩ | ⟨p0,b3,b4,b5⟩
  ·rcases q with ⟨rfl,_,_⟩ | ⟨n1,rfl⟩
   ·exact b5
   have:=K.plt hz
   omega
  rw [b2]
  have lk:=K.lk b1 b3 b4
  rcases q with ⟨rfl,rfl,rfl⟩ | ⟨n1,rfl⟩
  ·rcases hp with e | e | ⟨i', d', p', a1,a2,a3,a4,a5⟩
   ·exact g.d2 i d0 p0 a z b1 b3 b4 hz (by omega)
   ·omega
   have:=g.d3 i' i d' d0 p' p0 a1 b1 a2 b3 a3 b4 (by omega)
   subst this
   rw [a1] at b1
   obtain rfl:=Option.some.inj b1
   exact a4
  exact g.d2 i d0 p0 a y b1 b3 b4 hz (by omega)
 ·obtain ⟨d0,b1,b2,b3⟩:=e2 i d p hi hn hl
  obtain ⟨d0', c1,c2,c3⟩:=e2 i' d' p' hi' hn' hl'
  rcases b3 with ⟨b3,b4,b5⟩ | ⟨p0,b3,b4,b5⟩
  ·rcases c3 with ⟨c3,c4,c5⟩ | ⟨p1,c3,c4,c5⟩
   ·omega
   have:=K.lk c1 c3 c4
   omega
  rcases c3 with ⟨c3,c4,c5⟩ | ⟨p1,c3,c4,c5⟩
  ·have:=K.lk b1 b3 b4
   omega
  exact g.d3 i i' d0 d0' p0 p1 b1 c1 b3 c3 b4 c4 (by omega)
 ·obtain ⟨z1,g1,q1⟩:=at' a x1 h1
  obtain ⟨z2,g2,q2⟩:=at' b y h2
  rcases q1 with ⟨rfl,rfl,rfl⟩ | ⟨n1,rfl⟩
  ·rw [hw] at hw1
   exact absurd hw1 h9
  rcases q2 with ⟨rfl,rfl,rfl⟩ | ⟨n2,rfl⟩
  ·rw [hw] at hw2
   exact absurd hw2 h9
  exact g.tk a b x1 y g1 g2 hab hw1 hw2
 obtain ⟨z,hz,q⟩:=at' a y hy
 rcases q with ⟨rfl,rfl,rfl⟩ | ⟨n1,rfl⟩
 ·rw [hw] at hw'
  exact absurd hw' h9
 exact g.tk0 a y hz hw'
theorem dsI_inv:Inv (StI c) DsI where
 idle r _ g:=⟨g.d1,g.d2,g.d3,g.tk,g.tk0⟩
 beg r i d K g hd hn ho:=by
  obtain ⟨e1,e2,e3,e4,e5,e6⟩:=rB_eq r i d
  have i8:=K.who8 hd
  refine g.app K (x:=cBeg r ⟨i,d.at_,d.ops.getD d.at_ zOpr,0,0,0,0,0,zReply⟩) (.inl ⟨rfl,by show (i:Int) ≠ 9; omega⟩) e1 fun j d' p hj hp hl=>?_
  rcases set_at hj with ⟨rfl,rfl⟩ | ⟨hne,hj⟩
  ·have hp:some (newP r.h j (d.ops.getD d.at_ zOpr)) = some (.r p):=hp
   replace hp:=Option.some.inj hp
   unfold newP at hp
   split at hp
   ·cases hp
   ·split at hp
    ·obtain rfl:=ProcS.r.inj hp
     have hl:(0:Nat) = 3 ∨ (0:Nat) = 6 ∨ (0:Nat) = 7:=hl
     omega
    ·cases hp
  ·exact hj
 move r i d p K g hd hn hen:=by
  have i8:=K.who8 hd
  obtain ⟨hc0,x,hx,hb,hw,hend,hpl,hm⟩:=K.cur i d p hd hn
  obtain ⟨k1,k2,k3,k4,k5,k6⟩:=callAt_ke x r.n (pStep r.h d.mine r.n p).2.2
  have hj:((d.call.toNat:Nat):Int) = d.call:=by omega
  refine DsI.mod (r' := rInc (rMove r i d p)) K g (i0:=i) (f:=fun x=>callAt x r.n (pStep r.h d.mine r.n p).2.2) hx (by omega) k1 ?_ rfl fun j d' q hj' hq hl=>?_
  ·show (callAt x r.n (pStep r.h d.mine r.n p).2.2).placed = _ ∨ (callAt x r.n (pStep r.h d.mine r.n p).2.2).placed = _ ∨ _
   rw [k4,hpl]
   cases p with
   | w p=>
    rcases (wStep_keep r.h p r.n).2.2.2 with e | e
    ·exact .inl e
    ·exact .inr (.inl e)
   | r p=>
    rcases (r_stamp r.h p r.n).1 with e | e | ⟨e1,e2⟩
    ·exact .inl e
    ·exact .inr (.inl e)
    ·exact .inr (.inr ⟨i,d,p,hd,hn,e1,hj,e2⟩)
   | d p=>
    rcases (hdStep_keep r.h d.mine p r.n).2.2.2.2 with e | e
    ·exact .inl e
    ·exact .inr (.inl e)
  ·rcases set_at hj' with ⟨rfl,rfl⟩ | ⟨hne,hj'⟩
   ·refine ⟨d,hd,rfl,?_⟩
    simp only at hq
    split at hq
    ·cases hq
    ·replace hq:=Option.some.inj hq
     cases p with
     | w p=>cases hq
     | d p=>cases hq
     | r p=>
      obtain rfl:=ProcS.r.inj hq
      rcases (r_stamp r.h p r.n).2 hl with e | ⟨e1,e2⟩
      ·exact .inl ⟨e,rfl,hj⟩
      ·exact .inr ⟨p,hn,e1,e2⟩
   ·exact ⟨d', hj', rfl,.inr ⟨q,hq,hl,rfl⟩⟩
 swb r K g hs _ _:=by
  have e:rSwBeg r = { rBegan r ⟨8,r.sweeps,zOpr,r.sw.stripe,0,0,0,0,zReply⟩ with sweep:=r.calls.length,sweeps:=r.sweeps + 1 }:=by
   unfold rSwBeg
   rw [if_pos hs]
  rw [e]
  exact g.app K (x:=cBeg r ⟨8,r.sweeps,zOpr,r.sw.stripe,0,0,0,0,zReply⟩) (.inl ⟨rfl,by show (8:Int) ≠ 9; decide⟩) rfl fun j d' p hj _ _=>hj
 swm r K g hs hen:=by
  obtain ⟨x,hx,hw,hend,_,hpl,hst⟩:=K.swc hs
  cases hd:wDone (wStep r.h r.sw.now r.n).2 with
  | true=>
   rw [rSwMove_done hd]
   exact g.mod K (i0:=0) (f:=fun x=>{ x with ended:=r.n }) hx (by omega) rfl (.inl rfl) rfl fun j d' q hj' hq hl=>⟨d', hj', rfl,.inr ⟨q,hq,hl,rfl⟩⟩
  | false=>
   rw [rSwMove_on hd]
   refine g.mod K (i0:=0) (f:=fun x=>{ x with placed:=(wStep r.h r.sw.now r.n).2.placed }) hx (by omega) rfl ?_ rfl fun j d' q hj' hq hl=>⟨d', hj', rfl,.inr ⟨q,hq,hl,rfl⟩⟩
   show (wStep r.h r.sw.now r.n).2.placed = _ ∨ (wStep r.h r.sw.now r.n).2.placed = _ ∨ _
   rw [hpl]
   rcases (wStep_keep r.h r.sw.now r.n).2.2.2 with e | e
   ·exact .inl e
   ·exact .inr (.inl e)
 tick r b K g _ _:=g.app K (x:=⟨9,r.ticks,zOpr,0,b,r.n,r.n,r.n,zReply⟩) (.inr rfl) rfl fun j d' p hj _ _=>hj
theorem dsI_new (s:Script) (fp:Nat → Nat):DsI (runNew s fp):=by
 have hno:∀ (j:Nat) (d:ClientS) (p:RProc),(runNew s fp).clients[j]? = some d → d.now = some (.r p) → False:=fun j d p hj hp=>by
  obtain ⟨l,_,rfl⟩:=List.mem_map.1 (List.mem_of_getElem? hj)
  cases hp
 exact ⟨fun a b x y hx=>(by cases hx),fun i d p a x hi hn=>(hno i d p hi hn).elim,fun i j d d' p p' hi _ hn=>(hno i d p hi hn).elim,fun a b x y hx=>(by cases hx),fun a x hx=>(by cases hx)⟩
variable {c:Cfg} {h h' : HallS} {k:Nat} {l l' : List CallS} {st n:Int}
def PLs (st n:Int) (h:HallS) (l:List CallS):ProcS → Prop
 | .w p=>WL2 st l p ∧ (p.act = .bad → p.placed = -1)
 | .r p=>RL st n h l p
 | .d _=>True
theorem RL.strs {p:RProc} (g:RL st n h l p) (e:h'.strs = h.strs):RL st n h' l p:=by
 have es:∀ s,hStr h' s = hStr h s:=fun s=>by
  unfold hStr
  rw [e]
 exact ⟨g.tm,g.s1,g.s2,fun h4 i s hi hs=>by rw [es]; exact g.l4 h4 i s hi hs,fun h5 i s hs=>by rw [es]; exact g.l5 h5 i s hs,fun h6 i s hs=>by rw [es]; exact g.b6 h6 i s hs⟩
theorem PLs.strs {p:ProcS} (g:PLs st n h l p) (e:h'.strs = h.strs):PLs st n h' l p:=by
 cases p with
 | w p=>exact g
 | r p=>exact RL.strs g e
 | d p=>trivial
theorem PLs.other {i:Nat} {x:Opr} {p:ProcS} (hm:PM c i x p) (g:PLs st n h l p) {w:Int} (r:HR2 w h h') (hne:(i:Int) ≠ w) (m:LM st n l l') {n' : Int} (hn:n ≤ n') (hp:pPlaced p ≤ n):PLs st n' h' l' p:=by
 cases p with
 | w p=>exact ⟨g.1.calls m hp,g.2⟩
 | r p=>exact RL.other g r (by rw [hm.2.1]; exact hne) m hn
 | d p=>trivial
theorem pls_new (h0:HallS) (i:Nat) (x:Opr):PLs st n h l (newP h0 i x):=by
 unfold newP
 split
 ·exact ⟨⟨fun _ h3=>absurd h3 (by show ¬ 3 ≤ 0; decide),fun _ _=>rfl⟩,fun _=>rfl⟩
 split
 ·refine RL.off (fun hl=>?_) (fun q hq=>(by cases hq)) (by show (0:Nat) ≠ 4 ∧ (0:Nat) ≠ 5; decide)
  have hl:(0:Nat) = 3 ∨ (0:Nat) = 6 ∨ (0:Nat) = 7:=hl
  omega
 trivial
theorem w_bad {p:WProc} (hb:p.act = .bad) (he:wEnabled h p = true) (n:Int):wDone (wStep h p n).2 = true:=by
 unfold wStep
 rw [if_neg (by rw [he]; decide),if_pos (by rw [hb]; rfl)]
 rfl
theorem lm_mod {j:Nat} {f:CallS → CallS} {x:CallS} (hx:l[j]? = some x) (h9:x.who ≠ 9) (h1:(f x).who = x.who) (h2:(f x).op = x.op) (h3:(f x).by_ = x.by_) (h4:x.who < 8 → (x.op.kind = 1 ∨ x.op.kind = 2) → 0 ≤ x.placed → (f x).placed = x.placed):(∀ p,nowAt st (l.modify j f) p = nowAt st l p) ∧ LM st n l (l.modify j f):=by
 have hnow:∀ p,nowAt st (l.modify j f) p = nowAt st l p:=fun p=>by
  refine nowAt_congr (by simp) (fun i y hy=>?_) p
  have:=modify_at' (j:=j) (f:=f) hy
  by_cases e:j = i
  ·subst e
   rw [hx] at hy
   obtain rfl:=Option.some.inj hy
   rw [if_pos rfl] at this
   exact ⟨_,this,h1,h3,fun h=>absurd h h9⟩
  rw [if_neg e] at this
  exact ⟨_,this,rfl,rfl,fun _=>rfl⟩
 refine ⟨hnow,fun y hy hw hk h0=>?_,fun p _=>hnow p⟩
 obtain ⟨i,hi⟩:=mem_at hy
 have:=modify_at' (j:=j) (f:=f) hi
 by_cases e:j = i
 ·subst e
  rw [hx] at hi
  obtain rfl:=Option.some.inj hi
  rw [if_pos rfl] at this
  exact ⟨_,List.mem_of_getElem? this,h1,h2,h4 hw hk h0⟩
 rw [if_neg e] at this
 exact ⟨_,List.mem_of_getElem? this,rfl,rfl,rfl⟩
theorem lm_app {x:CallS} (h9:x.who = 9 → x.placed = n):LM st n l (l ++ [x]):=by
 refine ⟨fun y hy _ _ _=>⟨y,List.mem_append_left _ hy,rfl,rfl,rfl⟩,fun p hp=>?_⟩
 rw [nowAt_app,if_neg fun h=>?_]
 have:=h9 h.1
 omega
theorem lm_refl:LM st n l l:=⟨fun y a _ _ _=>⟨y,a,rfl,rfl,rfl⟩,fun _ _=>rfl⟩
def CLe (st:Int) (l:List CallS) (x:CallS):Prop:=x.who < 8 → 0 ≤ x.ended → x.reply.err = 0 → ∀ (i:Nat) u v,(usersOf x.op)[i]? = some u → x.reply.values[i]? = some v → v.live ≠ 0 → Le st l x.placed u
def W64 (x:Int):Prop:=0 ≤ x ∧ x ≤ 18446744073709551615
structure LsI (c:Cfg) (r:RunS):Prop where
 tw:∀ p,r.n ≤ p → nowAt c.start r.calls p = r.h.time.now
 hb:HB c.start r.n r.h r.calls
 ps:∀ (i:Nat) (d:ClientS) p,r.clients[i]? = some d → d.now = some p → PLs c.start r.n r.h r.calls p
 sw:WL2 c.start r.calls r.sw.now
 rg:∀ x ∈ r.calls,W64 x.by_ ∧ W64 x.op.ttl
 cs:∀ x ∈ r.calls,CLe c.start r.calls x
theorem StI.swp {r:RunS} (K:StI c r):r.sw.now.placed < r.n:=by
 have n0:=K.n0
 rcases Int.lt_or_le r.sweep 0 with h | h
 ·rw [K.swn h]
  show (-1:Int) < r.n
  omega
 obtain ⟨x,hx,_,_,_,hpl,_⟩:=K.swc h
 have:=K.plt hx
 omega
theorem StI.ppl {r:RunS} (K:StI c r) {i:Nat} {d:ClientS} {p:ProcS} (hd:r.clients[i]? = some d) (hn:d.now = some p):pPlaced p < r.n:=by
 obtain ⟨_,x,hx,_,_,_,hpl,_⟩:=K.cur i d p hd hn
 have:=K.plt hx
 omega
theorem LsI.app {r r' : RunS} (K:StI c r) (g:LsI c r) {x:CallS} (hz:x.reply = zReply) (hr:W64 x.by_ ∧ W64 x.op.ttl) (h9:x.who = 9 → x.placed = r.n) (e1:r'.calls = r.calls ++ [x]) (es:r'.h.strs = r.h.strs) (hn:r.n ≤ r'.n) (tw:∀ p,r'.n ≤ p → nowAt c.start r'.calls p = r'.h.time.now) (hps:∀ (i:Nat) (d:ClientS) p,r'.clients[i]? = some d → d.now = some p → r.clients[i]? = some d ∨ ∃ h0 x0,p = newP h0 i x0) (hsw:r'.sw = r.sw):LsI c r' := by
 have m:LM c.start r.n r.calls r'.calls:=by rw [e1]; exact lm_app h9
 refine ⟨tw,(g.hb.strs es).calls m hn,fun i d p hi hp=>?_,by rw [hsw]; exact g.sw.calls m (Int.le_of_lt K.swp),fun y hy=>?_,fun y hy=>?_⟩
 ·rcases hps i d p hi hp with hi | ⟨h0,x0,rfl⟩
  ·obtain ⟨_,x,_,_,_,_,_,hm⟩:=K.cur i d p hi hp
   exact ((g.ps i d p hi hp).strs es).other hm (HR2.strs (w:=-1) rfl rfl) (by omega) m hn (Int.le_of_lt (K.ppl hi hp))
  exact pls_new h0 i x0
 ·rw [e1] at hy
  rcases List.mem_append.1 hy with hy | hy
  ·exact g.rg y hy
  rw [List.mem_singleton.1 hy]
  exact hr
 rw [e1] at hy
 rcases List.mem_append.1 hy with hy | hy
 ·intro a1 a2 a3 i u v a4 a5 a6
  obtain ⟨j,hj⟩:=mem_at hy
  exact (g.cs y hy a1 a2 a3 i u v a4 a5 a6).calls m (Int.le_of_lt (K.plt hj))
 rw [List.mem_singleton.1 hy]
 intro a1 a2 a3 i u v a4 a5
 rw [hz] at a5
 cases a5
theorem LsI.mod {r r' : RunS} (K:StI c r) (g:LsI c r) {j:Nat} {f:CallS → CallS} {x:CallS} (hx:r.calls[j]? = some x) (h9:x.who ≠ 9) (h1:(f x).who = x.who) (h2:(f x).op = x.op) (h3:(f x).by_ = x.by_) (h4:x.who < 8 → (x.op.kind = 1 ∨ x.op.kind = 2) → 0 ≤ x.placed → (f x).placed = x.placed) (e1:r'.calls = r.calls.modify j f) (e2:r'.n = r.n + 1) (et:r'.h.time.now = r.h.time.now) (hb:HB c.start r.n r'.h r.calls) (hps:LM c.start (r.n + 1) r.calls r'.calls → ∀ (i:Nat) (d:ClientS) p,r'.clients[i]? = some d → d.now = some p → PLs c.start (r.n + 1) r'.h r'.calls p) (hsw:LM c.start (r.n + 1) r.calls r'.calls → WL2 c.start r'.calls r'.sw.now) (hc:(f x).placed ≤ r.n ∧ CLe c.start r.calls (f x)):LsI c r' := by
 obtain ⟨m1,m2⟩:=lm_mod (st:=c.start) (n:=r.n + 1) hx h9 h1 h2 h3 h4
 rw [← e1] at m1 m2
 have m:LM c.start r.n r.calls r'.calls:=⟨m2.m1,fun p _=>m1 p⟩
 have at' : ∀ y ∈ r'.calls,y = f x ∨ y ∈ r.calls:=fun y hy=>by
  rw [e1] at hy
  obtain ⟨a,ha⟩:=mem_at hy
  obtain ⟨z,hz,rfl⟩:=modify_at ha
  by_cases e:j = a
  ·subst e
   rw [hx] at hz
   obtain rfl:=Option.some.inj hz
   rw [if_pos rfl]
   exact .inl rfl
  rw [if_neg e]
  exact .inr (List.mem_of_getElem? hz)
 refine ⟨fun p hp=>by rw [m1,et]; exact g.tw p (by omega),hb.calls m (by omega),fun i d p hi hp=>by rw [e2]; exact hps m2 i d p hi hp,hsw m2,fun y hy=>?_,fun y hy=>?_⟩
 ·rcases at' y hy with rfl | hy
  ·rw [h2,h3]
   exact g.rg x (List.mem_of_getElem? hx)
  exact g.rg y hy
 intro a1 a2 a3 i u v a4 a5 a6
 rcases at' y hy with rfl | hy
 ·exact (hc.2 a1 a2 a3 i u v a4 a5 a6).calls m hc.1
 obtain ⟨a,ha⟩:=mem_at hy
 exact (g.cs y hy a1 a2 a3 i u v a4 a5 a6).calls m (Int.le_of_lt (K.plt ha))
theorem by_callAt (x:CallS) (n:Int) (p:ProcS):(callAt x n p).by_ = x.by_:=by
 unfold callAt
 split <;> rfl
theorem w64_0:W64 0:=by unfold W64; omega
theorem r_nobody {p:RProc} (ri:RI c p k) (hu:p.users = []) (he:rEnabled h p = true) (n:Int):(rStep h p n).2.err ≠ 0:=by
 have hs:p.stripes = []:=by
  rw [ri.st,hu]
  unfold stripesIn
  simp
 unfold rStep
 rw [if_neg (by rw [he]; decide),if_pos hs]
 show (1:Int) ≠ 0
 decide
theorem lsI_inv:Inv (fun r=>(StI c r ∧ SeqI r) ∧ (r.n ≤ 10000 → WatI c r)) (fun r=>r.n ≤ 10000 → LsI c r) where
 idle r K g hn:=by
  have hn' : r.n + 1 ≤ 10000:=hn
  have g:=g (by omega)
  have K:=K.1.1
  have m:LM c.start r.n r.calls r.calls:=lm_refl
  refine ⟨fun p hp=>g.tw p (by have hp:r.n + 1 ≤ p:=hp; omega),g.hb.calls m (by show r.n ≤ r.n + 1; omega),fun i d p hi hp=>?_,g.sw,g.rg,g.cs⟩
  obtain ⟨_,x,_,_,_,_,_,hm⟩:=K.cur i d p hi hp
  exact (g.ps i d p hi hp).other hm (HR2.strs (w:=-1) rfl rfl) (by omega) m (by show r.n ≤ r.n + 1; omega) (Int.le_of_lt (K.ppl hi hp))
 beg r i d K g hd hn ho hN:=by
  obtain ⟨⟨K,S⟩,W⟩:=K
  obtain ⟨e1,e2,e3,e4,e5,e6⟩:=rB_eq r i d
  have g:=g hN
  have i8:=K.who8 hd
  obtain ⟨kk,hH,hR⟩:=K.k
  have hop:OpI (d.ops.getD d.at_ zOpr):=(hR.cl d (List.mem_of_getElem? hd)).op _ (by
   rw [List.getD_eq_getElem?_getD,List.getElem?_eq_getElem ho]
   exact List.getElem_mem ho)
  refine g.app K (x:=cBeg r ⟨i,d.at_,d.ops.getD d.at_ zOpr,0,0,0,0,0,zReply⟩) rfl ⟨w64_0,hop.ttl⟩ (fun h=>by have h:(i:Int) = 9:=h; omega) rfl rfl (Int.le_refl _) (fun p hp=>?_) (fun j d' p hj hp=>?_) rfl
  ·rw [e1,nowAt_app,if_neg fun h=>by have h:(i:Int) = 9:=h.1; omega]
   exact g.tw p hp
  ·rcases set_at hj with ⟨rfl,rfl⟩ | ⟨hne,hj⟩
   ·exact .inr ⟨r.h,_,(Option.some.inj hp).symm⟩
   ·exact .inl hj
 move r i d p K g hd hn hen hN:=by
  obtain ⟨⟨K,S⟩,W⟩:=K
  have hN' : r.n + 1 ≤ 10000:=hN
  have g:=g (by omega)
  have W:=W (by omega)
  have n0:=K.n0
  have i8:=K.who8 hd
  obtain ⟨hc0,x,hx,hb,hw,hend,hpl,hm⟩:=K.cur i d p hd hn
  have hbd:=K.bd x (List.mem_of_getElem? hx)
  obtain ⟨kk,hH,hR⟩:=K.k
  have hp:=(hR.cl d (List.mem_of_getElem? hd)).now p hn
  obtain ⟨hm2,hb2⟩:=pm_step r.h d.mine (n:=r.n + 1) hbd.2.2.1 (by omega) hm hb
  obtain ⟨k1,k2,k3,k4,k5,k6⟩:=callAt_ke x r.n (pStep r.h d.mine r.n p).2.2
  have gp:=g.ps i d p hd hn
  have gw:=W.ps i d p hd hn
  have ppl:=K.ppl hd hn
  have hnow:r.h.time.now = nowAt c.start r.calls r.n:=(g.tw r.n (Int.le_refl _)).symm
  have pl2:pPlaced (pStep r.h d.mine r.n p).2.2 ≤ r.n:=by
   rcases hb2.pl with e | e <;> omega
  have key:HB c.start r.n (pStep r.h d.mine r.n p).1 r.calls ∧ (pDone (pStep r.h d.mine r.n p).2.2 = false → PLs c.start (r.n + 1) (pStep r.h d.mine r.n p).1 r.calls (pStep r.h d.mine r.n p).2.2) ∧ HR2 (i:Int) r.h (pStep r.h d.mine r.n p).1 ∧ ((x.op.kind = 1 ∨ x.op.kind = 2) → 0 ≤ pPlaced p → pPlaced (pStep r.h d.mine r.n p).2.2 = pPlaced p) ∧ (pDone (pStep r.h d.mine r.n p).2.2 = true → (pReply (pStep r.h d.mine r.n p).2.2).err = 0 → ∀ (i:Nat) u v,(usersOf x.op)[i]? = some u → (pReply (pStep r.h d.mine r.n p).2.2).values[i]? = some v → v.live ≠ 0 → Le c.start r.calls (pPlaced (pStep r.h d.mine r.n p).2.2) u):=by
   cases p with
   | w p=>
    have hcl:WCall r.calls p:=fun y hy=>by
     have:=hm.2.2.2
     rw [hy] at this
     split at this
     ·cases this
     obtain rfl:=WAct.wr.inj this
     exact ⟨x,List.mem_of_getElem? hx,by omega,rfl,hpl⟩
    obtain ⟨a1,a2,a3,a4⟩:=w_lease hH hp gw g.hb gp.1 hcl n0 ppl hnow
    rw [hm.2.1] at a3
    refine ⟨a1,fun hdn=>⟨a2,fun hbad=>?_⟩,a3,fun hk h0=>?_,fun _ _ j u v _ hv=>by cases hv⟩
    ·have e:(wStep r.h p r.n).2.act = p.act:=(wStep_keep r.h p r.n).2.2.1
     have:=w_bad (e.symm.trans hbad) hen r.n
     have hdn:wDone (wStep r.h p r.n).2 = false:=hdn
     rw [this] at hdn
     cases hdn
    by_cases hbad:p.act = .bad
    ·have:=gp.2 hbad
     have h0:0 ≤ p.placed:=h0
     omega
    exact a4 hbad h0
   | r p=>
    obtain ⟨a1,a2,a3,a4⟩:=r_lease K.ci hH hp.1 g.hb gp n0 hnow
    rw [hm.2.1] at a3
    refine ⟨a1,fun _=>a2,a3,fun hk=>by have:=hm.1; omega,fun hdn herr j u v hu hv hlv=>?_⟩
    have h8:(rStep r.h p r.n).2.phase = 8:=dcT hdn
    have hp8:p.phase ≠ 8:=fun e=>by
     have hen:rEnabled r.h p = true:=hen
     unfold rEnabled at hen
     rw [decide_eq_true e] at hen
     cases hen
    have er:pReply (pStep r.h d.mine r.n (ProcS.r p)).2.2 = ⟨(rStep r.h p r.n).2.err,(rStep r.h p r.n).2.values,[],false⟩:=by
     show rReply (rStep r.h p r.n).2 = _
     unfold rReply
     rw [if_pos h8]
    rw [er] at herr hv
    have hus:(rStep r.h p r.n).2.users = rUsers x.op:=hm2.2.2
    by_cases hbad:badOp x.op = true
    ·exfalso
     have:p.users = []:=by
      rw [hm.2.2]
      unfold rUsers
      rw [if_pos hbad]
     exact r_nobody hp.1 this hen r.n herr
    refine a4 hp8 h8 herr j u v ?_ hv hlv
    rw [hus]
    unfold rUsers
    rw [if_neg hbad]
    exact hu
   | d p=>
    obtain ⟨a1,a2⟩:=d_lease g.hb d.mine p r.n
    rw [hm.2.2.1] at a2
    refine ⟨a1,fun _=>trivial,a2,fun hk=>by have:=hm.1; omega,fun _ _ j u v _ hv=>?_⟩
    have er:(pReply (pStep r.h d.mine r.n (ProcS.d p)).2.2).values = []:=by
     show (hdReply (hdStep r.h d.mine p r.n).2.2).values = _
     unfold hdReply
     split <;> rfl
    rw [er] at hv
    cases hv
  obtain ⟨a1,a2,a3,a4,a5⟩:=key
  refine g.mod (r' := rInc (rMove r i d p)) K (f:=fun x=>callAt x r.n (pStep r.h d.mine r.n p).2.2) hx (by omega) k1 k2 (by_callAt _ _ _) (fun _ hk h0=>?_) rfl rfl a3.now a1 (fun m j d' p' hj hp' => ?_) (fun m=>g.sw.calls m (by have:=K.swp; omega)) ⟨by rw [k4]; exact pl2,fun _ b2 b3 j u v b4 b5 b6=>?_⟩
  ·rw [k4,a4 hk (by rw [← hpl]; exact h0),hpl]
  ·rcases set_at hj with ⟨rfl,rfl⟩ | ⟨hji,hj⟩
   ·simp only at hp'
    split at hp'
    ·cases hp'
    rename_i hdn
    obtain rfl:=Option.some.inj hp'
    exact (a2 (by simpa using hdn)).other hm2 (HR2.strs (w:=-1) rfl rfl) (by omega) m (Int.le_refl _) (by omega)
   obtain ⟨_,x2,_,_,_,_,_,hm'⟩:=K.cur j d' p' hj hp'
   have:=K.ppl hj hp'
   exact (g.ps j d' p' hj hp').other hm' a3 (by omega) ⟨m.m1,fun p hp=>m.m2 p (by omega)⟩ (by omega) (by omega)
  ·rw [k2] at b4
   rw [k4]
   cases hdn:pDone (pStep r.h d.mine r.n p).2.2 with
   | false=>
    rw [(k5 hdn).1] at b2
    omega
   | true=>
    rw [(k6 hdn).2] at b3 b5
    exact a5 hdn b3 j u v b4 b5 b6
 swb r K g hs _ _ hN:=by
  obtain ⟨⟨K,S⟩,W⟩:=K
  have e:rSwBeg r = { rBegan r ⟨8,r.sweeps,zOpr,r.sw.stripe,0,0,0,0,zReply⟩ with sweep:=r.calls.length,sweeps:=r.sweeps + 1 }:=by
   unfold rSwBeg
   rw [if_pos hs]
  have g:=g (by rw [e] at hN; exact hN)
  rw [e]
  refine g.app K (x:=cBeg r ⟨8,r.sweeps,zOpr,r.sw.stripe,0,0,0,0,zReply⟩) rfl ⟨w64_0,w64_0⟩ (fun h=>by have h:(8:Int) = 9:=h; omega) rfl rfl (Int.le_refl _) (fun p hp=>?_) (fun j d' p hj hp=>.inl hj) rfl
  show nowAt c.start (r.calls ++ [_]) p = _
  rw [nowAt_app,if_neg fun h=>by have h:(8:Int) = 9:=h.1; omega]
  exact g.tw p hp
 swm r K g hs hen hN:=by
  obtain ⟨⟨K,S⟩,W⟩:=K
  have n0:=K.n0
  obtain ⟨x,hx,hw,hend,hpw,hpl,hst⟩:=K.swc hs
  obtain ⟨kk,hH,hR⟩:=K.k
  have gen:∀ (f:CallS → CallS) (r' : RunS),r.n + 1 ≤ 10000 → (f x).who = x.who → (f x).op = x.op → (f x).by_ = x.by_ → (f x).reply = x.reply → (f x).placed ≤ r.n → r'.calls = r.calls.modify r.sweep.toNat f → r'.clients = r.clients → r'.h = (wStep r.h r.sw.now r.n).1 → r'.n = r.n + 1 → (WL2 c.start r.calls (wStep r.h r.sw.now r.n).2 → LM c.start (r.n + 1) r.calls r'.calls → WL2 c.start r'.calls r'.sw.now) → LsI c r' := fun f r' hN' f1 f2 f3 f4 f5 e1 e2 e3 e4 e5=>by
   have g:=g (by omega)
   have W:=W (by omega)
   obtain ⟨a1,a2,a3,a4⟩:=w_lease hH hR.sw W.sw g.hb g.sw (fun y hy=>by rw [K.sww.2.2] at hy; cases hy) n0 K.swp (g.tw r.n (Int.le_refl _)).symm
   rw [K.sww.1] at a3
   refine g.mod K hx (by omega) f1 f2 f3 (fun h8=>by omega) e1 e4 (by rw [e3]; exact a3.now) (by rw [e3]; exact a1) (fun m j d' p' hj hp' => ?_) (fun m=>e5 a2 m) ⟨f5,fun b1=>by omega⟩
   rw [e2] at hj
   obtain ⟨_,x2,_,_,_,_,_,hm'⟩:=K.cur j d' p' hj hp'
   have:=K.ppl hj hp'
   have i8:=K.who8 hj
   rw [e3]
   exact (g.ps j d' p' hj hp').other hm' a3 (by omega) ⟨m.m1,fun p hp=>m.m2 p (by omega)⟩ (by omega) (by omega)
  cases hd:wDone (wStep r.h r.sw.now r.n).2 with
  | true=>
   rw [rSwMove_done hd] at hN ⊢
   exact gen (fun x=>{ x with ended:=r.n }) _ hN rfl rfl rfl rfl (by have:=K.plt hx; show x.placed ≤ r.n; omega) rfl rfl rfl rfl (fun _ _=>⟨fun _ h3=>absurd h3 (by show ¬ 3 ≤ 0; decide),fun _ _=>rfl⟩)
  | false=>
   rw [rSwMove_on hd] at hN ⊢
   have hpp:(wStep r.h r.sw.now r.n).2.placed ≤ r.n:=by
    have:=K.swp
    rcases (wStep_keep r.h r.sw.now r.n).2.2.2 with e | e <;> omega
   exact gen (fun x=>{ x with placed:=(wStep r.h r.sw.now r.n).2.placed }) _ hN rfl rfl rfl rfl hpp rfl rfl rfl rfl (fun h m=>h.calls m (by omega))
 tick r b K g h0 h1 hN:=by
  obtain ⟨⟨K,S⟩,W⟩:=K
  have hN' : r.n + 1 ≤ 10000:=hN
  have g:=g (by omega)
  refine g.app K (x:=⟨9,r.ticks,zOpr,0,b,r.n,r.n,r.n,zReply⟩) rfl ⟨⟨h0,h1⟩,w64_0⟩ (fun _=>rfl) rfl rfl (by show r.n ≤ r.n + 1; omega) (fun p hp=>?_) (fun j d' p hj hp=>.inl hj) rfl
  have hp:r.n + 1 ≤ p:=hp
  show nowAt c.start (r.calls ++ [_]) p = _
  rw [nowAt_app,if_pos ⟨rfl,by show r.n < p; omega⟩,g.tw p (by omega)]
  rfl
theorem lsI_new (s:Script) (fp:Nat → Nat):LsI s.cfg (runNew s fp):=by
 have hst:∀ i,(hStr (hNew s.cfg fp) i).book = noBook ∧ (hStr (hNew s.cfg fp) i).snap = noBook:=fun i=>by
  unfold hStr
  rw [List.getD_eq_getElem?_getD]
  cases e:(hNew s.cfg fp).strs[i]? with
  | none=>exact ⟨rfl,rfl⟩
  | some x=>
   have:=List.mem_of_getElem? e
   obtain ⟨j,_,rfl⟩:=List.mem_map.1 this
   exact ⟨rfl,rfl⟩
 refine ⟨fun p hp=>rfl,⟨fun i u x hx=>?_,fun i u x hx=>?_⟩,fun j d p hj hp=>?_,⟨fun _ h3=>absurd h3 (by show ¬ 3 ≤ 0; decide),fun _ _=>rfl⟩,fun x hx=>(by cases hx),fun x hx=>(by cases hx)⟩
 ·have hx:x ∈ bSs (hStr (hNew s.cfg fp) i).book u:=hx
  rw [(hst i).1] at hx
  cases hx
 ·have hx:x ∈ bSs (hStr (hNew s.cfg fp) i).snap u:=hx
  rw [(hst i).2] at hx
  cases hx
 obtain ⟨l,_,rfl⟩:=List.mem_map.1 (List.mem_of_getElem? hj)
 cases hp
theorem lease_I {s:Script} (hw:WordsS s) (hs:shortS s 900 = true) (hc:checkS s = 0) (fp:Nat → Nat):(StI s.cfg (runPlay s fp s.picks.length) ∧ DsI (runPlay s fp s.picks.length)) ∧ LsI s.cfg (runPlay s fp s.picks.length):=by
 have ci:=cI_of (check_right hc).1 hw.e0 hw.e1
 have hl:=(shortS_len hs).2.1
 have stn:=stI_new hw ci (check_right hc).2 (short_ops hw hs) fp
 have inv:=(((stI_inv ci).and seqI_inv).and watI_inv).and lsI_inv
 have fin:=inv.play hw ⟨⟨⟨stn,seqI_new s fp⟩,fun _=>watI_new ci fp⟩,fun _=>lsI_new s fp⟩ s.picks.length (Nat.le_refl _)
 have ds:=((stI_inv ci).and dsI_inv).play hw ⟨stn,dsI_new s fp⟩ s.picks.length (Nat.le_refl _)
 have hn:=(play_I hw hs hc fp (Nat.le_refl s.picks.length)).n
 exact ⟨ds,fin.2 (by omega)⟩
theorem lease_rg {s:Script} (hw:WordsS s) (hs:shortS s 900 = true) (hc:checkS s = 0) (fp:Nat → Nat):∀ x ∈ (runPlay s fp s.picks.length).calls,(0 ≤ x.by_ ∧ x.by_ ≤ 18446744073709551615) ∧ (0 ≤ x.op.ttl ∧ x.op.ttl ≤ 18446744073709551615) ∧ x.op.users.length ≤ 900:=fun x hx=>by
 have g:=(lease_I hw hs hc fp).2.rg x hx
 have:=((play_I hw hs hc fp (Nat.le_refl s.picks.length)).rr.cs x hx).ul
 exact ⟨g.1,g.2,by omega⟩
theorem leaseLaw {s:Script} (hw:WordsS s) (hs:shortS s 900 = true) (hc:checkS s = 0) (fp:Nat → Nat):LeaseLaw s.cfg.start (runPlay s fp s.picks.length).calls:=by
 obtain ⟨⟨K,D⟩,g⟩:=lease_I hw hs hc fp
 generalize runPlay s fp s.picks.length = r at K D g
 obtain ⟨s1,s2,s3⟩:=ordS_spec r.calls
 have isT:∀ i (hi:i < r.calls.length),isTk r.calls i = decide (r.calls[i].who = 9):=fun i hi=>by
  unfold isTk
  rw [List.getElem?_eq_getElem hi]
 have ht0:∀ i,i < r.calls.length → isTk r.calls i = true → 0 ≤ pl r.calls i:=fun i hi ht=>by
  rw [isT i hi] at ht
  rw [pl_at hi]
  exact D.tk0 i _ (List.getElem?_eq_getElem hi) (dcT ht)
 have ht:TkI r.calls:=fun i j hij hj h1 h2=>by
  refine ⟨ht0 i (by omega) h1,?_⟩
  rw [isT i (by omega)] at h1
  rw [isT j hj] at h2
  rw [pl_at hj,pl_at (show i < r.calls.length by omega)]
  exact D.tk i j _ _ (List.getElem?_eq_getElem (by omega)) (List.getElem?_eq_getElem hj) hij (dcT h1) (dcT h2)
 have hdj:∀ i j,i < r.calls.length → j < r.calls.length → 0 ≤ pl r.calls i → pl r.calls i = pl r.calls j → i = j:=fun i j hi hj h0 he=>by
  rw [pl_at hi] at h0 he
  rw [pl_at hj] at he
  exact D.d1 i j _ _ (List.getElem?_eq_getElem hi) (List.getElem?_eq_getElem hj) h0 he
 have now:∀ m (hm:m < (ordS r.calls).length),(r.calls[(ordS r.calls)[m]]'(ordS_lt hm)).who < 8 → lNow s.cfg.start r.calls (ordS r.calls) (m + 1) = nowAt s.cfg.start r.calls (r.calls[(ordS r.calls)[m]]'(ordS_lt hm)).placed:=fun m hm h8=>by
  rw [lNow_at ht ht0 hdj hm (by rw [isT _ (ordS_lt hm)]; exact decide_eq_false (by omega)),pl_at (ordS_lt hm)]
 intro k hk hsk i h1 h2 hlv
 have hx:=List.getElem_mem (ordS_lt hk)
 unfold lSkip at hsk
 simp only [Bool.or_eq_false_iff,decide_eq_false_iff_not,Bool.not_eq_false', decide_eq_true_eq] at hsk
 obtain ⟨y,y1,y2,y3,y4,y5,y6,y7⟩:=g.cs _ hx (by omega) (by omega) hsk.2 i _ _ (List.getElem?_eq_getElem h1) (List.getElem?_eq_getElem h2) hlv
 obtain ⟨a,ha,rfl⟩:=List.getElem_of_mem y1
 obtain ⟨m,hm,rfl⟩:=List.getElem_of_mem (ordS_all ha (by rw [pl_at ha]; exact y5))
 have hmk:m < k:=by
  rcases Nat.lt_or_ge m k with h | h
  ·exact h
  exfalso
  rcases Nat.lt_or_eq_of_le h with h | h
  ·have:=List.pairwise_iff_getElem.1 s3 k m hk hm h
   rw [pl_at (ordS_lt hk),pl_at (ordS_lt hm)] at this
   omega
  subst h
  omega
 unfold lAt
 refine List.any_eq_true.2 ⟨m,List.mem_range.2 hmk,?_⟩
 rw [List.getElem?_eq_getElem hm]
 simp only
 rw [List.getElem?_eq_getElem (ordS_lt hm)]
 simp only
 unfold lJ
 rw [now m hm y2,now k hk (by omega),decide_eq_true y2,decide_eq_true y4,decide_eq_true y7]
 rcases y3 with y3 | y3 <;> rw [decide_eq_true y3] <;> simp
end Go.Proofs.YthilcgjhhhmgoaaGreat.X
namespace Go.Proofs.YthilcgjhhhmgoaaGreat.topLease
open Go.ChangeShapes Go.WideShapes Go.ChangeAt Go.RowKit X
set_option maxRecDepth 100000 in
theorem lifted (os:Os) (started:os.Started) (H:Type) (enc:TypeId × Value → H) :
  ReturnsInHanded {} Tryz.checked os 5 .any (Rows.topLeaseSpec.pre6 enc Tryz.prog Tryz.f5 Rows.topLeaseRow.domain false) (Rows.topLeaseSpec.post enc Tryz.prog Tryz.f5 false true false false):=by
 refine returnsInHanded_of_change_sized (C:=Tryz.checked) own started (by kernel_rfl) Tryz.func5
  (ChangeSpec.witness6 (enc:=enc) (C:=Tryz.checked) false ⟨#[],#[.agg #[.int .i64 0,.int .i64 0,.int .i64 0,.int .i64 0,.int .i64 0,.int .u64 0,.int .u64 0,.slice none 0 0,.slice none 0 0]],[]⟩ 8 (by kernel_rfl) (by kernel_rfl) (by kernel_rfl) (by kernel_rfl)) ?_
 intro W base args ds gs before hval0 hW _ hsz0 _
 have hval:∀ (j:Nat) t v,Tryz.f5.params[j]? = some t → args[j]? = some v → Value.okWide Tryz.prog W .any base t v:=hval0
 have hW' := hW
 obtain ⟨p,q,hA0,hV,rfl,hfz,hnd⟩:=hW
 have hA:DataW.TrodAll enc Tryz.prog W 0 (fun _=>true) true Tryz.f5.params.toList args.toList ds p:=hA0
 rw [Tryz.params5] at hA hval
 obtain ⟨v0,vs0,d0,ds0,p0,q0,hargs,rfl,rfl,h0,r0⟩:=trodAll_cons hA
 obtain ⟨rfl,rfl,rfl⟩:=trodAll_nil r0
 obtain rfl:args = #[v0]:=by cases args; simp_all
 obtain ⟨rfl,rfl⟩:=trodVars_none hV
 have k0:=h0
 have lt0:∀ x ∈ p0,x.block < W.heap.size:=by intro x hx; exact hW'.lt x (by simp [hx])
 obtain ⟨cs,rfl,hl⟩:=okWide_agg (hval 0 28 v0 rfl rfl)
 obtain ⟨fuel0,hf0⟩:=h0
 have hf0:DataW.trod enc P W 0 (fun _=>true) true fuel0 28 cs = some (d0,p0):=by simpa only [Value.cells] using hf0
 obtain ⟨s,cv,pv,rfl,hcl,hpk,w5,w6,wp,wc⟩:=open_script hl hf0
 have hw:=words_of w5 w6 wp wc
 clear hA0 hval0 hsz0
 refine Calls.mono (lease_walk (tw0 W) hcl hpk hw good_aS (goodS hw) (fun h2=>by have:=(cI_of (check_right h2).1 hw.e0 hw.e1).st; omega) (fun h1 h2 fp=>lease_rg hw h1 h2 fp) (fun h1 h2 fp=>leaseLaw hw h1 h2 fp)) fun e W' hh=>?_
 obtain ⟨v,own', he,hs,hv⟩:=hh
 subst hv
 have bel:=below_of hs id
 exact ⟨_,he,_,_,_,[],_,[],hW', trodAll_mk1 (shut_bool Tryz.underlying4 _),(trodAll_cons_mk (Below.trod laidOut read28 types28 k0 bel lt0) trodAll_mk0),rfl,bel.frame _,fun h=>by cases h⟩
theorem over:Rows.topLeaseRow.holds Tryz.pinned (OpenSpec.ofChange Rows.topLeaseSpec):=
 OpenClaim.holds_of_wide 5 Tryz.f5 rfl rfl rfl rfl rfl rfl rfl ⟨rfl,rfl,rfl,rfl,rfl⟩ rfl rfl rfl rfl rfl (by kernel_rfl) Tryz.func5 (by kernel_rfl)
  (of_decide_eq_true (by kernel_rfl)) (by unfold Func.isWrapper; first | (rw [if_pos (by decide +kernel)]; kernel_rfl) | (rw [if_neg (by decide +kernel)]; exact ⟨rfl,rfl⟩))
  (fun os started H enc _=>lifted os started H enc)
end Go.Proofs.YthilcgjhhhmgoaaGreat.topLease
namespace Go.Proofs.YthilcgjhhhmgoaaGreat
theorem topLease_holds:Rows.TopLeaseSaid:=topLease.over
end Go.Proofs.YthilcgjhhhmgoaaGreat
