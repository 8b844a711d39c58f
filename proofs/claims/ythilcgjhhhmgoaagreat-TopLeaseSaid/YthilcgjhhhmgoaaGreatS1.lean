/- One part of the proof: XMap, PHeed, PRead, PSwp, PNew, PRun, PInv, PInv2, FBase, XZeros, FSlices, XEn, XSet, FFind. No condition beyond those that each theorem names. -/
import Derived.Test.YthilcgjhhhmgoaaGreatS0
import Derived.MapFrom
set_option linter.unusedVariables false
set_option linter.unusedSimpArgs false
set_option linter.unusedSectionVars false
set_option maxHeartbeats 1000000
namespace Go.Proofs.YthilcgjhhhmgoaaGreat.X
/-! ### 1. Keys and entries -/
structure KyT {κ:Type} [DecidableEq κ] (kt:TypeId) (enc:κ → Value) (kd:TypeDesc):Prop where
 und:P.underlying kt = some kd
 same:∀ a b,Instr.sameNow kd (enc a) (enc b) = some (decide (a = b))
 chk:∀ em a w,(Instr.checkKey em 10000 kt (enc a)).run P w = .ok () w
 bits:∀ a,Instr.sameBits 10000 (enc a) (enc a) = true
structure Mv (β:Type) where
 R:TW → β → Value → Prop
 stp:∀ {T t t' x v},Step T t t' → ¬ T .fz → R t x v → R t' x v
section
variable {κ β:Type} [DecidableEq κ] {enc:κ → Value} {R:β → Value → Prop}
def MR (enc:κ → Value) (R:β → Value → Prop):List MapEntry → List (κ × β) → Prop
 | [],[]=>True
 | e :: es,p :: l=>e.key = enc p.1 ∧ R p.2 e.val ∧ MR enc R es l
 | _,_=>False
def gfind:List (κ × β) → κ → Nat → Option (Nat × β)
 | [],_,_=>none
 | p :: l,a,i=>if a = p.1 then some (i,p.2) else gfind l a (i + 1)
def gget (l:List (κ × β)) (a:κ):Option β:=(gfind l a 0).map (·.2)
def gput (l:List (κ × β)) (a:κ) (x:β):List (κ × β):=match gfind l a 0 with
 | some (i,_)=>l.set i (a,x)
 | none=>l ++ [(a,x)]
def gdel (l:List (κ × β)) (a:κ):List (κ × β):=match gfind l a 0 with
 | some (i,_)=>l.eraseIdx i
 | none=>l
theorem MR.len:∀ {es:List MapEntry} {l:List (κ × β)},MR enc R es l → es.length = l.length
 | [],[],_=>rfl
 | e :: es,p :: l,h=>by rw [List.length_cons,List.length_cons,MR.len h.2.2]
 | [],_ :: _,h=>h.elim
 | _ :: _,[],h=>h.elim
theorem MR.mono {R' : β → Value → Prop} (hR:∀ x v,R x v → R' x v):∀ {es:List MapEntry} {l:List (κ × β)},MR enc R es l → MR enc R' es l
 | [],[],_=>trivial
 | e :: es,p :: l,h=>⟨h.1,hR _ _ h.2.1,MR.mono hR h.2.2⟩
 | [],_ :: _,h=>h.elim
 | _ :: _,[],h=>h.elim
theorem MR.find {d:TypeDesc} (hd:∀ a b,Instr.sameNow d (enc a) (enc b) = some (decide (a = b))) (a:κ):∀ {es:List MapEntry} {l:List (κ × β)} (i:Nat),MR enc R es l →
  match gfind l a i with
  | some (j,x)=>∃ v,Instr.findNow d (enc a) es i = some (some (j,v)) ∧ R x v ∧ i ≤ j ∧ ∃ e,es[j - i]? = some e ∧ e.key = enc a
  | none=>Instr.findNow d (enc a) es i = some none
 | [],[],i,_=>rfl
 | e :: es,p :: l,i,h=>by
  simp only [gfind]
  by_cases hap:a = p.1
  ·rw [if_pos hap]
   refine ⟨e.val,?_,h.2.1,Nat.le_refl _,e,by simp,by rw [h.1,hap]⟩
   simp [Instr.findNow,h.1,hd,hap]
  ·rw [if_neg hap]
   have ih:=MR.find hd a (i + 1) h.2.2
   have e1:Instr.findNow d (enc a) (e :: es) i = Instr.findNow d (enc a) es (i + 1):=by simp [Instr.findNow,h.1,hd,hap]
   rw [e1]
   revert ih
   cases gfind l a (i + 1) with
   | none=>exact id
   | some q=>
    rintro ⟨v,h1,h2,h3,e', h4,h5⟩
    refine ⟨v,h1,h2,by omega,e', ?_,h5⟩
    rw [show q.1 - i = (q.1 - (i + 1)) + 1 by omega]
    simpa using h4
 | [],_ :: _,_,h=>h.elim
 | _ :: _,[],_,h=>h.elim
theorem MR.set {a:κ} {x:β} {e:MapEntry} (h1:e.key = enc a) (h2:R x e.val):∀ {es:List MapEntry} {l:List (κ × β)} (i:Nat),MR enc R es l → MR enc R (es.set i e) (l.set i (a,x))
 | [],[],_,_=>trivial
 | _ :: _,_ :: _,0,h=>⟨h1,h2,h.2.2⟩
 | _ :: _,_ :: _,i + 1,h=>⟨h.1,h.2.1,MR.set h1 h2 i h.2.2⟩
 | [],_ :: _,_,h=>h.elim
 | _ :: _,[],_,h=>h.elim
theorem MR.app {a:κ} {x:β} {e:MapEntry} (h1:e.key = enc a) (h2:R x e.val):∀ {es:List MapEntry} {l:List (κ × β)},MR enc R es l → MR enc R (es ++ [e]) (l ++ [(a,x)])
 | [],[],_=>⟨h1,h2,trivial⟩
 | _ :: _,_ :: _,h=>⟨h.1,h.2.1,MR.app h1 h2 h.2.2⟩
 | [],_ :: _,h=>h.elim
 | _ :: _,[],h=>h.elim
theorem MR.erase:∀ {es:List MapEntry} {l:List (κ × β)} (i:Nat),MR enc R es l → MR enc R (es.eraseIdx i) (l.eraseIdx i)
 | [],[],_,_=>trivial
 | _ :: _,_ :: _,0,h=>h.2.2
 | _ :: _,_ :: _,i + 1,h=>⟨h.1,h.2.1,MR.erase i h.2.2⟩
 | [],_ :: _,_,h=>h.elim
 | _ :: _,[],_,h=>h.elim
end
/-! ### 2. A map in memory -/
section
variable {κ β:Type} [DecidableEq κ] {enc:κ → Value} {V:Mv β} {t t' : TW} {b:Nat} {g:Tag} {l:List (κ × β)} {kt et q:TypeId} {kd:TypeDesc}
def Mp (t:TW) (b:Nat) (g:Tag) (enc:κ → Value) (V:Mv β) (l:List (κ × β)):Prop:=∃ es clock,Ob t b (.map es clock) g ∧ MR enc (V.R t) es.toList l
theorem Mp.step {T:Tag → Prop} (h:Mp t b g enc V l) (s:Step T t t') (hg:¬ T g) (hT:¬ T .fz):Mp t' b g enc V l:=by
 obtain ⟨es,clock,h1,h2⟩:=h
 exact ⟨es,clock,h1.step s hg,h2.mono fun x v=>V.stp s hT⟩
theorem Mp.n {T:Tag → Prop} (h:Mp t b g enc V l) (s:Step T t t') (hg:¬ T g:=by first | exact id | nofun | (rintro (h | h) <;> cases h) | (rintro (h | h | h) <;> cases h)) (hT:¬ T .fz:=by first | exact id | nofun | (rintro (h | h) <;> cases h) | (rintro (h | h | h) <;> cases h)):Mp t' b g enc V l:=h.step s hg hT
theorem Mp.lt (h:Mp t b g enc V l):b < t.w.heap.size:=by
 obtain ⟨es,clock,h1,h2⟩:=h
 exact (Array.getElem?_eq_some_iff.1 h1.h).1
theorem Mp.own (h:Mp t b g enc V l):t.own b = g:=by
 obtain ⟨es,clock,h1,h2⟩:=h
 exact h1.g
theorem Mp.look (h:Mp t b g enc V l) (hK:KyT kt enc kd) (hq:P.underlying q = some (.map kt et)) {z:Value} (hz:(zeroValue et).run P t.w = .ok z t.w) (a:κ) :
  ∃ v,(Instr.lookup q (.map (some b)) (enc a) false).run P t.w = .ok v t.w ∧ match gget l a with
   | some x=>V.R t x v
   | none=>v = z:=by
 obtain ⟨es,clock,h1,h2⟩:=h
 have hd:=hK.und
 have hs:=hK.same
 have hf:=MR.find (R:=V.R t) hs a 0 h2
 have hfk:∀ r,Instr.findNow kd (enc a) es.toList 0 = some r → (Instr.findKey kt (enc a) es.toList).run P t.w = .ok r t.w:=fun r hr=>by
  simp only [Instr.findKey,Sem.run_bind,run_under hd,Result.andThen_ok,hr,Sem.run_pure]
 unfold gget
 cases hg:gfind l a 0 with
 | none=>
  rw [hg] at hf
  refine ⟨z,?_,rfl⟩
  simp [Instr.lookup,run_under hq,MapKept.run_getObj_map h1.h,hK.chk,hfk _ hf,hz]
 | some p=>
  rw [hg] at hf
  obtain ⟨v,hv,hR,_⟩:=hf
  refine ⟨v,?_,hR⟩
  simp [Instr.lookup,run_under hq,MapKept.run_getObj_map h1.h,hK.chk,hfk _ hv]
theorem Mp.len_ (h:Mp t b g enc V l) (hq:P.underlying q = some (.map kt et)) (ty:TypeId):(Builtin.len_ #[q] ty #[.map (some b)]).run P t.w = .ok (.int .i64 l.length) t.w:=by
 obtain ⟨es,clock,h1,h2⟩:=h
 have:=h2.len
 simp [Builtin.len_,run_under hq,MapKept.run_getObj_map h1.h,goInt,← this]
end
section
variable {κ β:Type} [DecidableEq κ] {enc:κ → Value} {V:Mv β} {b:Nat} {g:Tag} {l:List (κ × β)} {kt et q:TypeId} {kd:TypeDesc}
variable {n:Sz} {c:Ctx} {E:Env} {d:Option Nat} {ty:TypeId} {pos:String} {af:Array Edge} {gu:Option (Nat × Bool)} {x y z:Operand} {v:Value} {t:TW}
theorem Rd.lk {w:World} {u:Value} (h:ev E x = some u) (hk:ev E y = some v) {r:Value} (hr:(Instr.lookup q u v false).run P w = .ok r w):Rd n ⟨d,.lookup q x y false,ty,pos,af,gu⟩ E w r:=fun a ha=>by
 simp [execOp,ha.ev h,ha.ev hk,hr]
theorem Rd.lnm {w:World} (h:ev E x = some (.map (some b))) {r:Value} (hr:(Builtin.len_ #[q] ty #[.map (some b)]).run P w = .ok r w):Rd n ⟨d,.call { callee:=.builtin .len,args:=#[x],argTypes:=#[q] },ty,pos,af,gu⟩ E w r:=fun a ha=>by
 simp [execOp,resolve,ha.ev h,invoke,builtin,hr]
theorem Ef.mm (gt:Tag) (enc:κ → Value) (V:Mv β):Ef c ⟨d,.makeMap q none,ty,pos,af,gu⟩ E t (fun v t' => ∃ b,v = .map (some b) ∧ Step No t t' ∧ Mp t' b gt enc V [] ∧ c.t0.w.heap.size ≤ b ∧ t.w.heap.size ≤ b):=.mk fun hs a ha K Q hk=>by
 unfold Oper.wp
 have:(execOp a.eval ⟨d,.makeMap q none,ty,pos,af,gu⟩).run P t.w = .ok (.value (.map (some t.w.heap.size))) (t.allocO (.map #[] 0) gt).w:=by
  simp only [execOp,Instr.makeMap,Sem.run_bind,run_newObj,Result.andThen_ok,Sem.run_pure]
  rfl
 rw [this]
 exact hk _ _ (hs.trans (t.allocO_step _ gt).no) ⟨_,rfl,t.allocO_step _ gt,⟨_,_,t.allocO_ob _ gt,trivial⟩,hs.size,Nat.le_refl _⟩
theorem putO_from {c:Ctx} {t:TW} {b:Nat} {o o' : Obj} {g:Tag} (h:Ob t b o' g) (hs:Step c.T c.t0 t) (hT:c.t0.w.heap.size ≤ b ∨ c.T g):Step c.T c.t0 (t.putO b o):=
 ⟨hs.os,hs.tape,hs.output,by simpa [TW.putO] using hs.size,fun k hk hn=>by
  obtain ⟨h1,h2⟩:=hs.keep k hk hn
  have hkb:k ≠ b:=by
   rintro rfl
   rcases hT with hT | hT
   ·omega
   ·rw [h.g] at h1
    rw [← h1] at hn
    exact hn hT
  exact ⟨h1,(World.putObj_heap_other hkb).trans h2⟩⟩
theorem Mp.upd {a:κ} {x1:β} (hq:P.underlying q = some (.map kt et)) (hK:KyT kt enc kd) (hm:Mp t b g enc V l) (hR:V.R t x1 v) (hg:g ≠ .fz):∃ t', (Instr.mapUpdate q (.map (some b)) (enc a) v).run P t.w = .ok () t'.w ∧ Step (fun q=>q = g) t t' ∧ Mp t' b g enc V (gput l a x1) ∧ ∃ o' o,Ob t b o' g ∧ t' = t.putO b o:=by
 obtain ⟨es,clock,h1,h2⟩:=hm
 have hd:=hK.und
 have hs' := hK.same
 have hf:=MR.find (R:=V.R t) hs' a 0 h2
 have hfk:∀ r,Instr.findNow kd (enc a) es.toList 0 = some r → (Instr.findKey kt (enc a) es.toList).run P t.w = .ok r t.w:=fun r hr=>by
  simp only [Instr.findKey,Sem.run_bind,run_under hd,Result.andThen_ok,hr,Sem.run_pure]
 have key:∀ (es' : Array MapEntry) (clock' : Nat),MR enc (V.R t) es'.toList (gput l a x1) → (Instr.mapUpdate q (.map (some b)) (enc a) v).run P t.w = .ok () (t.putO b (.map es' clock')).w → ∃ t', (Instr.mapUpdate q (.map (some b)) (enc a) v).run P t.w = .ok () t'.w ∧ Step (fun q=>q = g) t t' ∧ Mp t' b g enc V (gput l a x1) ∧ ∃ o' o,Ob t b o' g ∧ t' = t.putO b o:=fun es' clock' hM hrun=>by
  have st:=TW.putO_step (o:=.map es' clock') h1
  exact ⟨_,hrun,st,⟨es', clock', TW.putO_ob h1,hM.mono fun x v=>V.stp st (fun e=>hg e.symm)⟩,_,_,h1,rfl⟩
 cases hgf:gfind l a 0 with
 | none=>
  rw [hgf] at hf
  refine key (es.push ⟨enc a,v,clock⟩) (clock + 1) ?_ ?_
  ·unfold gput
   rw [hgf,Array.toList_push]
   exact MR.app (e:=⟨enc a,v,clock⟩) (a:=a) (x:=x1) rfl hR h2
  simp only [Instr.mapUpdate,Sem.run_bind,run_under hq,Result.andThen_ok,MapKept.run_getObj_map h1.h,hK.chk,hfk _ hf,MapKept.run_setObj_map _ h1.h]
  rfl
 | some p=>
  rw [hgf] at hf
  obtain ⟨v0,hv0,_,_,e0,he0,hke⟩:=hf
  simp only [Nat.sub_zero] at he0
  have hsz:p.1 < es.size:=by
   have:=(List.getElem?_eq_some_iff.1 he0).1
   simpa using this
  have he1:es[p.1]? = some e0:=by simpa using he0
  refine key (es.modify p.1 fun e=>{ e with key:=enc a,val:=v }) clock ?_ ?_
  ·unfold gput
   rw [hgf]
   have e2:(es.modify p.1 fun e=>{ e with key:=enc a,val:=v }).toList = es.toList.set p.1 { e0 with key:=enc a,val:=v }:=by
    rw [Array.toList_modify]
    exact Go.ChangeMaps.modify_eq_set _ _ _ _ he0
   rw [e2]
   exact MR.set (e:={ e0 with key:=enc a,val:=v }) (a:=a) (x:=x1) rfl hR p.1 h2
  have e3:(Instr.keyThatStays (((es[p.1]?).map (·.key)).getD (enc a)) (enc a)).run P t.w = .ok (enc a) t.w:=by
   rw [he1]
   simp only [Option.map_some,Option.getD_some,hke,Instr.keyThatStays,hK.bits,if_true,Sem.run_pure]
  simp only [Instr.mapUpdate,Sem.run_bind,run_under hq,Result.andThen_ok,MapKept.run_getObj_map h1.h,hK.chk,hfk _ hv0,e3,MapKept.run_setObj_map _ h1.h]
  rfl
theorem run_then {s:Sem Unit} {w w' : World} (h:s.run P w = .ok () w'):(do s; pure Next.skip:Sem Next).run P w = .ok .skip w' := by
 rw [Sem.run_bind,h]
 rfl
theorem exec_mu (ρ:Operand → Value) (d:Option Nat) (q:TypeId) (x y z:Operand) (ty:TypeId) (pos:String) (af:Array Edge) (gu:Option (Nat × Bool)):execOp ρ ⟨d,.mapUpdate q x y z,ty,pos,af,gu⟩ = (do Instr.mapUpdate q (ρ x) (ρ y) (ρ z); pure .skip:Sem Next):=by
 unfold execOp
 with_reducible rfl
set_option maxRecDepth 100000 in
theorem Ef.mu {a:κ} {x1:β} (h:ev E x = some (.map (some b))) (hk:ev E y = some (enc a)) (hv:ev E z = some v) (hq:P.underlying q = some (.map kt et)) (hK:KyT kt enc kd) (hm:Mp t b g enc V l) (hR:V.R t x1 v) (hg:g ≠ .fz) (hT:c.t0.w.heap.size ≤ b ∨ c.T g) :
  Ef c ⟨d,.mapUpdate q x y z,ty,pos,af,gu⟩ E t (fun _ t' => Step (fun q=>q = g) t t' ∧ Mp t' b g enc V (gput l a x1)):=.mk fun hs A ha K Q hkk=>by
 have hu:=Classical.choose_spec (Mp.upd (a:=a) hq hK hm hR hg)
 have hrun:=hu.1
 have hst:=hu.2.1
 have hm' := hu.2.2.1
 have ho1:=Classical.choose_spec hu.2.2.2
 have ho2:=Classical.choose_spec ho1
 have hfrom:=putO_from (o:=Classical.choose ho1) ho2.1 hs hT
 rw [← ho2.2] at hfrom
 unfold Oper.wp
 have:(execOp A.eval ⟨d,.mapUpdate q x y z,ty,pos,af,gu⟩).run P t.w = .ok .skip (Classical.choose (Mp.upd (a:=a) hq hK hm hR hg)).w:=by
  rw [exec_mu,ha.ev h,ha.ev hk,ha.ev hv]
  exact run_then hrun
 rw [this]
 exact hkk undef _ hfrom ⟨hst,hm'⟩
theorem Ef.md {a:κ} {kt' : TypeId} (h:ev E x = some (.map (some b))) (hk:ev E y = some (enc a)) (hq:P.underlying q = some (.map kt et)) (hK:KyT kt enc kd) (hm:Mp t b g enc V l) (hg:g ≠ .fz) (hT:c.t0.w.heap.size ≤ b ∨ c.T g) :
  Ef c ⟨d,.call { callee:=.builtin .delete,args:=#[x,y],argTypes:=#[q,kt'] },ty,pos,af,gu⟩ E t (fun _ t' => Step (fun q=>q = g) t t' ∧ Mp t' b g enc V (gdel l a)):=.mk fun hs A ha K Q hkk=>by
 refine Exists.elim hm fun es hm=>Exists.elim hm fun clock hm=>?_
 have h1:=hm.1
 have h2:=hm.2
 clear hm
 have hd:=hK.und
 have hs' := hK.same
 have hf:=MR.find (R:=V.R t) hs' a 0 h2
 have hfk:∀ r,Instr.findNow kd (enc a) es.toList 0 = some r → (Instr.findKey kt (enc a) es.toList).run P t.w = .ok r t.w:=fun r hr=>by
  simp only [Instr.findKey,Sem.run_bind,run_under hd,Result.andThen_ok,hr,Sem.run_pure]
 have key:∀ (es' : Array MapEntry),MR enc (V.R t) es'.toList (gdel l a) → (Builtin.delete_ #[q,kt'] ty #[.map (some b),enc a]).run P t.w = .ok (.tuple #[]) (t.putO b (.map es' clock)).w → 
   (⟨d,.call { callee:=.builtin .delete,args:=#[x,y],argTypes:=#[q,kt'] },ty,pos,af,gu⟩:Oper).wp P A t.w K Q:=fun es' hM hrun=>by
  unfold Oper.wp
  have:(execOp A.eval ⟨d,.call { callee:=.builtin .delete,args:=#[x,y],argTypes:=#[q,kt'] },ty,pos,af,gu⟩).run P t.w = .ok (.value (.tuple #[])) (t.putO b (.map es' clock)).w:=by
   simp [execOp,resolve,invoke,builtin,ha.ev h,ha.ev hk,hrun]
  rw [this]
  have st:=TW.putO_step (o:=.map es' clock) h1
  exact hkk _ _ (putO_from h1 hs hT) ⟨st,es', clock,TW.putO_ob h1,hM.mono fun x v=>V.stp st (fun e=>hg e.symm)⟩
 cases hgf:gfind l a 0 with
 | none=>
  rw [hgf] at hf
  refine key es ?_ ?_
  ·unfold gdel
   rw [hgf]
   exact h2
  ·simp [Builtin.delete_,run_under hq,MapKept.run_getObj_map h1.h,hK.chk,hfk _ hf,MapKept.run_setObj_map _ h1.h,TW.putO]
   try rfl
 | some p=>
  rw [hgf] at hf
  obtain ⟨v0,hv0,_,_,e0,he0,hke⟩:=hf
  refine key (es.eraseIdxIfInBounds p.1) ?_ ?_
  ·unfold gdel
   rw [hgf,Array.toList_eraseIdxIfInBounds]
   exact h2.erase p.1
  ·simp [Builtin.delete_,run_under hq,MapKept.run_getObj_map h1.h,hK.chk,hfk _ hv0,MapKept.run_setObj_map _ h1.h,TW.putO]
   try rfl
theorem Ef.ms {e bytes:Nat} {z1:Value} (gt:Tag) {m:Nat} (ht:SlT q e 1) (he:El e 1 bytes z1) (hz:z1.cells = #[z1]) (hi:ev E x = some (.int .i64 (m:Int))) (hj:ev E y = some (.int .i64 (m:Int))) (hm:m ≤ 1000000) (hby:bytes ≤ 1000) :
  Ef c ⟨d,.makeSlice q x y,ty,pos,af,gu⟩ E t (NewB c t (List.replicate m z1) e gt fun b=>.slice (some ⟨b,0,none⟩) m m):=.mk fun hs a ha K Q hk=>by
 have h1:=(info_get he.h).1
 have h2:=(info_get he.h).2.1
 have h3:=(info_get he.h).2.2.1
 have h4:=(info_get he.h).2.2.2
 have hr:=run_make (P:=P) t.w q e _ z1 ht.1 h1 h2 .i64 .i64 m m (by omega) (Int.le_refl _) (by rw [h4]; have:(bytes:Int) * (m:Int) ≤ 1000 * 1000000:=Int.mul_le_mul (by omega) (by omega) (by omega) (by omega); omega) (by omega)
 unfold Oper.wp
 have e2:madeCells z1.cells (m * 1) = (List.replicate m z1).toArray:=by
  rw [hz,Nat.mul_one]
  apply Array.ext'
  simp [madeCells,Nat.mod_one]
  rw [List.map_const', List.length_range]
 have:(execOp a.eval ⟨d,.makeSlice q x y,ty,pos,af,gu⟩).run P t.w = .ok (.value (.slice (some ⟨t.w.heap.size,0,none⟩) m m)) (t.alloc (List.replicate m z1) e gt).w:=by
  simp only [Int.toNat_natCast,h3] at hr
  rw [e2] at hr
  simp only [execOp,ha.ev hi,ha.ev hj,Sem.run_bind,hr,Result.andThen_ok,Sem.run_pure]
  rfl
 rw [this]
 exact hk _ _ (hs.trans (t.alloc_step _ e gt).no) (NewB.mk_ hs _ e gt fun b=>.slice (some ⟨b,0,none⟩) m m)
theorem Ef.callm {f:FuncId} {s:Nat} {tt:TypeId} {u:Value} {name:String} {xs:List Operand} {vs:List Value} {ts:Array TypeId} {T:Tag → Prop} {Φ:Value → TW → Prop} (hc:lk E s = some (.iface tt u)) (hx:evs E xs = some vs)
  (hm:∀ w,(method (P.types.size + Made.depth) tt u name).run P w = .ok (f,u) w) (hf:Ent f) (h:Cal f (u :: vs) t T Φ) (hT:∀ q,T q → c.T q) :
  Ef c ⟨d,.call { callee:=.invoke (.tmp s) name,args:=xs.toArray,argTypes:=ts },ty,pos,af,gu⟩ E t (fun v t' => Step T t t' ∧ Φ v t'):=.mk fun hs a ha K Q hk=>by
 unfold Oper.wp
 have hcv:=ha.ev (x:=.tmp s) hc
 have:(execOp a.eval ⟨d,.call { callee:=.invoke (.tmp s) name,args:=xs.toArray,argTypes:=ts },ty,pos,af,gu⟩).run P t.w = .ok (.enter f (u :: vs).toArray) t.w:=by
  have e0:(#[Value.iface tt u] ++ vs.toArray)[0]? = some (.iface tt u):=by simp
  have e1:(#[Value.iface tt u] ++ vs.toArray).extract 1 (#[Value.iface tt u] ++ vs.toArray).size = vs.toArray:=by
   apply Array.ext'
   simp
  have e2:(#[u] ++ vs.toArray) = (u :: vs).toArray:=by simp
  have e3:(callMethod (.iface tt u) name vs.toArray).run P t.w = .ok (.enter f (u :: vs).toArray) t.w:=by
   simp only [callMethod,Sem.run_bind,run_program,Result.andThen_ok,hm,e2]
   exact hf _ _
  simp only [execOp,resolve,hcv,invoke,List.map_toArray,ha.evs hx,Sem.run_bind,Sem.run_pure,Result.andThen_ok,e0,e1,e3]
 rw [this]
 refine Calls.mono h fun e w' hh=>?_
 obtain ⟨v,own', rfl,hs', hp⟩:=hh
 exact hk v ⟨w', own'⟩ (hs.trans (hs'.mono hT)) ⟨hs', hp⟩
end
theorem bytes_beq (a b:ByteArray):(a == b) = decide (a = b):=by
 rw [Bool.eq_iff_iff,decide_eq_true_eq]
 show (a.data == b.data) = true ↔ _
 rw [beq_iff_eq]
 exact ⟨ByteArray.ext,fun h=>by rw [h]⟩
theorem ky_str {kt:TypeId} (h:P.underlying kt = some .string):KyT kt (fun s:ByteArray=>Value.string s) .string:=by
 have h1:∀ em a w k,(Instr.checkKey em (k + 1) kt (.string a)).run P w = .ok () w:=fun em a w k=>by simp only [Instr.checkKey,Sem.run_bind,run_under h,Result.andThen_ok,Sem.run_pure]
 exact ⟨h,fun a b=>by simp only [Instr.sameNow,bytes_beq],fun em a w=>h1 em a w 9999,fun a=>by show (a == a) = true; rw [bytes_beq]; simp⟩
theorem ky_int {kt:TypeId} {q:IntKind} (h:P.underlying kt = some (.int q)):KyT kt (fun i:Int=>Value.int q i) (.int q):=by
 have h1:∀ em a w k,(Instr.checkKey em (k + 1) kt (.int q a)).run P w = .ok () w:=fun em a w k=>by simp only [Instr.checkKey,Sem.run_bind,run_under h,Result.andThen_ok,Sem.run_pure]
 exact ⟨h,fun a b=>by simp [Instr.sameNow]; rfl,fun em a w=>h1 em a w 9999,fun a=>by show (q == q && a == a) = true; simp⟩
abbrev MineS:=List (ByteArray × Unit)
def mineHas (m:MineS) (u:ByteArray):Bool:=(gget m u).isSome
def mineSet (m:MineS) (u:ByteArray) (on:Bool):MineS:=if on = true then gput m u () else gdel m u
inductive HAct where
 | bad | shut | look | watch
 | lock (s:Nat)
 | unlock (s:Nat)
 | drain (s:Nat)
 | last (s:Nat)
structure HProc where
 who:Nat
 op:Opr
 s:Nat
 n:Nat
 acts:List HAct
 at_:Nat
 time:Time
 placed:Int
 err:Int
 lost:Bool
 events:List Event
 all:List (List Event)
def hNeeds:HAct → Int
 | .lock s=>(s:Int)
 | _=>-1
def hOn (p:HProc):Bool:=decide (p.op.kind = 6)
def hActs (x:Opr) (s n:Nat):List HAct:=
 if badOp x = true then [.bad]
 else if x.kind = 8 then (List.range n).map .lock ++ [.look] ++ (List.range n).map .drain ++ (List.range n).map .last
 else if x.kind = 9 then [.shut]
 else [.lock s,.look,.watch,.unlock s]
def hNewP (who:Nat) (x:Opr) (s n:Nat):HProc:=⟨who,x,s,n,hActs x s n,0,zTime,-1,0,false,[],if badOp x = false ∧ x.kind = 8 then List.replicate n [] else []⟩
def hAct (h:HallS) (m:MineS) (p:HProc):HAct → HallS × MineS × HProc × Bool
 | .bad=>(h,m,{ p with err:=1 },true)
 | .shut=>(hShut h p.who,m,{ p with err:=if h.time.closed = true then 5 else p.err },true)
 | .look=>(hLook h p.who,m,{ p with time:=h.time },true)
 | .watch=>
  if p.time.closed = true then (h,m,{ p with err:=5 },false)
  else if hOn p = true ∧ mineHas m p.op.user = false ∧ h.cfg.watches ≤ (m.length:Int) then (h,m,{ p with err:=4 },false)
  else (hWatch h p.who p.s p.op.user (hOn p),mineSet m p.op.user (hOn p),p,false)
 | .lock s=>((hLock h p.who s).1,m,p,false)
 | .unlock s=>((hUnlock h p.who s).1,m,p,false)
 | .drain s=>(hDrain h p.who s,m,{ p with all:=p.all.set s ((h.feed s).q p.who).l,lost:=p.lost || ((h.feed s).q p.who).lost },false)
 | .last s=>((hUnlock h p.who s).1,m,{ p with events:=if (s:Int) = (p.n:Int) - 1 then fMerge p.all else p.events },false)
def hdDone (p:HProc):Bool:=decide (p.acts.length ≤ p.at_)
def hdWaits (p:HProc):Int:=match p.acts[p.at_]? with
 | some a=>hNeeds a
 | none=>-1
def hdEnabled (h:HallS) (p:HProc):Bool:=!hdDone p && (decide (hdWaits p < 0) || hFree h (hdWaits p).toNat)
def hdStep (h:HallS) (m:MineS) (p:HProc) (pos:Int):HallS × MineS × HProc:=
 if hdEnabled h p = false then (h,m,p)
 else match p.acts[p.at_]? with
  | none=>(h,m,p)
  | some a=>
   let r:=hAct h m p a
   (r.1,r.2.1,{ r.2.2.1 with placed:=if r.2.2.2 = true then pos else r.2.2.1.placed,at_:=p.at_ + 1 })
structure RProc where
 who:Nat
 users:List ByteArray
 of_:Int
 stripes:List Int
 phase:Nat
 at_:Nat
 tries:Int
 epochs:List Int
 valid:Bool
 spent:Bool
 seen:List (Int × Book)
 time:Time
 looked:Int
 placed:Int
 err:Int
 values:List Pres
def rBegin (p:RProc):RProc:={ p with phase:=0,at_:=0,epochs:=List.replicate p.stripes.length 0,valid:=true,spent:=false,seen:=[] }
def rUsers (x:Opr):List ByteArray:=if badOp x = true then [] else usersOf x
def rNew (who:Nat) (x:Opr) (n tries:Int):RProc:=rBegin ⟨who,rUsers x,n,stripesIn (rUsers x) n,0,0,tries,[],false,false,[],zTime,0,-1,0,[]⟩
def rWaits (p:RProc):Int:=if p.phase = 4 then p.stripes.getD p.at_ (-1) else -1
def rEnabled (h:HallS) (p:RProc):Bool:=!decide (p.phase = 8) && (decide (rWaits p < 0) || hFree h (rWaits p).toNat)
def rSeen (p:RProc) (u:ByteArray):Book:=(gget p.seen (stripeOf u p.of_)).getD noBook
def rAns (p:RProc) (u:ByteArray):Pres:=presOf (bGet (rSeen p u) u).sessions p.time.now
def rAnswer (p:RProc):RProc:=if p.time.closed = true then { p with placed:=p.looked,err:=5,values:=[] } else { p with placed:=p.looked,values:=p.values ++ p.users.map (rAns p) }
def rNext (p:RProc) (ph:Nat):RProc × Bool:=if p.at_ + 1 < p.stripes.length then ({ p with at_:=p.at_ + 1 },false) else ({ p with phase:=ph,at_:=0 },true)
def rJudge (p:RProc):RProc:=
 if p.time.closed = true ∨ p.valid = true then { rAnswer p with phase:=8 }
 else if p.spent = true ∨ p.tries = 0 then { p with phase:=4 }
 else rBegin { p with tries:=p.tries - 1 }
def rS (p:RProc):Nat:=(p.stripes.getD p.at_ 0).toNat
def rDo0 (h:HallS) (p:RProc):HallS × RProc:=
 (hEpoch h p.who (rS p),(rNext { p with epochs:=p.epochs.set p.at_ (hStr h (rS p)).cv,spent:=p.spent || decide (evenB h.cfg.epochs ≤ (hStr h (rS p)).cv) } 1).1)
def rDo1 (h:HallS) (p:RProc):HallS × RProc:=(hSnap h p.who (rS p),(rNext { p with seen:=gput p.seen (rS p:Int) (hStr h (rS p)).snap } 2).1)
def rDo2 (h:HallS) (p:RProc) (pos:Int):HallS × RProc:=(hLook h p.who,{ p with time:=h.time,looked:=pos,phase:=p.phase + 1,placed:=if p.phase + 1 = 6 then pos else p.placed })
def rDo3 (h:HallS) (p:RProc):HallS × RProc:=
 let p1:={ p with valid:=p.valid && decide (p.epochs.getD p.at_ 0 = (hStr h (rS p)).cv ∧ p.epochs.getD p.at_ 0 % 2 = 0 ∧ p.epochs.getD p.at_ 0 < evenB h.cfg.epochs) }
 (hEpoch h p.who (rS p),if (rNext p1 8).2 = true then rJudge (rNext p1 8).1 else (rNext p1 8).1)
def rDo4 (h:HallS) (p:RProc):HallS × RProc:=((hLock h p.who (rS p)).1,(rNext p 5).1)
def rDo6 (h:HallS) (p:RProc):HallS × RProc:=(hRead h p.who (rS p),(rNext { p with seen:=gput p.seen (rS p:Int) (hStr h (rS p)).book } 7).1)
def rDo7 (h:HallS) (p:RProc):HallS × RProc:=((hUnlock h p.who (rS p)).1,if (rNext p 8).2 = true then rAnswer (rNext p 8).1 else (rNext p 8).1)
def rDo (h:HallS) (p:RProc) (pos:Int):HallS × RProc:=
 match p.phase with
 | 0=>rDo0 h p
 | 1=>rDo1 h p
 | 2=>rDo2 h p pos
 | 3=>rDo3 h p
 | 4=>rDo4 h p
 | 5=>rDo2 h p pos
 | 6=>rDo6 h p
 | 7=>rDo7 h p
 | _=>(h,p)
def rStep (h:HallS) (p:RProc) (pos:Int):HallS × RProc:=
 if rEnabled h p = false then (h,p)
 else if p.stripes = [] then (h,{ p with err:=1,values:=[],placed:=pos,phase:=8 })
 else rDo h p pos
def rReply (p:RProc):Reply:=if p.phase = 8 then ⟨p.err,p.values,[],false⟩ else ⟨0,[],[],false⟩
structure SwProc where
 stripe:Nat
 rounds:Int
 now:WProc
def swBegin (s:Nat):WProc:=⟨8,s,.sw,0,zTime,-1,0⟩
def swNext (p:SwProc) (n:Int):Nat:=if (p.stripe:Int) + 1 = n then 0 else p.stripe + 1
def swRound (p:SwProc) (n:Int):Int:=if (p.stripe:Int) + 1 = n then p.rounds + 1 else p.rounds
def swStep (h:HallS) (p:SwProc) (pos:Int):HallS × SwProc × Bool:=
 let r:=wStep h p.now pos
 if wDone r.2 = true then (r.1,⟨swNext p r.1.cfg.stripes,swRound p r.1.cfg.stripes,swBegin (swNext p r.1.cfg.stripes)⟩,true) else (r.1,{ p with now:=r.2 },false)
def feed0 (c:Cfg):FeedS:=⟨[],[],fun _=>⟨c.queue,[],false⟩⟩
def str0 (c:Cfg) (fp:Nat):Str:=⟨0,0,evenB c.epochs,noBook,noBook,fp⟩
def strsN (c:Cfg) (fp:Nat → Nat) (k:Nat):List Str:=(List.range k).map fun i=>str0 c (fp i)
def hNew (c:Cfg) (fp:Nat → Nat):HallS:=⟨c,⟨c.start,0,false⟩,strsN c fp c.stripes.toNat,[],fun _=>feed0 c⟩
def inU (users:List ByteArray) (n:Int) (k:Nat) (i:Nat):Bool:=(users.take k).any fun u=>decide (stripeOf u n = (i:Int))
def sIn (f:Nat → Bool) (k:Nat):List Int:=((List.range k).filter f).map fun (s:Nat)=>(s:Int)
theorem sIn_succ (f:Nat → Bool) (k:Nat):sIn f (k + 1) = if f k = true then sIn f k ++ [(k:Int)] else sIn f k:=by
 unfold sIn
 rw [List.range_succ,List.filter_append,List.map_append]
 by_cases h:f k = true
 ·rw [if_pos h,List.filter_cons_of_pos h]
  rfl
 rw [if_neg h,List.filter_cons_of_neg (by simpa using h)]
 simp
theorem sIn_len (f:Nat → Bool):∀ k,(sIn f k).length ≤ k
 | 0=>by simp [sIn]
 | k + 1=>by
  rw [sIn_succ]
  have:=sIn_len f k
  split
  ·simp only [List.length_append,List.length_cons,List.length_nil]
   omega
  ·omega
theorem inU_succ {users:List ByteArray} {n:Int} {k:Nat} (h:k < users.length) (i:Nat):inU users n (k + 1) i = (inU users n k i || decide (stripeOf users[k] n = (i:Int))):=by
 unfold inU
 rw [List.take_succ_eq_append_getElem h,List.any_append]
 simp
theorem strsN_succ (c:Cfg) (fp:Nat → Nat) (b k:Nat):strsN c (fun i=>if i = k then b else fp i) (k + 1) = strsN c fp k ++ [str0 c b]:=by
 unfold strsN
 rw [List.range_succ,List.map_append]
 congr 1
 ·apply List.map_congr_left
  intro i hi
  have:=List.mem_range.1 hi
  show str0 c (if i = k then b else fp i) = _
  rw [if_neg (by omega)]
 simp
def hdReply (p:HProc):Reply:=if hdDone p = true then ⟨p.err,[],p.events,p.lost⟩ else ⟨0,[],[],false⟩
inductive ProcS where
 | w (p:WProc)
 | r (p:RProc)
 | d (p:HProc)
def pWaits:ProcS → Int
 | .w p=>wWaits p
 | .r p=>rWaits p
 | .d p=>hdWaits p
def pEnabled (h:HallS):ProcS → Bool
 | .w p=>wEnabled h p
 | .r p=>rEnabled h p
 | .d p=>hdEnabled h p
def pStep (h:HallS) (m:MineS) (pos:Int):ProcS → HallS × MineS × ProcS
 | .w p=>((wStep h p pos).1,m,.w (wStep h p pos).2)
 | .r p=>((rStep h p pos).1,m,.r (rStep h p pos).2)
 | .d p=>((hdStep h m p pos).1,(hdStep h m p pos).2.1,.d (hdStep h m p pos).2.2)
def pDone:ProcS → Bool
 | .w p=>wDone p
 | .r p=>decide (p.phase = 8)
 | .d p=>hdDone p
def pPlaced:ProcS → Int
 | .w p=>p.placed
 | .r p=>p.placed
 | .d p=>p.placed
def pReply:ProcS → Reply
 | .w p=>⟨if wDone p = true then p.err else 0,[],[],false⟩
 | .r p=>rReply p
 | .d p=>hdReply p
structure ClientS where
 ops:List Opr
 at_:Nat
 mine:MineS
 now:Option ProcS
 call:Int
structure CallS where
 who:Int
 nth:Int
 op:Opr
 stripe:Int
 by_:Int
 began:Int
 placed:Int
 ended:Int
 reply:Reply
structure RunS where
 h:HallS
 clients:List ClientS
 sw:SwProc
 sweep:Int
 n:Int
 ticks:Int
 sweeps:Int
 calls:List CallS
def zOpr:Opr:=⟨0,⟨#[]⟩,0,0,0,0,[]⟩
def zReply:Reply:=⟨0,[],[],false⟩
def newP (h:HallS) (who:Nat) (x:Opr):ProcS:=
 if x.kind = 1 ∨ x.kind = 2 ∨ x.kind = 3 then .w (wNew who (stripeOf x.user h.cfg.stripes).toNat x)
 else if x.kind = 4 ∨ x.kind = 5 then .r (rNew who x h.cfg.stripes h.cfg.retries)
 else .d (hNewP who x (stripeOf x.user h.cfg.stripes).toNat h.cfg.stripes.toNat)
def cBeg (r:RunS) (c:CallS):CallS:={ c with began:=r.n,placed:=-1,ended:=-1 }
def rBegan (r:RunS) (c:CallS):RunS:={ r with calls:=r.calls ++ [cBeg r c] }
def rSetC (r:RunS) (i:Nat) (c:ClientS):RunS:={ r with clients:=r.clients.set i c }
def rBeg (r:RunS) (i:Nat) (c:ClientS) (x:Opr):RunS × ClientS:=
 (rBegan r ⟨i,c.at_,x,0,0,0,0,0,zReply⟩,{ c with now:=some (newP r.h i x),call:=r.calls.length,at_:=c.at_ + 1 })
def callAt (c:CallS) (n:Int) (p:ProcS):CallS:=
 if pDone p = true then { c with placed:=pPlaced p,ended:=n,reply:=pReply p } else { c with placed:=pPlaced p }
def cPl (c:CallS) (x:Int):CallS:={ c with placed:=x }
def cFin (c:CallS) (x:Int):CallS:={ c with ended:=x }
def cRep (c:CallS) (x:Reply):CallS:={ c with reply:=x }
def rMove (r:RunS) (i:Nat) (c:ClientS) (p:ProcS):RunS:=
 let q:=pStep r.h c.mine r.n p
 rSetC { r with h:=q.1,calls:=r.calls.modify c.call.toNat fun x=>callAt x r.n q.2.2 } i { c with mine:=q.2.1,now:=if pDone q.2.2 = true then none else some q.2.2 }
def rBegins (c:ClientS):Bool:=c.now.isNone && decide ((c.at_:Int) < (c.ops.length:Int))
def rPre (r:RunS) (i:Nat) (c:ClientS):RunS × ClientS:=if rBegins c = true then rBeg r i c (c.ops.getD c.at_ zOpr) else (r,c)
def clientStep (r:RunS) (who:Int):RunS × Bool:=
 if who < 0 ∨ (r.clients.length:Int) ≤ who then (r,false)
 else match r.clients[who.toNat]? with
  | none=>(r,false)
  | some c=>match (rPre r who.toNat c).2.now with
   | none=>(rSetC (rPre r who.toNat c).1 who.toNat (rPre r who.toNat c).2,rBegins c)
   | some p=>if pEnabled r.h p = false then (rSetC (rPre r who.toNat c).1 who.toNat (rPre r who.toNat c).2,rBegins c) else (rMove (rPre r who.toNat c).1 who.toNat (rPre r who.toNat c).2 p,true)
def rPolite (r:RunS):Bool:=r.clients.all fun c=>match c.now with
 | none=>true
 | some p=>!decide (pWaits p = (r.sw.stripe:Int))
def rSwBeg (r:RunS):RunS:=if r.sweep < 0 then { rBegan r ⟨8,r.sweeps,zOpr,r.sw.stripe,0,0,0,0,zReply⟩ with sweep:=r.calls.length,sweeps:=r.sweeps + 1 } else r
def rSwMove (r:RunS):RunS:=
 let q:=swStep r.h r.sw r.n
 if q.2.2 = true then { r with h:=q.1,sw:=q.2.1,sweep:=-1,calls:=r.calls.modify r.sweep.toNat fun x=>{ x with ended:=r.n } }
 else { r with h:=q.1,sw:=q.2.1,calls:=r.calls.modify r.sweep.toNat fun x=>{ x with placed:=q.2.1.now.placed } }
def sweepStepR (r:RunS):RunS × Bool:=
 if wEnabled r.h r.sw.now = false ∨ (r.sweep < 0 ∧ rPolite r = false) then (r,false) else (rSwMove (rSwBeg r),true)
def rTick (r:RunS) (by_:Int):RunS:=
 { r with calls:=r.calls ++ [⟨9,r.ticks,zOpr,0,by_,r.n,r.n,r.n,zReply⟩],ticks:=r.ticks + 1,h:=hPass r.h 9 by_ }
def runStep (r:RunS) (p:Pick):RunS × Bool:=
 let q:=if p.kind = 0 then clientStep r p.who else if p.kind = 1 then sweepStepR r else if p.kind = 2 then (rTick r p.by_,true) else (r,false)
 ({ q.1 with n:=q.1.n + 1 },q.2)
def runNew (s:Script) (fp:Nat → Nat):RunS:=⟨hNew s.cfg fp,s.clients.map fun l=>⟨l,0,[],none,-1⟩,⟨0,0,swBegin 0⟩,-1,0,0,0,[]⟩
def runPlay (s:Script) (fp:Nat → Nat) (k:Nat):RunS:=(s.picks.take k).foldl (fun r p=>(runStep r p).1) (runNew s fp)
def BkI (b:Book) (k:Nat):Prop:=KS b.keys ∧ BookLe b k k
theorem BkI.mono {b:Book} {k k' : Nat} (h:BkI b k) (hk:k ≤ k'):BkI b k' := ⟨h.1,h.2.mono hk hk⟩
theorem bkI_no (k:Nat):BkI noBook k:=⟨List.Pairwise.nil,rfl,Nat.zero_le _,fun e h=>by simp [noBook] at h⟩
theorem opSess_len (l:List Sess) (x:Opr) (now most:Int):(opSess l x now most).1.length ≤ l.length + 1:=by
 unfold opSess sSet sBeat sClear
 split
 ·split
  ·simp
  split
  ·exact Nat.le_succ _
  have:=findI_le l x.id
  simp only [List.length_append,List.length_take,List.length_cons,List.length_drop]
  omega
 split
 ·split
  ·simp only
   split <;> simp
  exact Nat.le_succ _
 split
 ·split
  ·simp only [List.length_eraseIdx]
   split <;> omega
  exact Nat.le_succ _
 exact Nat.le_succ _
theorem BkI.get {b:Book} {k:Nat} (h:BkI b k) (u:ByteArray):(bGet b u).sessions.length ≤ k:=by
 unfold bGet oGet
 split
 ·cases hq:b.vals[(findS b.keys u).1]? with
  | none=>exact Nat.zero_le _
  | some e=>exact h.2.2.2 e (List.mem_of_getElem? hq)
 exact Nat.zero_le _
theorem BkI.write {b:Book} {k:Nat} (h:BkI b k) (x:Opr) (now most:Int):BkI (bWrite b x now most).1 (k + 1):=by
 unfold bWrite
 refine ⟨settle_KS h.1 _ _ _,settle_le (h.2.mono (Nat.le_refl _) (Nat.le_succ _)) _ ?_ _⟩
 refine Nat.le_trans (opSess_len _ _ _ _) (Nat.succ_le_succ (Nat.le_trans (List.length_filter_le _ _) (h.get _)))
theorem BkI.sweep {b:Book} {k:Nat} (h:BkI b k) (now:Int):BkI (bSweep b now).1 k:=by
 obtain ⟨g1,g2⟩:=bSweep_KS h.1 h.2.1 now
 have:=(sweepAcc_le h.2 now b.keys.length).1
 rw [sweepAcc_all now (Nat.le_refl _)] at this
 exact ⟨g1,this.1,Nat.le_trans g2 h.2.2.1,this.2.2⟩
theorem tAdd_in {a b:Int} (h0:0 ≤ a) (h1:a ≤ 18446744073709551615) (hb:0 ≤ b):0 ≤ tAdd a b ∧ tAdd a b ≤ 18446744073709551615:=by
 unfold tAdd
 split <;> constructor <;> omega
def QI (q:Nat → RingS) (room:Int):Prop:=∀ i,(q i).room = room ∧ ((q i).l.length:Int) ≤ room
theorem QI.put {q:Nat → RingS} {room:Int} (h:QI q room) (k:Nat) (x:Event):QI (setQ q k (ringPut (q k) x)) room:=fun i=>by
 unfold setQ
 split
 ·unfold ringPut
  have:=h k
  split
  ·exact this
  ·refine ⟨this.1,?_⟩
   simp only [List.length_append,List.length_cons,List.length_nil]
   omega
 ·exact h i
theorem QI.one {f:FeedS} {c:Change} {seq room:Int} {q:Nat → RingS} (h:QI q room) (w:Nat):QI (tellOne f c seq q w) room:=by
 unfold tellOne
 split
 ·exact h.put w _
 exact h
theorem QI.fold {α:Type} {room:Int} (g:(Nat → RingS) → α → Nat → RingS) (hg:∀ q a,QI q room → QI (g q a) room):∀ (l:List α) (q:Nat → RingS),QI q room → QI (l.foldl g q) room
 | [],_,h=>h
 | a :: l,q,h=>QI.fold g hg l _ (hg q a h)
theorem QI.tell {f:FeedS} {room:Int} (h:QI f.q room) (l:List Change) (seq:Int):QI (fTell f l seq).q room:=by
 unfold fTell
 refine QI.fold _ (fun q c h=>?_) l _ h
 unfold tellC tellW
 exact QI.fold _ (fun q w h=>QI.one h w) _ _ h
theorem QI.drain {f:FeedS} {room:Int} (hr:0 ≤ room) (h:QI f.q room) (who:Nat):QI (fDrain f who).q room:=fun i=>by
 unfold fDrain setQ
 simp only
 split
 ·exact ⟨(h who).1,by simpa [ringEmpty] using hr⟩
 ·exact h i
theorem oWithK_len (ks:List ByteArray) (k:ByteArray):(oWithK ks k).length ≤ ks.length + 1:=by
 unfold oWithK
 split
 ·exact Nat.le_succ _
 have:=findS_le ks k
 simp only [List.length_append,List.length_take,List.length_cons,List.length_drop]
 omega
theorem fUnwatch_len (f:FeedS) (who:Int) (u:ByteArray):(fUnwatch f who u).ks.length ≤ f.ks.length + 1:=by
 unfold fUnwatch
 split
 ·exact Nat.le_succ _
 split
 ·exact Nat.le_trans (oOutK_len _ _) (Nat.le_succ _)
 exact oWithK_len _ _
theorem fWatch_len (f:FeedS) (who:Int) (u:ByteArray):(fWatch f who u).ks.length ≤ f.ks.length + 1:=by
 unfold fWatch
 split
 ·exact Nat.le_succ _
 exact oWithK_len _ _
theorem fUnwatch_q (f:FeedS) (who:Int) (u:ByteArray):(fUnwatch f who u).q = f.q:=by
 unfold fUnwatch
 split
 ·rfl
 split <;> rfl
theorem fWatch_q (f:FeedS) (who:Int) (u:ByteArray):(fWatch f who u).q = f.q:=by
 unfold fWatch
 split <;> rfl
structure StrI (x:Str) (k:Nat):Prop where
 l0:0 ≤ x.latch ∧ x.latch ≤ 9
 c0:0 ≤ x.cv ∧ x.cv ≤ (k:Int)
 bk:BkI x.book k
 sn:BkI x.snap k
theorem StrI.mono {x:Str} {k k' : Nat} (h:StrI x k) (hk:k ≤ k'):StrI x k' := ⟨h.l0,⟨h.c0.1,by have:=h.c0.2; omega⟩,h.bk.mono hk,h.sn.mono hk⟩
structure HI (c:Cfg) (h:HallS) (k:Nat):Prop where
 cfg:h.cfg = c
 len:(h.strs.length:Int) = c.stripes
 al:h.acts.length ≤ 2 * k
 tn:0 ≤ h.time.now ∧ h.time.now ≤ 18446744073709551615
 sq:0 ≤ h.time.seq ∧ h.time.seq ≤ 18446744073709551615
 st:∀ s,StrI (hStr h s) k
 fk:∀ s,(h.feed s).ks.length ≤ k
 fq:∀ s,QI (h.feed s).q c.queue
theorem HI.mono {c:Cfg} {h:HallS} {k k' : Nat} (g:HI c h k) (hk:k ≤ k'):HI c h k' := ⟨g.cfg,g.len,by have:=g.al; omega,g.tn,g.sq,fun s=>(g.st s).mono hk,fun s=>Nat.le_trans (g.fk s) hk,g.fq⟩
theorem HI.did {c:Cfg} {h:HallS} {k:Nat} (g:HI c h k) (who kind place:Int):HI c (hDid h who kind place) (k + 1):=
 ⟨g.cfg,g.len,by have:=g.al; simp only [hDid,List.length_append,List.length_cons,List.length_nil]; omega,g.tn,g.sq,fun s=>(g.st s).mono (Nat.le_succ _),fun s=>Nat.le_succ_of_le (g.fk s),g.fq⟩
theorem hStr_setI (h:HallS) (s:Nat) (x:Str) (i:Nat):hStr (hSet h s x) i = x ∨ hStr (hSet h s x) i = hStr h i:=by
 unfold hStr hSet
 simp only
 by_cases e:i = s
 ·subst e
  by_cases hi:i < h.strs.length
  ·left
   rw [List.getD_eq_getElem?_getD,List.getElem?_set_self hi]
   rfl
  right
  rw [List.getD_eq_getElem?_getD,List.getD_eq_getElem?_getD,List.getElem?_eq_none (by rw [List.length_set]; omega),List.getElem?_eq_none (by omega)]
 right
 rw [List.getD_eq_getElem?_getD,List.getElem?_set_ne (fun h=>e h.symm),← List.getD_eq_getElem?_getD]
theorem HI.set {c:Cfg} {h:HallS} {k:Nat} (g:HI c h k) (s:Nat) {x:Str} (hx:StrI x k):HI c (hSet h s x) k:=
 ⟨g.cfg,by show ((h.strs.set s x).length:Int) = _; rw [List.length_set]; exact g.len,g.al,g.tn,g.sq,fun i=>by
  rcases hStr_setI h s x i with e | e <;> rw [e]
  ·exact hx
  ·exact g.st i,g.fk,g.fq⟩
variable {c:Cfg} {h:HallS} {k:Nat}
theorem HI.look (g:HI c h k) (who:Int):HI c (hLook h who) (k + 1):=g.did _ _ _
theorem HI.take (g:HI c h k) (who:Int):HI c (hTake h who) (k + 1):=⟨(g.did who 4 0).cfg,(g.did who 4 0).len,(g.did who 4 0).al,g.tn,tAdd_in g.sq.1 g.sq.2 (by decide),(g.did who 4 0).st,(g.did who 4 0).fk,g.fq⟩
theorem HI.pass (g:HI c h k) (who:Int) {by_:Int} (hb:0 ≤ by_):HI c (hPass h who by_) (k + 1):=⟨(g.did who 4 0).cfg,(g.did who 4 0).len,(g.did who 4 0).al,tAdd_in g.tn.1 g.tn.2 hb,g.sq,(g.did who 4 0).st,(g.did who 4 0).fk,g.fq⟩
theorem HI.shut (g:HI c h k) (who:Int):HI c (hShut h who) (k + 1):=⟨(g.did who 4 0).cfg,(g.did who 4 0).len,(g.did who 4 0).al,g.tn,g.sq,(g.did who 4 0).st,(g.did who 4 0).fk,g.fq⟩
theorem HI.lock (g:HI c h k) {who:Int} (hw:who ≤ 8) (s:Nat):HI c (hLock h who s).1 (k + 1):=by
 unfold hLock
 split
 ·rename_i ht
  refine (g.did _ _ _).set s ?_
  have:=(g.st s).mono (Nat.le_succ k)
  refine ⟨?_,this.c0,this.bk,this.sn⟩
  unfold latchTake at ht ⊢
  split at ht
  ·cases ht
  rename_i hn
  rw [if_neg hn]
  constructor
  ·show 0 ≤ who + 1
   omega
  show who + 1 ≤ 9
  omega
 exact g.mono (Nat.le_succ _)
theorem HI.unlock (g:HI c h k) (who:Int) (s:Nat):HI c (hUnlock h who s).1 (k + 1):=by
 unfold hUnlock
 split
 ·rename_i ht
  refine (g.did _ _ _).set s ?_
  have:=(g.st s).mono (Nat.le_succ k)
  refine ⟨?_,this.c0,this.bk,this.sn⟩
  unfold latchGive at ht ⊢
  split at ht
  ·cases ht
  rename_i hn
  rw [if_neg hn]
  exact ⟨Int.le_refl _,by show (0:Int) ≤ 9; decide⟩
 exact g.mono (Nat.le_succ _)
theorem HI.epoch (g:HI c h k) (who:Int) (s:Nat):HI c (hEpoch h who s) (k + 1):=g.did _ _ _
theorem HI.snap (g:HI c h k) (who:Int) (s:Nat):HI c (hSnap h who s) (k + 1):=g.did _ _ _
theorem HI.read (g:HI c h k) (who:Int) (s:Nat):HI c (hRead h who s) (k + 1):=g.did _ _ _
theorem HI.begin_ (g:HI c h k) (who:Int) (s:Nat):HI c (hBegin h who s) (k + 1):=by
 refine (g.did _ _ _).set s ?_
 have:=(g.st s).mono (Nat.le_succ k)
 refine ⟨this.l0,?_,this.bk,this.sn⟩
 have hc:=(g.st s).c0
 show 0 ≤ cBegin _ _ ∧ cBegin _ _ ≤ _
 unfold cBegin
 split <;> constructor <;> omega
theorem HI.end_ (g:HI c h k) (who:Int) (s:Nat):HI c (hEnd h who s) (k + 1):=by
 refine (g.did _ _ _).set s ?_
 have:=(g.st s).mono (Nat.le_succ k)
 refine ⟨this.l0,?_,this.bk,this.sn⟩
 have hc:=(g.st s).c0
 show 0 ≤ cEnd _ ∧ cEnd _ ≤ _
 unfold cEnd
 split <;> constructor <;> omega
theorem HI.publish (g:HI c h k) (who:Int) (s:Nat):HI c (hPublish h who s) (k + 1):=by
 have g2:HI c (hDid (hDid h who 1 (plc s 4)) who 4 (plc s 3)) (k + 1):=
  ⟨g.cfg,g.len,by have:=g.al; simp only [hDid,List.length_append,List.length_cons,List.length_nil]; omega,g.tn,g.sq,fun s=>(g.st s).mono (Nat.le_succ _),fun s=>Nat.le_succ_of_le (g.fk s),g.fq⟩
 refine g2.set s ?_
 have:=(g.st s).mono (Nat.le_succ k)
 exact ⟨this.l0,this.c0,this.bk,this.bk⟩
theorem HI.feed_ (g:HI c h k) (s:Nat) {f:FeedS} (h1:f.ks.length ≤ k) (h2:QI f.q c.queue):HI c { h with feed:=setF h.feed s f } k:=
 ⟨g.cfg,g.len,g.al,g.tn,g.sq,g.st,fun i=>by show (setF h.feed s f i).ks.length ≤ k; unfold setF; split; exact h1; exact g.fk i,fun i=>by show QI (setF h.feed s f i).q _; unfold setF; split; exact h2; exact g.fq i⟩
theorem HI.drain (g:HI c h k) (hq:0 ≤ c.queue) (who s:Nat):HI c (hDrain h who s) (k + 1):=
 (g.did _ _ _).feed_ s (Nat.le_succ_of_le (g.fk s)) ((g.fq s).drain hq who)
theorem HI.watch (g:HI c h k) (who:Int) (s:Nat) (u:ByteArray) (on:Bool):HI c (hWatch h who s u on) (k + 1):=by
 refine (g.did _ _ _).feed_ s ?_ ?_
 ·have:=g.fk s
  cases on
  ·exact Nat.le_trans (fUnwatch_len _ _ _) (Nat.succ_le_succ this)
  exact Nat.le_trans (fWatch_len _ _ _) (Nat.succ_le_succ this)
 cases on
 ·show QI (fUnwatch _ _ _).q _
  rw [fUnwatch_q]
  exact g.fq s
 show QI (fWatch _ _ _).q _
 rw [fWatch_q]
 exact g.fq s
theorem HI.write (g:HI c h k) (who:Int) (s:Nat) (x:Opr) (t:Time):HI c (hWrite h who s x t).1 (k + 1):=by
 unfold hWrite
 split
 ·exact g.did _ _ _
 have hs:=(g.st s).mono (Nat.le_succ k)
 exact ((g.did who 2 (plc s 4)).set s (x:={ hStr h s with book:=(bWrite (hStr h s).book x t.now h.cfg.sessions).1 }) ⟨hs.l0,hs.c0,(g.st s).bk.write _ _ _,hs.sn⟩).feed_ s (f:=fTell (h.feed s) _ t.seq) (Nat.le_succ_of_le (g.fk s)) ((g.fq s).tell _ _)
theorem HI.sweep (g:HI c h k) (who:Int) (s:Nat) (t:Time):HI c (hSweep h who s t) (k + 1):=by
 have hs:=(g.st s).mono (Nat.le_succ k)
 exact ((g.did who 2 (plc s 4)).set s (x:={ hStr h s with book:=(bSweep (hStr h s).book t.now).1 }) ⟨hs.l0,hs.c0,hs.bk.sweep _,hs.sn⟩).feed_ s (f:=fTell (h.feed s) _ t.seq) (Nat.le_succ_of_le (g.fk s)) ((g.fq s).tell _ _)
theorem size_ne {s:ByteArray} (h:¬ s = ⟨#[]⟩):¬ s.size = 0:=fun e=>h (ByteArray.ext (Array.eq_empty_of_size_eq_zero e))
theorem BO.mul {i j:Int} {t:TypeId} (h0:-9223372036854775808 ≤ i * j) (h1:i * j ≤ 9223372036854775807):BO .mul t (.int .i64 i) (.int .i64 j) (.int .i64 (i * j)):=by
 have:=BO.mul_ (k:=.i64) (i:=i) (j:=j) (t:=t)
 rwa [wrap64 h0 h1] at this
theorem and1 {v:Int} (h0:0 ≤ v) (h1:v ≤ 18446744073709551615):bAnd .u64 v 1 = v % 2:=by
 obtain ⟨n,rfl⟩:=Int.eq_ofNat_of_zero_le h0
 have e:(BitVec.ofInt 64 (n:Int) &&& BitVec.ofInt 64 1).toNat = n % 2:=by
  rw [BitVec.toNat_and]
  have h2:(BitVec.ofInt 64 (n:Int)).toNat = n:=by
   rw [BitVec.toNat_ofInt]
   omega
  have h3:(BitVec.ofInt 64 1).toNat = 1:=rfl
  rw [h2,h3,Nat.and_one_is_mod]
 show IntKind.u64.wrap ((BitVec.ofInt 64 (n:Int) &&& BitVec.ofInt 64 1).toNat:Int) = _
 rw [e,wrapU64 (by omega) (by omega)]
 rfl
theorem not1 {v:Int} (h0:0 ≤ v) (h1:v ≤ 18446744073709551615):bNot .u64 v 1 = evenB v:=by
 obtain ⟨n,rfl⟩:=Int.eq_ofNat_of_zero_le h0
 have h2:(BitVec.ofInt 64 (n:Int)).toNat = n:=by
  rw [BitVec.toNat_ofInt]
  omega
 have e:(BitVec.ofInt 64 (n:Int) &&& ~~~(BitVec.ofInt 64 1)).toNat = n - n % 2:=by
  have hx:BitVec.ofInt 64 (n:Int) = BitVec.ofNat 64 n:=by
   apply BitVec.eq_of_toNat_eq
   rw [h2,BitVec.toNat_ofNat]
   omega
  have key:∀ x:BitVec 64,x &&& ~~~(BitVec.ofInt 64 1) = x - (x &&& 1#64):=by
   intro x
   have h3:(x &&& ~~~(1#64)) + (x &&& 1#64) = x:=by
    rw [BitVec.add_eq_or_of_and_eq_zero]
    ·apply BitVec.eq_of_getLsbD_eq
     intro i hi
     simp only [BitVec.getLsbD_or,BitVec.getLsbD_and,BitVec.getLsbD_not]
     cases x.getLsbD i <;> cases (1#64).getLsbD i <;> simp [hi]
    apply BitVec.eq_of_getLsbD_eq
    intro i hi
    simp only [BitVec.getLsbD_and,BitVec.getLsbD_not]
    cases x.getLsbD i <;> cases (1#64).getLsbD i <;> simp
   have h4:BitVec.ofInt 64 1 = 1#64:=rfl
   rw [h4,BitVec.eq_sub_iff_add_eq]
   exact h3
  rw [key,hx]
  have h5:(BitVec.ofNat 64 n &&& 1#64).toNat = n % 2:=by
   rw [BitVec.toNat_and,BitVec.toNat_ofNat]
   have:n % 2 ^ 64 = n:=by omega
   rw [this]
   show n &&& 1 = n % 2
   exact Nat.and_one_is_mod n
  have h6:(BitVec.ofNat 64 n).toNat = n:=by
   rw [BitVec.toNat_ofNat]
   omega
  rw [BitVec.toNat_sub,h5,h6]
  omega
 show IntKind.u64.wrap ((BitVec.ofInt 64 (n:Int) &&& ~~~(BitVec.ofInt 64 1)).toNat:Int) = _
 rw [e,wrapU64 (by omega) (by omega)]
 unfold evenB
 omega
theorem tick_Add (a b:Int) (t:TW) (h0:0 ≤ a) (h1:a ≤ 18446744073709551615) (h2:0 ≤ b) (h3:b ≤ 18446744073709551615):Cal 104 [.int .u64 a,.int .u64 b] t No (fun v _=>v = .int .u64 (tAdd a b)):=by
 refine Cal.en Tryz.func104 rfl Tryz.ntmps104<|WC.rs<|WL.a rfl<|WL.go<|WC.seq<|WC.rs<|WL.m rfl<|WL.m rfl<|WL.f (Fr.bo rfl rfl (BO.subU (by omega) (by omega)))<|WL.f (Fr.bo rfl rfl BO.gt) ?_
 refine WL.go ?_
 refine WC.condS rfl (fun hcond8=>?_) (fun hcond8=>?_)
 ·have hc:=dcT hcond8
  exact WC.rs<|WL.a rfl<|WL.go<|WC.ret<|WQ.tr<|WQ.ret rfl (.tmp rfl .nil) (by unfold tAdd; rw [if_pos (by omega)]; rfl)
 have hc:=dcF hcond8
 exact WC.skip<|WQ.n<|WC.rs<|WL.m rfl<|WL.m rfl<|WL.f (Fr.bo rfl rfl (BO.addU (by omega) (by omega)))<|WL.a rfl<|WL.go<|WC.ret<|WQ.ret rfl (.tmp rfl .nil) (by unfold tAdd; rw [if_neg (by omega)]; rfl)
theorem tick_Pass (now seq:Int) (cl:Bool) (b:Int) (t:TW) (h0:0 ≤ now) (h1:now ≤ 18446744073709551615) (h2:0 ≤ b) (h3:b ≤ 18446744073709551615):Cal 85 [.agg #[.int .u64 now,.int .u64 seq,.bool cl],.int .u64 b] t No (fun v _=>v = .agg #[.int .u64 (tAdd now b),.int .u64 seq,.bool cl]):=by
 refine Cal.en Tryz.func85 rfl Tryz.ntmps85<|WC.rs<|WL.e (Ef.bx (.loc 2) (cs:=[.int .u64 now,.int .u64 seq,.bool cl]) rfl) ?_
 rintro _ t1 ⟨b2,rfl,s1,hb2,nb2,_⟩
 refine WL.e (Ef.al (.loc 4) zr42) ?_
 rintro _ t2 ⟨b4,rfl,s2,hb4,nb4,_⟩
 have hb2:=hb2.n s2
 refine WL.go<|WC.rs<|WL.q 0 rfl fa42_0<|WL.r (Rd.ld rfl sc22 (hb2.cell rfl))<|WL.m rfl<|WL.e (Ef.call rfl en104 (tick_Add _ _ _ (by omega) (by omega) (by omega) (by omega)) (fun _ h=>h.elim)) ?_
 rintro _ t3 ⟨s3,rfl⟩
 obtain ⟨hb2,hb4⟩:=Q2 (hb2.n s3) (hb4.n s3)
 refine WL.q 0 rfl fa42_0<|WL.e0 (Ef.T [.int .u64 (tAdd now b)] rfl rfl hb2 sz22 (.inl nb2)) ?_
 rintro _ t4 ⟨_,s4,hb2'⟩
 have hb2:Bk t4 b2 [.int .u64 (tAdd now b),.int .u64 seq,.bool cl] _ _:=hb2'
 clear hb2'
 have hb4:=hb4.n s4
 refine WL.go<|WC.rs<|WL.r (Rd.la rfl ag42 (hb2.at (vs:=[.int .u64 (tAdd now b),.int .u64 seq,.bool cl]) rfl))<|WL.e0 (Ef.T [.int .u64 (tAdd now b),.int .u64 seq,.bool cl] rfl rfl hb4 sz42 (.inl nb4)) ?_
 rintro _ t5 ⟨_,s5,hb4'⟩
 have hb4:Bk t5 b4 [.int .u64 (tAdd now b),.int .u64 seq,.bool cl] _ _:=hb4'
 clear hb4'
 exact WL.go<|WC.ret<|WQ.ret rfl (.cell rfl (loadVar_ag ag42 rfl (hb4.at (vs:=[.int .u64 (tAdd now b),.int .u64 seq,.bool cl]) rfl)) .nil) (rfl)
theorem tick_Take (now seq:Int) (cl:Bool) (t:TW) (h0:0 ≤ seq) (h1:seq ≤ 18446744073709551615):Cal 186 [.agg #[.int .u64 now,.int .u64 seq,.bool cl]] t No (fun v _=>v = .tuple #[.agg #[.int .u64 now,.int .u64 (tAdd seq 1),.bool cl],.int .u64 (tAdd seq 1)]):=by
 refine Cal.en Tryz.func186 rfl Tryz.ntmps186<|WC.rs<|WL.e (Ef.bx (.loc 1) (cs:=[.int .u64 now,.int .u64 seq,.bool cl]) rfl) ?_
 rintro _ t1 ⟨b1,rfl,s1,hb1,nb1,_⟩
 refine WL.e (Ef.al (.loc 2) zr42) ?_
 rintro _ t2 ⟨b2,rfl,s2,hb2,nb2,_⟩
 have hb1:=hb1.n s2
 refine WL.a rfl<|WL.go<|WC.rs<|WL.q 1 rfl fa42_1<|WL.r (Rd.ld rfl sc22 (hb1.cell rfl))<|WL.e (Ef.call rfl en104 (tick_Add _ _ _ (by omega) (by omega) (by omega) (by omega)) (fun _ h=>h.elim)) ?_
 rintro _ t3 ⟨s3,rfl⟩
 obtain ⟨hb1,hb2⟩:=Q2 (hb1.n s3) (hb2.n s3)
 refine WL.q 1 rfl fa42_1<|WL.e0 (Ef.T [.int .u64 (tAdd seq 1)] rfl rfl hb1 sz22 (.inl nb1)) ?_
 rintro _ t4 ⟨_,s4,hb1'⟩
 have hb1:Bk t4 b1 [.int .u64 now,.int .u64 (tAdd seq 1),.bool cl] _ _:=hb1'
 clear hb1'
 have hb2:=hb2.n s4
 refine WL.go<|WC.drs (fun w=>At w b1 0 [.int .u64 now,.int .u64 (tAdd seq 1),.bool cl] ∧ At w b1 1 [.int .u64 (tAdd seq 1)] ∧ True) .body (⟨hb1.at rfl,hb1.at rfl,trivial⟩) ?_
 obtain ⟨hb1,hb2⟩:=Q2 (hb1.n (TW.drew_step _)) (hb2.n (TW.drew_step _))
 refine DL.fx 1 rfl (Fr.q 1 rfl fa42_1)<|DL.hx 0 rfl (fun w hw=>Rd.la rfl ag42 hw.1)<|DL.hx 2 rfl (fun w hw=>Rd.ld rfl sc22 (hw.2.1.one rfl))<|DL.e0x 3 rfl (Ef.T [.int .u64 now,.int .u64 (tAdd seq 1),.bool cl] rfl rfl hb2 sz42 (.inl nb2)) (fun _ _ ⟨_,s,_⟩=>⟨hb1.a s,hb1.a s,trivial⟩) ?_
 rintro _ t5 ⟨_,s5,hb2'⟩
 have hb2:Bk t5 b2 [.int .u64 now,.int .u64 (tAdd seq 1),.bool cl] _ _:=hb2'
 clear hb2'
 exact DL.fx 4 rfl (Fr.as rfl)<|DL.D<|WQ.n<|WC.ret<|WQ.ret rfl (.cell rfl (loadVar_ag ag42 rfl (hb2.at (vs:=[.int .u64 now,.int .u64 (tAdd seq 1),.bool cl]) rfl)) (.tmp rfl .nil)) (rfl)
theorem tick_Shut (now seq:Int) (cl:Bool) (t:TW):Cal 123 [.agg #[.int .u64 now,.int .u64 seq,.bool cl]] t No (fun v _=>v = .agg #[.int .u64 now,.int .u64 seq,.bool true]):=by
 refine Cal.en Tryz.func123 rfl Tryz.ntmps123<|WC.rs<|WL.e (Ef.bx (.loc 1) (cs:=[.int .u64 now,.int .u64 seq,.bool cl]) rfl) ?_
 rintro _ t1 ⟨b1,rfl,s1,hb1,nb1,_⟩
 refine WL.e (Ef.al (.loc 2) zr42) ?_
 rintro _ t2 ⟨b2,rfl,s2,hb2,nb2,_⟩
 have hb1:=hb1.n s2
 refine WL.go<|WC.rs<|WL.q 2 rfl fa42_2<|WL.e0 (Ef.T [.bool true] rfl rfl hb1 sz4 (.inl nb1)) ?_
 rintro _ t3 ⟨_,s3,hb1'⟩
 have hb1:Bk t3 b1 [.int .u64 now,.int .u64 seq,.bool true] _ _:=hb1'
 clear hb1'
 have hb2:=hb2.n s3
 refine WL.go<|WC.rs<|WL.r (Rd.la rfl ag42 (hb1.at (vs:=[.int .u64 now,.int .u64 seq,.bool true]) rfl))<|WL.e0 (Ef.T [.int .u64 now,.int .u64 seq,.bool true] rfl rfl hb2 sz42 (.inl nb2)) ?_
 rintro _ t4 ⟨_,s4,hb2'⟩
 have hb2:Bk t4 b2 [.int .u64 now,.int .u64 seq,.bool true] _ _:=hb2'
 clear hb2'
 exact WL.go<|WC.ret<|WQ.ret rfl (.cell rfl (loadVar_ag ag42 rfl (hb2.at (vs:=[.int .u64 now,.int .u64 seq,.bool true]) rfl)) .nil) (rfl)
theorem tick_Late (now until_:Int) (t:TW):Cal 146 [.int .u64 now,.int .u64 until_] t No (fun v _=>v = .bool (decide (until_ ≤ now))):=by
 refine Cal.en Tryz.func146 rfl Tryz.ntmps146<|WC.rs<|WL.a rfl<|WL.go<|WC.rs<|WL.m rfl<|WL.m rfl<|WL.f (Fr.bo rfl rfl BO.le)<|WL.a rfl<|WL.go ?_
 exact WC.ret<|WQ.ret rfl (.tmp rfl .nil) (rfl)
theorem cell_Spent (v bd:Int) (t:TW):Cal 203 [.agg #[.int .u64 v,.int .u64 bd]] t No (fun r _=>r = .bool (decide (bd ≤ v))):=by
 refine Cal.en Tryz.func203 rfl Tryz.ntmps203<|WC.rs<|WL.e (Ef.bx (.loc 1) (cs:=[.int .u64 v,.int .u64 bd]) rfl) ?_
 rintro _ t1 ⟨b1,rfl,s1,hb1,nb1,_⟩
 refine WL.a rfl<|WL.go<|WC.rs<|WL.q 0 rfl fa147_0<|WL.r (Rd.ld rfl sc22 (hb1.cell rfl))<|WL.q 1 rfl fa147_1<|WL.r (Rd.ld rfl sc22 (hb1.cell rfl))<|WL.f (Fr.bo rfl rfl BO.ge)<|WL.a rfl<|WL.go ?_
 exact WC.ret<|WQ.ret rfl (.tmp rfl .nil) (rfl)
theorem cell_Writing (v bd:Int) (t:TW) (h0:0 ≤ v) (h1:v ≤ 18446744073709551615):Cal 204 [.agg #[.int .u64 v,.int .u64 bd]] t No (fun r _=>r = .bool (cWriting v)):=by
 refine Cal.en Tryz.func204 rfl Tryz.ntmps204<|WC.rs<|WL.e (Ef.bx (.loc 1) (cs:=[.int .u64 v,.int .u64 bd]) rfl) ?_
 rintro _ t1 ⟨b1,rfl,s1,hb1,nb1,_⟩
 refine WL.a rfl<|WL.go<|WC.rs<|WL.q 0 rfl fa147_0<|WL.r (Rd.ld rfl sc22 (hb1.cell rfl))<|WL.f (Fr.bo rfl rfl BO.and_)<|WL.f (Fr.bo rfl rfl BO.eq)<|WL.a rfl<|WL.go<|WC.ret ?_
 exact WQ.ret rfl (.tmp rfl .nil) (by unfold cWriting; rw [← and1 h0 h1]; rfl)
theorem cell_Value (v bd:Int) (t:TW):Cal 257 [.agg #[.int .u64 v,.int .u64 bd]] t No (fun r _=>r = .int .u64 v):=by
 refine Cal.en Tryz.func257 rfl Tryz.ntmps257<|WC.rs<|WL.e (Ef.bx (.loc 1) (cs:=[.int .u64 v,.int .u64 bd]) rfl) ?_
 rintro _ t1 ⟨b1,rfl,s1,hb1,nb1,_⟩
 exact WL.a rfl<|WL.go<|WC.rs<|WL.q 0 rfl fa147_0<|WL.r (Rd.ld rfl sc22 (hb1.cell rfl))<|WL.a rfl<|WL.go<|WC.ret<|WQ.ret rfl (.tmp rfl .nil) (rfl)
theorem cell_New (b:Int) (t:TW) (h0:0 ≤ b) (h1:b ≤ 18446744073709551615):Cal 59 [.int .u64 b] t No (fun r _=>r = .agg #[.int .u64 0,.int .u64 (evenB b)]):=by
 refine Cal.en Tryz.func59 rfl Tryz.ntmps59<|WC.rs<|WL.e (Ef.al (.loc 2) zr147) ?_
 rintro _ t1 ⟨b2,rfl,s1,hb2,nb2,_⟩
 refine WL.go<|WC.rs<|WL.m rfl<|WL.f (Fr.bo rfl rfl BO.andNot_)<|WL.f (Fr.bd (vs:=[(1,.int .u64 (bNot .u64 b 1))]) (cs:=#[.int .u64 0,.int .u64 (bNot .u64 b 1)]) rfl (fun w=>by kernel_rfl))<|WL.e0 (Ef.T [.int .u64 0,.int .u64 (bNot .u64 b 1)] rfl rfl hb2 sz147 (.inl nb2)) ?_
 rintro _ t2 ⟨_,s2,hb2'⟩
 have hb2:Bk t2 b2 [.int .u64 0,.int .u64 (bNot .u64 b 1)] _ _:=hb2'
 clear hb2'
 exact WL.go<|WC.ret<|WQ.ret rfl (.cell rfl (loadVar_ag ag147 rfl (hb2.at (vs:=[.int .u64 0,.int .u64 (bNot .u64 b 1)]) rfl)) .nil) (by rw [← not1 h0 h1]; rfl)
theorem cell_Begin (v bd:Int) (t:TW) (h0:0 ≤ v) (h1:v < 18446744073709551615):Cal 185 [.agg #[.int .u64 v,.int .u64 bd]] t No (fun r _=>r = .agg #[.int .u64 (cBegin v bd),.int .u64 bd]):=by
 refine Cal.en Tryz.func185 rfl Tryz.ntmps185<|WC.rs<|WL.e (Ef.bx (.loc 1) (cs:=[.int .u64 v,.int .u64 bd]) rfl) ?_
 rintro _ t1 ⟨b1,rfl,s1,hb1,nb1,_⟩
 refine WL.e (Ef.al (.loc 2) zr147) ?_
 rintro _ t2 ⟨b2,rfl,s2,hb2,nb2,_⟩
 have hb1:=hb1.n s2
 refine WL.go<|WC.seq<|WC.rs<|WL.r (Rd.la rfl ag147 (hb1.at (vs:=[.int .u64 v,.int .u64 bd]) rfl))<|WL.e (Ef.call rfl en203 (cell_Spent _ _ _) (fun _ h=>h.elim)) ?_
 rintro _ t3 ⟨s3,rfl⟩
 obtain ⟨hb1,hb2⟩:=Q2 (hb1.n s3) (hb2.n s3)
 refine WL.f (Fr.un_not rfl)<|WL.m rfl ?_
 refine WL.pin 6 rfl (fun hp6=>?_) (fun hp6=>?_)
 ·refine WL.r (Rd.la rfl ag147 (hb1.at (vs:=[.int .u64 v,.int .u64 bd]) rfl))<|WL.e (Ef.call rfl en204 (cell_Writing _ _ _ (by omega) (by omega)) (fun _ h=>h.elim)) ?_
  rintro _ t4 ⟨s4,rfl⟩
  obtain ⟨hb1,hb2⟩:=Q2 (hb1.n s4) (hb2.n s4)
  refine WL.f (Fr.un_not rfl)<|WL.f (Fr.pkT rfl rfl)<|WL.go ?_
  refine WC.condS rfl (fun hcond10=>?_) (fun hcond10=>?_)
  ·refine WC.rg<|WL.q 0 rfl fa147_0<|WL.r (Rd.ld rfl sc22 (hb1.cell rfl))<|WL.f (Fr.bo rfl rfl (BO.addU (by omega) (by omega)))<|WL.q 0 rfl fa147_0<|WL.e0 (Ef.T [.int .u64 (v + 1)] rfl rfl hb1 sz22 (.inl nb1)) ?_
   rintro _ t5 ⟨_,s5,hb1'⟩
   have hb1:Bk t5 b1 [.int .u64 (v + 1),.int .u64 bd] _ _:=hb1'
   clear hb1'
   have hb2:=hb2.n s5
   refine WL.nil<|WQ.n<|WC.rs<|WL.r (Rd.la rfl ag147 (hb1.at (vs:=[.int .u64 (v + 1),.int .u64 bd]) rfl))<|WL.e0 (Ef.T [.int .u64 (v + 1),.int .u64 bd] rfl rfl hb2 sz147 (.inl nb2)) ?_
   rintro _ t6 ⟨_,s6,hb2'⟩
   have hb2:Bk t6 b2 [.int .u64 (v + 1),.int .u64 bd] _ _:=hb2'
   clear hb2'
   exact WL.go<|WC.ret<|WQ.ret rfl (.cell rfl (loadVar_ag ag147 rfl (hb2.at (vs:=[.int .u64 (v + 1),.int .u64 bd]) rfl)) .nil) (by simp [resOf,cBegin,dcF (notE hp6),notE hcond10])
  refine WC.skip<|WQ.n<|WC.rs<|WL.r (Rd.la rfl ag147 (hb1.at (vs:=[.int .u64 v,.int .u64 bd]) rfl))<|WL.e0 (Ef.T [.int .u64 v,.int .u64 bd] rfl rfl hb2 sz147 (.inl nb2)) ?_
  rintro _ t7 ⟨_,s7,hb2'⟩
  have hb2:Bk t7 b2 [.int .u64 v,.int .u64 bd] _ _:=hb2'
  clear hb2'
  exact WL.go<|WC.ret<|WQ.ret rfl (.cell rfl (loadVar_ag ag147 rfl (hb2.at (vs:=[.int .u64 v,.int .u64 bd]) rfl)) .nil) (by simp [resOf,cBegin,dcF (notE hp6),notE hcond10])
 refine WL.s<|WL.s<|WL.s<|WL.f (Fr.pkF rfl rfl)<|WL.go<|WC.condF<|WC.skip<|WQ.n<|WC.rs<|WL.r (Rd.la rfl ag147 (hb1.at (vs:=[.int .u64 v,.int .u64 bd]) rfl)) ?_
 refine WL.e0 (Ef.T [.int .u64 v,.int .u64 bd] rfl rfl hb2 sz147 (.inl nb2)) ?_
 rintro _ t8 ⟨_,s8,hb2'⟩
 have hb2:Bk t8 b2 [.int .u64 v,.int .u64 bd] _ _:=hb2'
 clear hb2'
 exact WL.go<|WC.ret<|WQ.ret rfl (.cell rfl (loadVar_ag ag147 rfl (hb2.at (vs:=[.int .u64 v,.int .u64 bd]) rfl)) .nil) (by simp [resOf,cBegin,dcT (notE hp6)])
theorem cell_End (v bd:Int) (t:TW) (h0:0 ≤ v) (h1:v < 18446744073709551615):Cal 187 [.agg #[.int .u64 v,.int .u64 bd]] t No (fun r _=>r = .agg #[.int .u64 (cEnd v),.int .u64 bd]):=by
 refine Cal.en Tryz.func187 rfl Tryz.ntmps187<|WC.rs<|WL.e (Ef.bx (.loc 1) (cs:=[.int .u64 v,.int .u64 bd]) rfl) ?_
 rintro _ t1 ⟨b1,rfl,s1,hb1,nb1,_⟩
 refine WL.e (Ef.al (.loc 2) zr147) ?_
 rintro _ t2 ⟨b2,rfl,s2,hb2,nb2,_⟩
 have hb1:=hb1.n s2
 refine WL.go<|WC.seq<|WC.rs<|WL.r (Rd.la rfl ag147 (hb1.at (vs:=[.int .u64 v,.int .u64 bd]) rfl))<|WL.e (Ef.call rfl en204 (cell_Writing _ _ _ (by omega) (by omega)) (fun _ h=>h.elim)) ?_
 rintro _ t3 ⟨s3,rfl⟩
 obtain ⟨hb1,hb2⟩:=Q2 (hb1.n s3) (hb2.n s3)
 refine WL.go ?_
 refine WC.condS rfl (fun hcond4=>?_) (fun hcond4=>?_)
 ·refine WC.rg<|WL.q 0 rfl fa147_0<|WL.r (Rd.ld rfl sc22 (hb1.cell rfl))<|WL.f (Fr.bo rfl rfl (BO.addU (by omega) (by omega)))<|WL.q 0 rfl fa147_0<|WL.e0 (Ef.T [.int .u64 (v + 1)] rfl rfl hb1 sz22 (.inl nb1)) ?_
  rintro _ t4 ⟨_,s4,hb1'⟩
  have hb1:Bk t4 b1 [.int .u64 (v + 1),.int .u64 bd] _ _:=hb1'
  clear hb1'
  have hb2:=hb2.n s4
  refine WL.nil<|WQ.n<|WC.rs<|WL.r (Rd.la rfl ag147 (hb1.at (vs:=[.int .u64 (v + 1),.int .u64 bd]) rfl))<|WL.e0 (Ef.T [.int .u64 (v + 1),.int .u64 bd] rfl rfl hb2 sz147 (.inl nb2)) ?_
  rintro _ t5 ⟨_,s5,hb2'⟩
  have hb2:Bk t5 b2 [.int .u64 (v + 1),.int .u64 bd] _ _:=hb2'
  clear hb2'
  exact WL.go<|WC.ret<|WQ.ret rfl (.cell rfl (loadVar_ag ag147 rfl (hb2.at (vs:=[.int .u64 (v + 1),.int .u64 bd]) rfl)) .nil) (by simp [resOf,cEnd,hcond4])
 refine WC.skip<|WQ.n<|WC.rs<|WL.r (Rd.la rfl ag147 (hb1.at (vs:=[.int .u64 v,.int .u64 bd]) rfl))<|WL.e0 (Ef.T [.int .u64 v,.int .u64 bd] rfl rfl hb2 sz147 (.inl nb2)) ?_
 rintro _ t6 ⟨_,s6,hb2'⟩
 have hb2:Bk t6 b2 [.int .u64 v,.int .u64 bd] _ _:=hb2'
 clear hb2'
 exact WL.go<|WC.ret<|WQ.ret rfl (.cell rfl (loadVar_ag ag147 rfl (hb2.at (vs:=[.int .u64 v,.int .u64 bd]) rfl)) .nil) (by simp [resOf,cEnd,hcond4])
theorem cell_Valid (a b bd:Int) (t:TW) (h0:0 ≤ a) (h1:a ≤ 18446744073709551615) (h2:0 ≤ bd) (h3:bd ≤ 18446744073709551615):Cal 253 [.int .u64 a,.int .u64 b,.int .u64 bd] t No (fun r _=>r = .bool (decide (a = b ∧ a % 2 = 0 ∧ a < evenB bd))):=by
 refine Cal.en Tryz.func253 rfl Tryz.ntmps253<|WC.rs<|WL.a rfl<|WL.go<|WC.rs<|WL.m rfl<|WL.m rfl<|WL.f (Fr.bo rfl rfl BO.eq)<|WL.m rfl ?_
 refine WL.pin 10 rfl (fun hp10=>?_) (fun hp10=>?_)
 ·obtain rfl:=dcT hp10
  refine WL.m rfl<|WL.f (Fr.bo rfl rfl BO.and_)<|WL.f (Fr.bo rfl rfl BO.eq)<|WL.f (Fr.pkT rfl rfl)<|WL.m rfl ?_
  refine WL.pin 15 rfl (fun hp15=>?_) (fun hp15=>?_)
  ·rw [and1 h0 h1] at hp15
   exact WL.m rfl<|WL.m rfl<|WL.f (Fr.bo rfl rfl BO.andNot_)<|WL.f (Fr.bo rfl rfl BO.lt)<|WL.f (Fr.pkT rfl rfl)<|WL.a rfl<|WL.go<|WC.ret<|WQ.ret rfl (.tmp rfl .nil) (by simp [resOf,and1 h0 h1,not1 h2 h3,dcT hp10,dcT hp15])
  rw [and1 h0 h1] at hp15
  exact WL.s<|WL.s<|WL.s<|WL.s<|WL.f (Fr.pkF rfl rfl)<|WL.a rfl<|WL.go<|WC.ret<|WQ.ret rfl (.tmp rfl .nil) (by simp [resOf,and1 h0 h1,not1 h2 h3,dcT hp10,dcF hp15])
 refine WL.s<|WL.s<|WL.s<|WL.f (Fr.pkF rfl rfl)<|WL.m rfl<|WL.s<|WL.s<|WL.s<|WL.s<|WL.f (Fr.pkF rfl rfl) ?_
 exact WL.a rfl<|WL.go<|WC.ret<|WQ.ret rfl (.tmp rfl .nil) (by simp [resOf,and1 h0 h1,not1 h2 h3,dcF hp10])
theorem hall_Place (s w:Int) (t:TW) (h0:0 ≤ s) (h1:s ≤ 100) (h2:0 ≤ w) (h3:w ≤ 100):Cal 105 [.int .i64 s,.int .i64 w] t No (fun r _=>r = .int .i64 (4 * s + w)):=by
 refine Cal.en Tryz.func105 rfl Tryz.ntmps105<|WC.rs<|WL.a rfl<|WL.go<|WC.rs<|WL.m rfl<|WL.f (Fr.bo rfl rfl (BO.mul (by omega) (by omega)))<|WL.m rfl<|WL.f (Fr.bo rfl rfl (BO.add (by omega) (by omega)))<|WL.a rfl ?_
 exact WL.go<|WC.ret<|WQ.ret rfl (.tmp rfl .nil) (rfl)
theorem aggr_Better (i1 s1 p1 u1 i2 s2 p2 u2:Int) (t:TW):Cal 168 [.agg #[.int .i64 i1,.int .i64 s1,.int .i64 p1,.int .u64 u1],.agg #[.int .i64 i2,.int .i64 s2,.int .i64 p2,.int .u64 u2]] t No (fun r _=>r = .bool (decide (p2 < p1 ∨ p1 = p2 ∧ i1 < i2))):=by
 refine Cal.en Tryz.func168 rfl Tryz.ntmps168<|WC.rs<|WL.e (Ef.bx (.loc 2) (cs:=[.int .i64 i1,.int .i64 s1,.int .i64 p1,.int .u64 u1]) rfl) ?_
 rintro _ t1 ⟨b2,rfl,s1,hb2,nb2,_⟩
 refine WL.e (Ef.bx (.loc 3) (cs:=[.int .i64 i2,.int .i64 s2,.int .i64 p2,.int .u64 u2]) rfl) ?_
 rintro _ t2 ⟨b3,rfl,s2,hb3,nb3,_⟩
 have hb2:=hb2.n s2
 refine WL.a rfl<|WL.go<|WC.rs<|WL.q 2 rfl fa134_2<|WL.r (Rd.ld rfl sc3 (hb2.cell rfl))<|WL.q 2 rfl fa134_2<|WL.r (Rd.ld rfl sc3 (hb3.cell rfl))<|WL.f (Fr.bo rfl rfl BO.gt)<|WL.m rfl ?_
 refine WL.pin 10 rfl (fun hp10=>?_) (fun hp10=>?_)
 ·refine WL.s<|WL.s<|WL.s<|WL.s<|WL.s<|WL.s<|WL.s<|WL.s<|WL.s<|WL.s ?_
  exact WL.s<|WL.s<|WL.f (Fr.pkT rfl rfl)<|WL.a rfl<|WL.go<|WC.ret<|WQ.ret rfl (.tmp rfl .nil) (by simp [resOf,dcT hp10])
 refine WL.q 2 rfl fa134_2<|WL.r (Rd.ld rfl sc3 (hb2.cell rfl))<|WL.q 2 rfl fa134_2<|WL.r (Rd.ld rfl sc3 (hb3.cell rfl))<|WL.f (Fr.bo rfl rfl BO.eq)<|WL.m rfl ?_
 refine WL.pin 16 rfl (fun hp16=>?_) (fun hp16=>?_)
 ·refine WL.q 0 rfl fa134_0<|WL.r (Rd.ld rfl sc3 (hb2.cell rfl))<|WL.q 0 rfl fa134_0<|WL.r (Rd.ld rfl sc3 (hb3.cell rfl))<|WL.f (Fr.bo rfl rfl BO.lt)<|WL.f (Fr.pkT rfl rfl)<|WL.f (Fr.pkF rfl rfl)<|WL.a rfl<|WL.go<|WC.ret ?_
  exact WQ.ret rfl (.tmp rfl .nil) (by simp [resOf,dcF hp10,dcT hp16])
 refine WL.s<|WL.s<|WL.s<|WL.s<|WL.s<|WL.f (Fr.pkF rfl rfl)<|WL.f (Fr.pkF rfl rfl)<|WL.a rfl<|WL.go<|WC.ret ?_
 exact WQ.ret rfl (.tmp rfl .nil) (by simp [resOf,dcF hp10,dcF hp16])
theorem sess_Right (id st pr:Int) (t:TW):Cal 114 [.int .i64 id,.int .i64 st,.int .i64 pr] t No (fun r _=>r = .bool (sessRight id st pr)):=by
 refine Cal.en Tryz.func114 rfl Tryz.ntmps114<|WC.rs<|WL.a rfl<|WL.go<|WC.rs<|WL.m rfl<|WL.f (Fr.bo rfl rfl BO.ge)<|WL.m rfl ?_
 refine WL.pin 9 rfl (fun hp9=>?_) (fun hp9=>?_)
 ·refine WL.m rfl<|WL.f (Fr.bo rfl rfl BO.le)<|WL.f (Fr.pkT rfl rfl)<|WL.m rfl ?_
  refine WL.pin 13 rfl (fun hp13=>?_) (fun hp13=>?_)
  ·refine WL.m rfl<|WL.f (Fr.bo rfl rfl BO.ge)<|WL.f (Fr.pkT rfl rfl)<|WL.m rfl ?_
   refine WL.pin 17 rfl (fun hp17=>?_) (fun hp17=>?_)
   ·refine WL.m rfl<|WL.f (Fr.bo rfl rfl BO.le)<|WL.f (Fr.pkT rfl rfl)<|WL.m rfl ?_
    refine WL.pin 21 rfl (fun hp21=>?_) (fun hp21=>?_)
    ·refine WL.m rfl<|WL.f (Fr.bo rfl rfl BO.ge)<|WL.f (Fr.pkT rfl rfl)<|WL.m rfl ?_
     refine WL.pin 25 rfl (fun hp25=>?_) (fun hp25=>?_)
     ·exact WL.m rfl<|WL.f (Fr.bo rfl rfl BO.le)<|WL.f (Fr.pkT rfl rfl)<|WL.a rfl<|WL.go<|WC.ret<|WQ.ret rfl (.tmp rfl .nil) (by simp [resOf,sessRight,dcT hp9,dcT hp13,dcT hp17,dcT hp21,dcT hp25])
     exact WL.s<|WL.s<|WL.f (Fr.pkF rfl rfl)<|WL.a rfl<|WL.go<|WC.ret<|WQ.ret rfl (.tmp rfl .nil) (by simp [resOf,sessRight,dcT hp9,dcT hp13,dcT hp17,dcT hp21,dcF hp25])
    refine WL.s<|WL.s<|WL.f (Fr.pkF rfl rfl)<|WL.m rfl<|WL.s<|WL.s<|WL.f (Fr.pkF rfl rfl)<|WL.a rfl<|WL.go<|WC.ret ?_
    exact WQ.ret rfl (.tmp rfl .nil) (by simp [resOf,sessRight,dcT hp9,dcT hp13,dcT hp17,dcF hp21])
   refine WL.s<|WL.s<|WL.f (Fr.pkF rfl rfl)<|WL.m rfl<|WL.s<|WL.s<|WL.f (Fr.pkF rfl rfl)<|WL.m rfl<|WL.s<|WL.s ?_
   exact WL.f (Fr.pkF rfl rfl)<|WL.a rfl<|WL.go<|WC.ret<|WQ.ret rfl (.tmp rfl .nil) (by simp [resOf,sessRight,dcT hp9,dcT hp13,dcF hp17])
  refine WL.s<|WL.s<|WL.f (Fr.pkF rfl rfl)<|WL.m rfl<|WL.s<|WL.s<|WL.f (Fr.pkF rfl rfl)<|WL.m rfl<|WL.s<|WL.s ?_
  exact WL.f (Fr.pkF rfl rfl)<|WL.m rfl<|WL.s<|WL.s<|WL.f (Fr.pkF rfl rfl)<|WL.a rfl<|WL.go<|WC.ret<|WQ.ret rfl (.tmp rfl .nil) (by simp [resOf,sessRight,dcT hp9,dcF hp13])
 refine WL.s<|WL.s<|WL.f (Fr.pkF rfl rfl)<|WL.m rfl<|WL.s<|WL.s<|WL.f (Fr.pkF rfl rfl)<|WL.m rfl<|WL.s<|WL.s ?_
 refine WL.f (Fr.pkF rfl rfl)<|WL.m rfl<|WL.s<|WL.s<|WL.f (Fr.pkF rfl rfl)<|WL.m rfl<|WL.s<|WL.s<|WL.f (Fr.pkF rfl rfl)<|WL.a rfl ?_
 exact WL.go<|WC.ret<|WQ.ret rfl (.tmp rfl .nil) (by simp [resOf,sessRight,dcF hp9])
theorem model_within (n lo hi:Int) (t:TW):Cal 71 [.int .i64 n,.int .i64 lo,.int .i64 hi] t No (fun r _=>r = .bool (decide (lo ≤ n ∧ n ≤ hi))):=by
 refine Cal.en Tryz.func71 rfl Tryz.ntmps71<|WC.rs<|WL.a rfl<|WL.go<|WC.rs<|WL.m rfl<|WL.m rfl<|WL.f (Fr.bo rfl rfl BO.ge)<|WL.m rfl ?_
 refine WL.pin 10 rfl (fun hp10=>?_) (fun hp10=>?_)
 ·exact WL.m rfl<|WL.m rfl<|WL.f (Fr.bo rfl rfl BO.le)<|WL.f (Fr.pkT rfl rfl)<|WL.a rfl<|WL.go<|WC.ret<|WQ.ret rfl (.tmp rfl .nil) (by simp [resOf,dcT hp10])
 exact WL.s<|WL.s<|WL.s<|WL.f (Fr.pkF rfl rfl)<|WL.a rfl<|WL.go<|WC.ret<|WQ.ret rfl (.tmp rfl .nil) (by simp [resOf,dcF hp10])
theorem hash_Right (s:ByteArray) (t:TW):Cal 113 [.string s] t No (fun r _=>r = .bool (nameOk s)):=by
 refine Cal.en Tryz.func113 rfl Tryz.ntmps113<|WC.rs<|WL.a rfl<|WL.go<|WC.rs<|WL.m rfl<|WL.f (Fr.bo rfl rfl BO.sne)<|WL.m rfl ?_
 refine WL.pin 5 rfl (fun hp5=>?_) (fun hp5=>?_)
 ·have hn:=size_ne (dcF (notE hp5))
  exact WL.m rfl<|WL.f (Fr.lns rfl Tryz.underlying9)<|WL.f (Fr.bo rfl rfl BO.le)<|WL.f (Fr.pkT rfl rfl)<|WL.a rfl<|WL.go<|WC.ret<|WQ.ret rfl (.tmp rfl .nil) (by simp [resOf,nameOk,hn]; omega)
 have hn:=dcT (notE hp5)
 exact WL.s<|WL.s<|WL.s<|WL.f (Fr.pkF rfl rfl)<|WL.a rfl<|WL.go<|WC.ret<|WQ.ret rfl (.tmp rfl .nil) (by subst hn; rfl)
theorem feed_client (who:Int) (t:TW):Cal 148 [.int .i64 who] t No (fun r _=>r = .bool (decide (0 ≤ who ∧ who < 8))):=by
 refine Cal.en Tryz.func148 rfl Tryz.ntmps148<|WC.rs<|WL.a rfl<|WL.go<|WC.rs<|WL.m rfl<|WL.f (Fr.bo rfl rfl BO.ge)<|WL.m rfl ?_
 refine WL.pin 5 rfl (fun hp5=>?_) (fun hp5=>?_)
 ·exact WL.m rfl<|WL.f (Fr.bo rfl rfl BO.lt)<|WL.f (Fr.pkT rfl rfl)<|WL.a rfl<|WL.go<|WC.ret<|WQ.ret rfl (.tmp rfl .nil) (by simp [resOf,dcT hp5])
 exact WL.s<|WL.s<|WL.f (Fr.pkF rfl rfl)<|WL.a rfl<|WL.go<|WC.ret<|WQ.ret rfl (.tmp rfl .nil) (by simp [resOf,dcF hp5])
theorem cmp_isNaN_int (x:Int) (t:TW):Cal 209 [.int .i64 x] t No (fun r _=>r = .bool false):=by
 refine Cal.en Tryz.func209 rfl Tryz.ntmps209<|WC.rs<|WL.a rfl<|WL.go<|WC.rs<|WL.m rfl<|WL.m rfl<|WL.f (Fr.bo rfl rfl BO.ne)<|WL.a rfl<|WL.go ?_
 exact WC.ret<|WQ.ret rfl (.tmp rfl .nil) (by simp [resOf])
theorem cmp_isNaN_str (x:ByteArray) (t:TW):Cal 214 [.string x] t No (fun r _=>r = .bool false):=by
 refine Cal.en Tryz.func214 rfl Tryz.ntmps214<|WC.rs<|WL.a rfl<|WL.go<|WC.rs<|WL.m rfl<|WL.m rfl<|WL.f (Fr.bo rfl rfl BO.sne)<|WL.a rfl<|WL.go ?_
 exact WC.ret<|WQ.ret rfl (.tmp rfl .nil) (by simp [resOf])
theorem slices_isNaN_str (x:ByteArray) (t:TW):Cal 206 [.string x] t No (fun r _=>r = .bool false):=by
 refine Cal.en Tryz.func206 rfl Tryz.ntmps206<|WC.rs<|WL.a rfl<|WL.go<|WC.rs<|WL.m rfl<|WL.m rfl<|WL.f (Fr.bo rfl rfl BO.sne)<|WL.a rfl<|WL.go ?_
 exact WC.ret<|WQ.ret rfl (.tmp rfl .nil) (by simp [resOf])
theorem cmp_Less_str (x y:ByteArray) (t:TW):Cal 205 [.string x,.string y] t No (fun r _=>r = .bool (sLt x y)):=by
 refine Cal.en Tryz.func205 rfl Tryz.ntmps205<|WC.rs<|WL.a rfl<|WL.go<|WC.rs<|WL.m rfl<|WL.e (Ef.call rfl en214 (cmp_isNaN_str _ _) (fun _ h=>h.elim)) ?_
 rintro _ t1 ⟨s1,rfl⟩
 refine WL.m rfl<|WL.s<|WL.s<|WL.s<|WL.f (Fr.pkF rfl rfl)<|WL.m rfl<|WL.m rfl<|WL.m rfl<|WL.f (Fr.bo rfl rfl BO.slt)<|WL.f (Fr.pkF rfl rfl) ?_
 exact WL.a rfl<|WL.go<|WC.ret<|WQ.ret rfl (.tmp rfl .nil) (by simp [resOf])
theorem cmp_Compare_int (x y:Int) (t:TW):Cal 196 [.int .i64 x,.int .i64 y] t No (fun r _=>r = .int .i64 (cmpI x y)):=by
 refine Cal.en Tryz.func196 rfl Tryz.ntmps196<|WC.rs<|WL.a rfl<|WL.go<|WC.rs<|WL.m rfl<|WL.e (Ef.call rfl en209 (cmp_isNaN_int _ _) (fun _ h=>h.elim)) ?_
 rintro _ t1 ⟨s1,rfl⟩
 refine WL.a rfl<|WL.go<|WC.rs<|WL.m rfl<|WL.e (Ef.call rfl en209 (cmp_isNaN_int _ _) (fun _ h=>h.elim)) ?_
 rintro _ t2 ⟨s2,rfl⟩
 refine WL.a rfl<|WL.go<|WC.seq<|WC.rs<|WL.m rfl<|WL.go<|WC.condF<|WC.skip<|WQ.n<|WC.seq ?_
 refine WC.rs<|WL.m rfl<|WL.go<|WC.condF<|WC.skip<|WQ.n<|WC.seq<|WC.rs<|WL.m rfl<|WL.m rfl ?_
 refine WL.f (Fr.bo rfl rfl BO.lt)<|WL.go ?_
 refine WC.condS rfl (fun hcond16=>?_) (fun hcond16=>?_)
 ·exact WC.rs<|WL.a rfl<|WL.go<|WC.ret<|WQ.tr<|WQ.ret rfl (.tmp rfl .nil) (by simp [resOf,cmpI,dcT hcond16])
 refine WC.skip<|WQ.n<|WC.seq<|WC.rs<|WL.m rfl<|WL.m rfl<|WL.f (Fr.bo rfl rfl BO.gt)<|WL.go ?_
 refine WC.condS rfl (fun hcond19=>?_) (fun hcond19=>?_)
 ·exact WC.rs<|WL.a rfl<|WL.go<|WC.ret<|WQ.tr<|WQ.ret rfl (.tmp rfl .nil) (by simp [resOf,cmpI,dcF hcond16,dcT hcond19])
 exact WC.skip<|WQ.n<|WC.rs<|WL.a rfl<|WL.go<|WC.ret<|WQ.ret rfl (.tmp rfl .nil) (by simp [resOf,cmpI,dcF hcond16,dcF hcond19])
open Go.RowKit
section
variable {P:Program}
theorem run_apZ (w:World) (t ti ty e:TypeId) (i:TypeInfo) (z:Value) (bytes:Nat) (ht:P.underlying t = some (.slice e)) {k:IntKind} (hti:P.underlying ti = some (.int k)) (hi:P.info? e = some i) (hz:i.zero = some z)
  (hby:i.bytes = bytes) (hsz:0 < i.size) (hb0:0 < bytes) (n:Nat) (xs:List Value) (kx:IntKind) (m:Nat) (hm:0 < m)
  (hbytes:(n + m) * bytes ≤ 140737488355328) (A:Option Addr) (cap:Nat) (hcap:cap < n + m) (hfo:(Builtin.firstCells i.size n (.slice A n cap)).run P w.drew = .ok xs.toArray w.drew) :
  (Builtin.append_ #[t,ti] ty #[.slice A n cap,.int kx m]).run P w =
   .ok (.slice (some ⟨w.heap.size,0,none⟩) (n + m) (grownCap w (n + m) cap e)) (w.drew.alloc (.cells (xs.toArray ++ Builtin.zeroCells z.cells m ++ Builtin.zeroCells z.cells (grownCap w (n + m) cap e - (n + m))) e)):=by
 subst hby
 have hle:n + m ≤ 140737488355328:=Nat.le_trans (Nat.le_mul_of_pos_right _ hb0) hbytes
 have hw:IntKind.i64.wrap (m:Int) = m:=by rw [IntKind.wrap_i64]; omega
 have hneg:¬ ((m:Int) < 0):=by omega
 have hmb:m * i.bytes ≤ 140737488355328:=Nat.le_trans (Nat.mul_le_mul_right _ (Nat.le_add_left m n)) hbytes
 have hbig:¬ (281474976710656 < (m:Int) * (i.bytes:Int)):=by
  rw [← Int.natCast_mul]
  omega
 have hsn:i.size ≠ 0:=by omega
 obtain ⟨news,hnews⟩:∃ news,news = (Builtin.zeroCells z.cells m).toList:=⟨_,rfl⟩
 have hna:Builtin.zeroCells z.cells m = news.toArray:=by rw [hnews]
 have hn:¬ (n + m ≤ cap):=by omega
 have h63' : ¬ (9223372036854775807 < ((n:Int) + (m:Int))):=by omega
 have hfit:=growslice_fits hcap hbytes
 have h48' : ¬ (281474976710656 < Builtin.nextslicecap (n + m) cap * i.bytes):=by omega
 have hmz:¬ (m * i.size = 0):=Nat.mul_ne_zero (by omega) hsn
 simp [Builtin.append_,run_underlying ht,run_underlying hti,sizeOf,typeInfo,zeroValue,hi,hz,asInt,asIntOf,hw,hneg,hbig,hn,h63', h48', Question.forced,hfo,newRow,grownCap,hmz,hna]
 congr 2
 apply Array.ext'
 simp [List.append_assoc]
end
section
variable {α:Type} {dk:Kn α} {c:Ctx} {E:Env} {dd:Option Nat} {ty:TypeId} {pos:String} {af:Array Edge} {gd:Option (Nat × Bool)} {x y:Operand} {v:Value} {t:TW} {g:Tag} {B e:Nat} {xs:List α}
theorem Ef.apZ {q ti k bytes m b cap len:Nat} {z:Value} {kx ki:IntKind} {cs:List Value} (h:ev E x = some (.slice (some ⟨b,0,none⟩) len cap)) (h' : ev E y = some (.int kx m)) (ht:SlT q e k) (hti:P.underlying ti = some (.int ki)) (he:El e dk.k bytes z) (hk0:0 < dk.k) (hb0:0 < bytes)
  (hln:len = xs.length) (hb:Bk t b cs e g) (hcs:cs.length = cap * dk.k) (hlc:len ≤ cap) (hC:Cs dk t cs xs) (hm0:0 < m) (hgrow:cap < xs.length + m) (hlen:xs.length + m ≤ 1000000) (hby:bytes ≤ 1000) (gt:Tag) :
  Ef c ⟨dd,.call { callee:=.builtin .append,args:=#[x,y],argTypes:=#[q,ti] },ty,pos,af,gd⟩ E t (fun v' t' => Step No t t' ∧ ∃ b' cap' cs', v' = .slice (some ⟨b', 0,none⟩) (xs.length + m) cap' ∧ t.w.heap.size ≤ b' ∧ c.t0.w.heap.size ≤ b' ∧ Bk t' b' cs' e gt ∧ xs.length + m ≤ cap' ∧ cs'.length = cap' * dk.k ∧ cap' ≤ maxLen ∧ Cs dk t' cs' xs):=.mk fun hs a ha K Q hk=>by
 have hi:=(info_get he.h).1
 have hz:=(info_get he.h).2.1
 have hsz:=(info_get he.h).2.2.1
 have hbb:=(info_get he.h).2.2.2
 have hzs:=he.c
 generalize (P.info? e).getD default = i0 at hi hz hsz hbb
 subst hln
 have hmul:(xs.length + m) * bytes ≤ 1000000 * 1000:=Nat.mul_le_mul hlen hby
 have h5:xs.length * dk.k ≤ cap * dk.k:=Nat.mul_le_mul_right _ hlc
 obtain ⟨inner,hin⟩:∃ inner,inner = cs.take (xs.length * dk.k):=⟨_,rfl⟩
 have hil:inner.length = xs.length * dk.k:=by rw [hin,List.length_take,hcs]; omega
 have hfo:(Builtin.firstCells i0.size xs.length (.slice (some ⟨b,0,none⟩) xs.length cap)).run P t.w.drew = .ok inner.toArray t.w.drew:=run_firstCells_some (P:=P) t.w.drew i0.size xs.length _ _ cap inner (by rw [hil,hsz]) (fun j u hj=>by
  rw [add_at]
  refine (Bk.drew hb).cell ?_
  rw [hin,List.getElem?_take] at hj
  split at hj
  ·simpa using hj
  ·cases hj)
 have hrun:=run_apZ (P:=P) t.w q ti ty e i0 z bytes ht.1 hti hi hz hbb (by omega) hb0 xs.length inner kx m hm0 (by omega) (some ⟨b,0,none⟩) cap hgrow hfo
 have hge:=grownCap_ge t.w (xs.length + m) cap e
 have hcm:=grownCap_le_maxLen t.w (xs.length + m) cap e (by simp only [maxLen]; omega)
 generalize hcap' : grownCap t.w (xs.length + m) cap e = cap' at hrun hge hcm
 obtain ⟨cs', hcs'⟩:∃ cs' : List Value,cs' = inner ++ ((Builtin.zeroCells z.cells m).toList ++ (Builtin.zeroCells z.cells (cap' - (xs.length + m))).toList):=⟨_,rfl⟩
 have ea:inner.toArray ++ Builtin.zeroCells z.cells m ++ Builtin.zeroCells z.cells (cap' - (xs.length + m)) = cs'.toArray:=by
  rw [hcs']
  apply Array.ext'
  simp
 rw [ea] at hrun
 have hst:=(t.drew_step).trans (t.drew.alloc_step cs' e gt)
 unfold Oper.wp
 have:(execOp a.eval ⟨dd,.call { callee:=.builtin .append,args:=#[x,y],argTypes:=#[q,ti] },ty,pos,af,gd⟩).run P t.w = .ok (.value (.slice (some ⟨t.w.heap.size,0,none⟩) (xs.length + m) cap')) (t.drew.alloc cs' e gt).w:=by
  simp only [execOp,resolve,invoke,builtin,Sem.run_bind,Sem.run_pure,Result.andThen_ok,List.map_toArray,List.map_cons,List.map_nil,ha.ev h,ha.ev h', hrun]
  rfl
 rw [this]
 refine hk _ _ (hs.trans hst.no) ⟨hst,_,cap', cs', rfl,Nat.le_refl _,hs.size,t.drew.alloc_bk cs' e gt,hge,?_,hcm,fun i u hu=>?_⟩
 ·rw [hcs']
  simp only [List.length_append,Array.length_toList,size_zeroCells,hzs,hil,← Nat.add_mul]
  rw [show xs.length + (m + (cap' - (xs.length + m))) = cap' by omega]
 ·have h2:=dk.stp hst nofun (hC i u hu)
  have hlt:=(List.getElem?_eq_some_iff.1 hu).1
  have h3:(i + 1) * dk.k ≤ xs.length * dk.k:=Nat.mul_le_mul_right _ hlt
  have e1:seg cs' dk.k i = seg cs dk.k i:=by
   rw [hcs', seg_append hil,if_pos hlt,hin]
   unfold seg
   rw [Nat.add_mul] at h3
   rw [List.drop_take,List.take_take,Nat.min_eq_left (by omega)]
  rw [e1]
  exact h2
theorem Ef.ovl {f q tr e' k b b' o' la ca lb cb:Nat} {cs cs' : List Value} {ea eb:TypeId} {ga gb:Tag} {ts:Array TypeId} {fn:Func} {xs:List Operand} (hx:evs E xs = some [.slice (some ⟨b,0,none⟩) la ca,.slice (some ⟨b', o', none⟩) lb cb])
  (hf : P.funcs[f]? = some fn) (hname : (fn.name == "runtime.NumGoroutine") = false) (hbo : fn.body.isNone = true) (hn : Extern.findNext fn = none) (he : Extern.find fn = some (Extern.SlicesOverlaps.overlaps #[q, q] #[tr])) (ht : SlT q e' k)
  (hb:Bk t b cs ea ga) (hb' : Bk t b' cs' eb gb) (hne:b ≠ b') (h0:cs' ≠ []) :
  Ef c ⟨dd,.call { callee:=.value (.func f),args:=xs.toArray,argTypes:=ts },ty,pos,af,gd⟩ E t (fun v' t' => v' = .bool false ∧ t = t'):=.mk fun hs a ha K Q hk=>by
 unfold Oper.wp
 have hov:=Lib.run_overlaps_apart (P:=P) t.w q tr e' ht.1 k (fun w=>ht.2.run w) ⟨b,0,none⟩ ⟨b', o', none⟩ la ca lb cb hne ea eb cs.length cs'.length (by simp [World.shape?,hb.1]) (by simp [World.shape?,hb'.1]) (by simpa using h0) (hb.frozen 0) (by simp [World.frozen?,hb.1])
 have:(execOp a.eval ⟨dd,.call { callee:=.value (.func f),args:=xs.toArray,argTypes:=ts },ty,pos,af,gd⟩).run P t.w = .ok (.value (.bool false)) t.w:=by
  simp only [execOp,resolve,Act.eval,Deferred.ofValue,invoke,List.map_toArray,ha.evs hx,Sem.run_bind,Sem.run_pure,Result.andThen_ok,Array.empty_append,Array.append_empty,run_callFunc_extern hf hname hbo hn he,hov]
 rw [this]
 exact hk _ _ hs ⟨rfl,rfl⟩
end
theorem Bk.upd {t t' : TW} {b b2:Nat} {cs:List Value} {ty:TypeId} {g:Tag} (h:Bk t b cs ty g) (u:Upd b2 t t') (hne:b ≠ b2):Bk t' b cs ty g:=⟨(u.keep b hne).2.trans h.1,(u.keep b hne).1.trans h.2⟩
theorem l_ins1 {α:Type} {xs:List α} {i:Nat} (y:α) (hi:i ≤ xs.length):(xs.take i).take i ++ [y] ++ (xs.take i).drop (i + 1) = xs.take i ++ [y]:=by
 rw [List.take_take,Nat.min_self,List.drop_of_length_le (by rw [List.length_take]; omega),List.append_nil]
theorem l_ins2 {α:Type} {xs:List α} {i m:Nat} (y:α) (hi:i ≤ xs.length):(xs.take i ++ [y]).take (i + 1) ++ xs.drop i ++ (xs.take i ++ [y]).drop (i + 1 + m) = xs.take i ++ y :: xs.drop i:=by
 have hl:(xs.take i ++ [y]).length = i + 1:=by rw [List.length_append,List.length_take,Nat.min_eq_left hi]; rfl
 rw [List.take_of_length_le (by omega),List.drop_of_length_le (l:=xs.take i ++ [y]) (by omega),List.append_nil,List.append_assoc]
 rfl
theorem l_ins3 {α:Type} {xs:List α} {i m:Nat} (y:α) (hi:i < xs.length) (hm:xs.length ≤ i + m):(xs.take (i + 1) ++ xs.drop i ++ xs.drop (i + 1 + m)).take i ++ [y] ++ (xs.take (i + 1) ++ xs.drop i ++ xs.drop (i + 1 + m)).drop (i + 1) = xs.take i ++ y :: xs.drop i:=by
 have hl:(xs.take (i + 1)).length = i + 1:=by rw [List.length_take]; omega
 rw [List.drop_of_length_le (l:=xs) (i:=i + 1 + m) (by omega),List.append_nil,List.take_append_of_le_length (by omega),List.drop_append,List.drop_of_length_le (l:=xs.take (i + 1)) (by omega),List.nil_append,List.take_take,Nat.min_eq_left (by omega),hl,Nat.sub_self,List.drop_zero,List.append_assoc]
 rfl
theorem slices_Clone_str (g:Tag) (v:Value) (xs:List ByteArray) (t:TW) (h:Sl t kStr v xs) (hl:xs.length ≤ 900000) (hg:g ≠ .fz):Cal 170 [v] t No (fun r t' => Row t' g t.w.heap.size 9 kStr r xs):=by
 obtain ⟨A,cap,rfl,hcap⟩:=h.form
 cases A with
 | none=>
  have e0:xs = []:=by
   by_cases hne:xs = []
   ·exact hne
   obtain ⟨A,cap,e1,_,h2⟩:=h
   obtain ⟨b,o,e2,_⟩:=h2 hne
   rw [e2] at e1
   cases e1
  subst e0
  refine Cal.en Tryz.func170 rfl Tryz.ntmps170<|WC.rs<|WL.a rfl<|WL.go<|WC.seq<|WC.rs<|WL.m rfl<|WL.f (Fr.nilS0 rfl Tryz.underlying54)<|WL.go<|WC.condT ?_
  exact WC.rs<|WL.a rfl<|WL.go<|WC.ret<|WQ.tr<|WQ.ret rfl (.tmp rfl .nil) (Row.nil _ _ _ _ _)
 | some A=>
 refine Cal.en Tryz.func170 rfl Tryz.ntmps170<|WC.rs<|WL.a rfl<|WL.go<|WC.seq<|WC.rs<|WL.m rfl<|WL.f (Fr.nilS1 rfl Tryz.underlying54)<|WL.go<|WC.condF ?_
 refine WC.skip<|WQ.n<|WC.rs<|WL.e (Ef.bs (g) (vs:=[]) (cs:=[]) (e:=9) rfl (fun w=>by kernel_rfl)) ?_
 rintro _ t1 ⟨b5,rfl,s1,hb5,nb5,_⟩
 have h:=h.n s1
 refine WL.m rfl<|WL.e (Ef.aps rfl rfl sl54 el9 (by decide) (Row.empty (B:=t.w.heap.size) hb5 nb5 rfl (by decide)) h (Nat.le_of_lt (Nat.lt_of_le_of_lt nb5 hb5.lt)) (by simp; omega) (by decide) hg (.inl (Nat.le_refl _))) ?_
 rintro v7 t2 ⟨s2,hr⟩
 exact WL.a rfl<|WL.go<|WC.ret<|WQ.ret rfl (.tmp rfl .nil) (by simpa [resOf] using hr)
theorem slices_Clone_ent (g:Tag) (v:Value) (xs:List Entry) (t:TW) (h:Sl t kEntry v xs) (hl:xs.length ≤ 900000) (hg:g ≠ .fz):Cal 172 [v] t No (fun r t' => Row t' g t.w.heap.size 228 kEntry r xs):=by
 obtain ⟨A,cap,rfl,hcap⟩:=h.form
 cases A with
 | none=>
  have e0:xs = []:=by
   by_cases hne:xs = []
   ·exact hne
   obtain ⟨A,cap,e1,_,h2⟩:=h
   obtain ⟨b,o,e2,_⟩:=h2 hne
   rw [e2] at e1
   cases e1
  subst e0
  refine Cal.en Tryz.func172 rfl Tryz.ntmps172<|WC.rs<|WL.a rfl<|WL.go<|WC.seq<|WC.rs<|WL.m rfl<|WL.f (Fr.nilS0 rfl Tryz.underlying153)<|WL.go<|WC.condT ?_
  exact WC.rs<|WL.a rfl<|WL.go<|WC.ret<|WQ.tr<|WQ.ret rfl (.tmp rfl .nil) (Row.nil _ _ _ _ _)
 | some A=>
 refine Cal.en Tryz.func172 rfl Tryz.ntmps172<|WC.rs<|WL.a rfl<|WL.go<|WC.seq<|WC.rs<|WL.m rfl<|WL.f (Fr.nilS1 rfl Tryz.underlying153)<|WL.go<|WC.condF ?_
 refine WC.skip<|WQ.n<|WC.rs<|WL.e (Ef.bs (g) (vs:=[]) (cs:=[]) (e:=228) rfl (fun w=>by kernel_rfl)) ?_
 rintro _ t1 ⟨b5,rfl,s1,hb5,nb5,_⟩
 have h:=h.n s1
 refine WL.m rfl<|WL.e (Ef.aps rfl rfl sl153 el228 (by decide) (Row.empty (B:=t.w.heap.size) hb5 nb5 rfl (by decide)) h (Nat.le_of_lt (Nat.lt_of_le_of_lt nb5 hb5.lt)) (by simp; omega) (by decide) hg (.inl (Nat.le_refl _))) ?_
 rintro v7 t2 ⟨s2,hr⟩
 exact WL.a rfl<|WL.go<|WC.ret<|WQ.ret rfl (.tmp rfl .nil) (by simpa [resOf] using hr)
theorem slices_Clone_sess (g:Tag) (v:Value) (xs:List Sess) (t:TW) (h:Sl t kSess v xs) (hl:xs.length ≤ 900000) (hg:g ≠ .fz):Cal 144 [v] t No (fun r t' => Row t' g t.w.heap.size 134 kSess r xs):=by
 obtain ⟨A,cap,rfl,hcap⟩:=h.form
 cases A with
 | none=>
  have e0:xs = []:=by
   by_cases hne:xs = []
   ·exact hne
   obtain ⟨A,cap,e1,_,h2⟩:=h
   obtain ⟨b,o,e2,_⟩:=h2 hne
   rw [e2] at e1
   cases e1
  subst e0
  refine Cal.en Tryz.func144 rfl Tryz.ntmps144<|WC.rs<|WL.a rfl<|WL.go<|WC.seq<|WC.rs<|WL.m rfl<|WL.f (Fr.nilS0 rfl Tryz.underlying123)<|WL.go<|WC.condT ?_
  exact WC.rs<|WL.a rfl<|WL.go<|WC.ret<|WQ.tr<|WQ.ret rfl (.tmp rfl .nil) (Row.nil _ _ _ _ _)
 | some A=>
 refine Cal.en Tryz.func144 rfl Tryz.ntmps144<|WC.rs<|WL.a rfl<|WL.go<|WC.seq<|WC.rs<|WL.m rfl<|WL.f (Fr.nilS1 rfl Tryz.underlying123)<|WL.go<|WC.condF ?_
 refine WC.skip<|WQ.n<|WC.rs<|WL.e (Ef.bs (g) (vs:=[]) (cs:=[]) (e:=134) rfl (fun w=>by kernel_rfl)) ?_
 rintro _ t1 ⟨b5,rfl,s1,hb5,nb5,_⟩
 have h:=h.n s1
 refine WL.m rfl<|WL.e (Ef.aps rfl rfl sl123 el134 (by decide) (Row.empty (B:=t.w.heap.size) hb5 nb5 rfl (by decide)) h (Nat.le_of_lt (Nat.lt_of_le_of_lt nb5 hb5.lt)) (by simp; omega) (by decide) hg (.inl (Nat.le_refl _))) ?_
 rintro v7 t2 ⟨s2,hr⟩
 exact WL.a rfl<|WL.go<|WC.ret<|WQ.ret rfl (.tmp rfl .nil) (by simpa [resOf] using hr)
theorem slices_Clone_u32 (g:Tag) (v:Value) (xs:List Int) (t:TW) (h:Sl t (kInt .u32) v xs) (hl:xs.length ≤ 900000) (hg:g ≠ .fz):Cal 200 [v] t No (fun r t' => Row t' g t.w.heap.size 253 (kInt .u32) r xs):=by
 obtain ⟨A,cap,rfl,hcap⟩:=h.form
 cases A with
 | none=>
  have e0:xs = []:=by
   by_cases hne:xs = []
   ·exact hne
   obtain ⟨A,cap,e1,_,h2⟩:=h
   obtain ⟨b,o,e2,_⟩:=h2 hne
   rw [e2] at e1
   cases e1
  subst e0
  refine Cal.en Tryz.func200 rfl Tryz.ntmps200<|WC.rs<|WL.a rfl<|WL.go<|WC.seq<|WC.rs<|WL.m rfl<|WL.f (Fr.nilS0 rfl Tryz.underlying176)<|WL.go<|WC.condT ?_
  exact WC.rs<|WL.a rfl<|WL.go<|WC.ret<|WQ.tr<|WQ.ret rfl (.tmp rfl .nil) (Row.nil _ _ _ _ _)
 | some A=>
 refine Cal.en Tryz.func200 rfl Tryz.ntmps200<|WC.rs<|WL.a rfl<|WL.go<|WC.seq<|WC.rs<|WL.m rfl<|WL.f (Fr.nilS1 rfl Tryz.underlying176)<|WL.go<|WC.condF ?_
 refine WC.skip<|WQ.n<|WC.rs<|WL.e (Ef.bs (g) (vs:=[]) (cs:=[]) (e:=253) rfl (fun w=>by kernel_rfl)) ?_
 rintro _ t1 ⟨b5,rfl,s1,hb5,nb5,_⟩
 have h:=h.n s1
 refine WL.m rfl<|WL.e (Ef.aps rfl rfl sl176 el253 (by decide) (Row.empty (B:=t.w.heap.size) hb5 nb5 rfl (by decide)) h (Nat.le_of_lt (Nat.lt_of_le_of_lt nb5 hb5.lt)) (by simp; omega) (by decide) hg (.inl (Nat.le_refl _))) ?_
 rintro v7 t2 ⟨s2,hr⟩
 exact WL.a rfl<|WL.go<|WC.ret<|WQ.ret rfl (.tmp rfl .nil) (by simpa [resOf] using hr)
theorem slices_Delete_str {g:Tag} {B i:Nat} {v:Value} {xs:List ByteArray} (t:TW) (hr:Row t g B 9 kStr v xs) (hg:g ≠ .fz) (hB:B ≤ t.w.heap.size) (hi:i < xs.length) (hl:xs.length ≤ 900000):Cal 169 [v,.int .i64 (i:Int),.int .i64 ((i + 1:Nat):Int)] t (fun z=>z = g) (fun r t' => Row t' g B 9 kStr r (xs.eraseIdx i)):=by
 obtain ⟨b,cap,rfl⟩:∃ b cap,v = .slice (some ⟨b,0,none⟩) xs.length cap:=by
  rcases hr.cases with ⟨h1,h2⟩ | h1
  ·subst h2
   simp at hi
  exact h1
 obtain ⟨cs,_,hBb,hb,hcap,hcs,hmx,hC⟩:=hr.open_
 have hk:(kStr).k = 1:=rfl
 rw [hk] at hcs
 have hE:=hC.part (by rw [hcs,hk]; exact Nat.mul_le_mul_right _ hcap) (i + 1) hi
 have hA:At t.w b ((i + 1) * (kStr).k) ((cs.drop ((i + 1) * (kStr).k)).take ((xs.length - (i + 1)) * (kStr).k)):=at_part hb
 have hone:=hE.one
 generalize hnews:(cs.drop ((i + 1) * (kStr).k)).take ((xs.length - (i + 1)) * (kStr).k) = news at hE hA hone
 have hnl:news.length = (xs.length - (i + 1)) * 1:=by rw [hE.1,List.length_drop,hk]
 have hCp:=hC.put (j:=i) hE (by omega) (by rw [hcs,hk]; exact Nat.mul_le_mul_right _ (by omega))
 rw [hk] at hCp hA
 have hpl:(put cs (i * 1) news).length = cs.length:=put_length (by rw [hnl,hcs]; omega)
 have el_:xs.take i ++ xs.drop (i + 1) ++ xs.drop (i + (xs.drop (i + 1)).length) = xs.eraseIdx i ++ xs.drop (i + (xs.drop (i + 1)).length):=by rw [List.eraseIdx_eq_take_drop_succ]
 rw [el_] at hCp
 have hel:(xs.eraseIdx i).length = xs.length - 1:=List.length_eraseIdx_of_lt hi
 have hC2:=hCp.take (xs.length - 1)
 rw [List.take_append_of_le_length (by omega),List.take_of_length_le (by omega)] at hC2
 refine Cal.en Tryz.func169 rfl Tryz.ntmps169<|WC.rs<|WL.a rfl<|WL.go<|WC.rs<|WL.m rfl<|WL.m rfl<|WL.m rfl<|WL.m rfl<|WL.f (Fr.ln rfl Tryz.underlying54) ?_
 refine WL.f (Fr.sl3 rfl rfl rfl rfl sl54 (by omega) (by omega) (by omega) (by omega) (by omega))<|WL.go<|WC.seq<|WC.rs<|WL.m rfl<|WL.m rfl<|WL.f (Fr.bo rfl rfl BO.eq)<|WL.go ?_
 refine WC.condS rfl (fun hcond16=>?_) (fun hcond16=>?_)
 ·exact WC.rs<|WL.m rfl<|WL.a rfl<|WL.go<|WC.ret<|WQ.tr<|WQ.ret rfl (.tmp rfl .nil) (absurd (dcT hcond16) (by omega))
 refine WC.skip<|WQ.n<|WC.rs<|WL.m rfl<|WL.f (Fr.ln rfl Tryz.underlying54)<|WL.a rfl<|WL.go<|WC.drs (fun _=>True) .body (trivial)<|DL.m 0 rfl rfl<|DL.m 1 rfl rfl ?_
 refine DL.fx 2 rfl (Fr.slH rfl rfl sl54 (by omega) (by omega))<|DL.m 3 rfl rfl<|DL.m 4 rfl rfl<|DL.fx 5 rfl (Fr.slT rfl rfl sl54 (by omega) (by omega)) ?_
 obtain ⟨o2,eo2,ho2⟩:∃ o2,(if cap = ((i + 1:Nat):Int).toNat then some (⟨b,0,none⟩:Addr) else (some (⟨b,0,none⟩:Addr)).map (·.add (((i + 1:Nat):Int).toNat * 1))) = some ⟨b,o2,none⟩ ∧ At t.w b o2 news:=by
  rw [Int.toNat_natCast]
  by_cases hce:cap = i + 1
  ·refine ⟨0,if_pos hce,fun j v hj=>?_⟩
   have:news = []:=List.eq_nil_of_length_eq_zero (by rw [hnl,show xs.length - (i + 1) = 0 by omega,Nat.zero_mul])
   rw [this] at hj
   cases hj
  exact ⟨(i + 1) * 1,by rw [if_neg hce,Option.map_some,add_at,Nat.zero_add],hA⟩
 refine DL.re 25 rfl (congrArg (fun A=>Value.slice A _ _) eo2)<|DL.ex 6 rfl (Ef.apI (m:=xs.length - (i + 1)) (news:=news) (len:=i) rfl rfl sl54 hb hnl (fun j v hj=>ho2 j v hj) hone (by omega) hcs (.inr rfl)) (fun _ _ _=>trivial) ?_
 rintro _ t1 ⟨rfl,_,s1,hb2⟩
 refine DL.fx 7 rfl (Fr.as rfl)<|DL.D<|WQ.n<|WC.rs<|WL.m rfl<|WL.m rfl<|WL.f (Fr.ln rfl Tryz.underlying54)<|WL.m rfl<|WL.f (Fr.slM rfl rfl rfl sl54 (by omega) (by omega) (by omega) (by omega))<|WL.e0 (Ef.clr (k:=1) rfl Tryz.underlying54 zr9 (by omega) hb2 rfl (by decide) (by rw [hpl,hcs]; omega) (.inr rfl)) ?_
 rintro _ t2 ⟨news2,hn2,_,s2,hb3⟩
 refine WL.go<|WC.rs<|WL.m rfl<|WL.a rfl<|WL.go<|WC.ret ?_
 have hst:=s1.trans s2
 have e7:i + (xs.length - (i + 1)) = xs.length - 1:=by omega
 have e8:0 + ((i + (xs.length - (i + 1)):Nat):Int).toNat * 1 = (xs.length - 1) * (kStr).k:=by rw [Int.toNat_natCast,e7,Nat.zero_add,hk]
 rw [e8] at hb3
 have hC3:=(hC2.step ((TW.drew_step t).no.trans hst) (fun e=>hg e.symm)).tail (news:=news2) (j:=xs.length - 1) (by omega) (by rw [hpl,hcs,hk]; exact Nat.mul_le_mul_right _ (by omega))
 have hn3:news2.length = 1 * 1:=by rw [hn2,e7,Int.toNat_natCast,Int.toNat_natCast]; congr 1; omega
 have hR:=Row.of_cs (xs:=xs.eraseIdx i) hb3 hBb (by omega) (by rw [put_length (by rw [hpl,hn3,hcs,hk]; omega),hpl,hcs,hk]) hmx hC3
 exact WQ.ret rfl (.tmp rfl .nil) (by rw [hel,← e7] at hR; exact hR)
theorem slices_Delete_ent {g:Tag} {B i:Nat} {v:Value} {xs:List Entry} (t:TW) (hr:Row t g B 228 kEntry v xs) (hg:g ≠ .fz) (hB:B ≤ t.w.heap.size) (hi:i < xs.length) (hl:xs.length ≤ 900000):Cal 171 [v,.int .i64 (i:Int),.int .i64 ((i + 1:Nat):Int)] t (fun z=>z = g) (fun r t' => Row t' g B 228 kEntry r (xs.eraseIdx i)):=by
 obtain ⟨b,cap,rfl⟩:∃ b cap,v = .slice (some ⟨b,0,none⟩) xs.length cap:=by
  rcases hr.cases with ⟨h1,h2⟩ | h1
  ·subst h2
   simp at hi
  exact h1
 obtain ⟨cs,_,hBb,hb,hcap,hcs,hmx,hC⟩:=hr.open_
 have hk:(kEntry).k = 4:=rfl
 rw [hk] at hcs
 have hE:=hC.part (by rw [hcs,hk]; exact Nat.mul_le_mul_right _ hcap) (i + 1) hi
 have hA:At t.w b ((i + 1) * (kEntry).k) ((cs.drop ((i + 1) * (kEntry).k)).take ((xs.length - (i + 1)) * (kEntry).k)):=at_part hb
 have hone:=hE.one
 generalize hnews:(cs.drop ((i + 1) * (kEntry).k)).take ((xs.length - (i + 1)) * (kEntry).k) = news at hE hA hone
 have hnl:news.length = (xs.length - (i + 1)) * 4:=by rw [hE.1,List.length_drop,hk]
 have hCp:=hC.put (j:=i) hE (by omega) (by rw [hcs,hk]; exact Nat.mul_le_mul_right _ (by omega))
 rw [hk] at hCp hA
 have hpl:(put cs (i * 4) news).length = cs.length:=put_length (by rw [hnl,hcs]; omega)
 have el_:xs.take i ++ xs.drop (i + 1) ++ xs.drop (i + (xs.drop (i + 1)).length) = xs.eraseIdx i ++ xs.drop (i + (xs.drop (i + 1)).length):=by rw [List.eraseIdx_eq_take_drop_succ]
 rw [el_] at hCp
 have hel:(xs.eraseIdx i).length = xs.length - 1:=List.length_eraseIdx_of_lt hi
 have hC2:=hCp.take (xs.length - 1)
 rw [List.take_append_of_le_length (by omega),List.take_of_length_le (by omega)] at hC2
 refine Cal.en Tryz.func171 rfl Tryz.ntmps171<|WC.rs<|WL.a rfl<|WL.go<|WC.rs<|WL.m rfl<|WL.m rfl<|WL.m rfl<|WL.m rfl<|WL.f (Fr.ln rfl Tryz.underlying153) ?_
 refine WL.f (Fr.sl3 rfl rfl rfl rfl sl153 (by omega) (by omega) (by omega) (by omega) (by omega))<|WL.go<|WC.seq<|WC.rs<|WL.m rfl<|WL.m rfl<|WL.f (Fr.bo rfl rfl BO.eq)<|WL.go ?_
 refine WC.condS rfl (fun hcond16=>?_) (fun hcond16=>?_)
 ·exact WC.rs<|WL.m rfl<|WL.a rfl<|WL.go<|WC.ret<|WQ.tr<|WQ.ret rfl (.tmp rfl .nil) (absurd (dcT hcond16) (by omega))
 refine WC.skip<|WQ.n<|WC.rs<|WL.m rfl<|WL.f (Fr.ln rfl Tryz.underlying153)<|WL.a rfl<|WL.go<|WC.drs (fun _=>True) .body (trivial)<|DL.m 0 rfl rfl<|DL.m 1 rfl rfl ?_
 refine DL.fx 2 rfl (Fr.slH rfl rfl sl153 (by omega) (by omega))<|DL.m 3 rfl rfl<|DL.m 4 rfl rfl<|DL.fx 5 rfl (Fr.slT rfl rfl sl153 (by omega) (by omega)) ?_
 obtain ⟨o2,eo2,ho2⟩:∃ o2,(if cap = ((i + 1:Nat):Int).toNat then some (⟨b,0,none⟩:Addr) else (some (⟨b,0,none⟩:Addr)).map (·.add (((i + 1:Nat):Int).toNat * 4))) = some ⟨b,o2,none⟩ ∧ At t.w b o2 news:=by
  rw [Int.toNat_natCast]
  by_cases hce:cap = i + 1
  ·refine ⟨0,if_pos hce,fun j v hj=>?_⟩
   have:news = []:=List.eq_nil_of_length_eq_zero (by rw [hnl,show xs.length - (i + 1) = 0 by omega,Nat.zero_mul])
   rw [this] at hj
   cases hj
  exact ⟨(i + 1) * 4,by rw [if_neg hce,Option.map_some,add_at,Nat.zero_add],hA⟩
 refine DL.re 25 rfl (congrArg (fun A=>Value.slice A _ _) eo2)<|DL.ex 6 rfl (Ef.apI (m:=xs.length - (i + 1)) (news:=news) (len:=i) rfl rfl sl153 hb hnl (fun j v hj=>ho2 j v hj) hone (by omega) hcs (.inr rfl)) (fun _ _ _=>trivial) ?_
 rintro _ t1 ⟨rfl,_,s1,hb2⟩
 refine DL.fx 7 rfl (Fr.as rfl)<|DL.D<|WQ.n<|WC.rs<|WL.m rfl<|WL.m rfl<|WL.f (Fr.ln rfl Tryz.underlying153)<|WL.m rfl<|WL.f (Fr.slM rfl rfl rfl sl153 (by omega) (by omega) (by omega) (by omega))<|WL.e0 (Ef.clr (k:=4) rfl Tryz.underlying153 zr228 (by omega) hb2 rfl (by decide) (by rw [hpl,hcs]; omega) (.inr rfl)) ?_
 rintro _ t2 ⟨news2,hn2,_,s2,hb3⟩
 refine WL.go<|WC.rs<|WL.m rfl<|WL.a rfl<|WL.go<|WC.ret ?_
 have hst:=s1.trans s2
 have e7:i + (xs.length - (i + 1)) = xs.length - 1:=by omega
 have e8:0 + ((i + (xs.length - (i + 1)):Nat):Int).toNat * 4 = (xs.length - 1) * (kEntry).k:=by rw [Int.toNat_natCast,e7,Nat.zero_add,hk]
 rw [e8] at hb3
 have hC3:=(hC2.step ((TW.drew_step t).no.trans hst) (fun e=>hg e.symm)).tail (news:=news2) (j:=xs.length - 1) (by omega) (by rw [hpl,hcs,hk]; exact Nat.mul_le_mul_right _ (by omega))
 have hn3:news2.length = 1 * 4:=by rw [hn2,e7,Int.toNat_natCast,Int.toNat_natCast]; congr 1; omega
 have hR:=Row.of_cs (xs:=xs.eraseIdx i) hb3 hBb (by omega) (by rw [put_length (by rw [hpl,hn3,hcs,hk]; omega),hpl,hcs,hk]) hmx hC3
 exact WQ.ret rfl (.tmp rfl .nil) (by rw [hel,← e7] at hR; exact hR)
theorem slices_Delete_sess {g:Tag} {B i:Nat} {v:Value} {xs:List Sess} (t:TW) (hr:Row t g B 134 kSess v xs) (hg:g ≠ .fz) (hB:B ≤ t.w.heap.size) (hi:i < xs.length) (hl:xs.length ≤ 900000):Cal 179 [v,.int .i64 (i:Int),.int .i64 ((i + 1:Nat):Int)] t (fun z=>z = g) (fun r t' => Row t' g B 134 kSess r (xs.eraseIdx i)):=by
 obtain ⟨b,cap,rfl⟩:∃ b cap,v = .slice (some ⟨b,0,none⟩) xs.length cap:=by
  rcases hr.cases with ⟨h1,h2⟩ | h1
  ·subst h2
   simp at hi
  exact h1
 obtain ⟨cs,_,hBb,hb,hcap,hcs,hmx,hC⟩:=hr.open_
 have hk:(kSess).k = 4:=rfl
 rw [hk] at hcs
 have hE:=hC.part (by rw [hcs,hk]; exact Nat.mul_le_mul_right _ hcap) (i + 1) hi
 have hA:At t.w b ((i + 1) * (kSess).k) ((cs.drop ((i + 1) * (kSess).k)).take ((xs.length - (i + 1)) * (kSess).k)):=at_part hb
 have hone:=hE.one
 generalize hnews:(cs.drop ((i + 1) * (kSess).k)).take ((xs.length - (i + 1)) * (kSess).k) = news at hE hA hone
 have hnl:news.length = (xs.length - (i + 1)) * 4:=by rw [hE.1,List.length_drop,hk]
 have hCp:=hC.put (j:=i) hE (by omega) (by rw [hcs,hk]; exact Nat.mul_le_mul_right _ (by omega))
 rw [hk] at hCp hA
 have hpl:(put cs (i * 4) news).length = cs.length:=put_length (by rw [hnl,hcs]; omega)
 have el_:xs.take i ++ xs.drop (i + 1) ++ xs.drop (i + (xs.drop (i + 1)).length) = xs.eraseIdx i ++ xs.drop (i + (xs.drop (i + 1)).length):=by rw [List.eraseIdx_eq_take_drop_succ]
 rw [el_] at hCp
 have hel:(xs.eraseIdx i).length = xs.length - 1:=List.length_eraseIdx_of_lt hi
 have hC2:=hCp.take (xs.length - 1)
 rw [List.take_append_of_le_length (by omega),List.take_of_length_le (by omega)] at hC2
 refine Cal.en Tryz.func179 rfl Tryz.ntmps179<|WC.rs<|WL.a rfl<|WL.go<|WC.rs<|WL.m rfl<|WL.m rfl<|WL.m rfl<|WL.m rfl<|WL.f (Fr.ln rfl Tryz.underlying123) ?_
 refine WL.f (Fr.sl3 rfl rfl rfl rfl sl123 (by omega) (by omega) (by omega) (by omega) (by omega))<|WL.go<|WC.seq<|WC.rs<|WL.m rfl<|WL.m rfl<|WL.f (Fr.bo rfl rfl BO.eq)<|WL.go ?_
 refine WC.condS rfl (fun hcond16=>?_) (fun hcond16=>?_)
 ·exact WC.rs<|WL.m rfl<|WL.a rfl<|WL.go<|WC.ret<|WQ.tr<|WQ.ret rfl (.tmp rfl .nil) (absurd (dcT hcond16) (by omega))
 refine WC.skip<|WQ.n<|WC.rs<|WL.m rfl<|WL.f (Fr.ln rfl Tryz.underlying123)<|WL.a rfl<|WL.go<|WC.drs (fun _=>True) .body (trivial)<|DL.m 0 rfl rfl<|DL.m 1 rfl rfl ?_
 refine DL.fx 2 rfl (Fr.slH rfl rfl sl123 (by omega) (by omega))<|DL.m 3 rfl rfl<|DL.m 4 rfl rfl<|DL.fx 5 rfl (Fr.slT rfl rfl sl123 (by omega) (by omega)) ?_
 obtain ⟨o2,eo2,ho2⟩:∃ o2,(if cap = ((i + 1:Nat):Int).toNat then some (⟨b,0,none⟩:Addr) else (some (⟨b,0,none⟩:Addr)).map (·.add (((i + 1:Nat):Int).toNat * 4))) = some ⟨b,o2,none⟩ ∧ At t.w b o2 news:=by
  rw [Int.toNat_natCast]
  by_cases hce:cap = i + 1
  ·refine ⟨0,if_pos hce,fun j v hj=>?_⟩
   have:news = []:=List.eq_nil_of_length_eq_zero (by rw [hnl,show xs.length - (i + 1) = 0 by omega,Nat.zero_mul])
   rw [this] at hj
   cases hj
  exact ⟨(i + 1) * 4,by rw [if_neg hce,Option.map_some,add_at,Nat.zero_add],hA⟩
 refine DL.re 25 rfl (congrArg (fun A=>Value.slice A _ _) eo2)<|DL.ex 6 rfl (Ef.apI (m:=xs.length - (i + 1)) (news:=news) (len:=i) rfl rfl sl123 hb hnl (fun j v hj=>ho2 j v hj) hone (by omega) hcs (.inr rfl)) (fun _ _ _=>trivial) ?_
 rintro _ t1 ⟨rfl,_,s1,hb2⟩
 refine DL.fx 7 rfl (Fr.as rfl)<|DL.D<|WQ.n<|WC.rs<|WL.m rfl<|WL.m rfl<|WL.f (Fr.ln rfl Tryz.underlying123)<|WL.m rfl<|WL.f (Fr.slM rfl rfl rfl sl123 (by omega) (by omega) (by omega) (by omega))<|WL.e0 (Ef.clr (k:=4) rfl Tryz.underlying123 zr134 (by omega) hb2 rfl (by decide) (by rw [hpl,hcs]; omega) (.inr rfl)) ?_
 rintro _ t2 ⟨news2,hn2,_,s2,hb3⟩
 refine WL.go<|WC.rs<|WL.m rfl<|WL.a rfl<|WL.go<|WC.ret ?_
 have hst:=s1.trans s2
 have e7:i + (xs.length - (i + 1)) = xs.length - 1:=by omega
 have e8:0 + ((i + (xs.length - (i + 1)):Nat):Int).toNat * 4 = (xs.length - 1) * (kSess).k:=by rw [Int.toNat_natCast,e7,Nat.zero_add,hk]
 rw [e8] at hb3
 have hC3:=(hC2.step ((TW.drew_step t).no.trans hst) (fun e=>hg e.symm)).tail (news:=news2) (j:=xs.length - 1) (by omega) (by rw [hpl,hcs,hk]; exact Nat.mul_le_mul_right _ (by omega))
 have hn3:news2.length = 1 * 4:=by rw [hn2,e7,Int.toNat_natCast,Int.toNat_natCast]; congr 1; omega
 have hR:=Row.of_cs (xs:=xs.eraseIdx i) hb3 hBb (by omega) (by rw [put_length (by rw [hpl,hn3,hcs,hk]; omega),hpl,hcs,hk]) hmx hC3
 exact WQ.ret rfl (.tmp rfl .nil) (by rw [hel,← e7] at hR; exact hR)
theorem slices_Delete_u32 {g:Tag} {B i:Nat} {v:Value} {xs:List Int} (t:TW) (hr:Row t g B 253 (kInt .u32) v xs) (hg:g ≠ .fz) (hB:B ≤ t.w.heap.size) (hi:i < xs.length) (hl:xs.length ≤ 900000):Cal 202 [v,.int .i64 (i:Int),.int .i64 ((i + 1:Nat):Int)] t (fun z=>z = g) (fun r t' => Row t' g B 253 (kInt .u32) r (xs.eraseIdx i)):=by
 obtain ⟨b,cap,rfl⟩:∃ b cap,v = .slice (some ⟨b,0,none⟩) xs.length cap:=by
  rcases hr.cases with ⟨h1,h2⟩ | h1
  ·subst h2
   simp at hi
  exact h1
 obtain ⟨cs,_,hBb,hb,hcap,hcs,hmx,hC⟩:=hr.open_
 have hk:((kInt .u32)).k = 1:=rfl
 rw [hk] at hcs
 have hE:=hC.part (by rw [hcs,hk]; exact Nat.mul_le_mul_right _ hcap) (i + 1) hi
 have hA:At t.w b ((i + 1) * ((kInt .u32)).k) ((cs.drop ((i + 1) * ((kInt .u32)).k)).take ((xs.length - (i + 1)) * ((kInt .u32)).k)):=at_part hb
 have hone:=hE.one
 generalize hnews:(cs.drop ((i + 1) * ((kInt .u32)).k)).take ((xs.length - (i + 1)) * ((kInt .u32)).k) = news at hE hA hone
 have hnl:news.length = (xs.length - (i + 1)) * 1:=by rw [hE.1,List.length_drop,hk]
 have hCp:=hC.put (j:=i) hE (by omega) (by rw [hcs,hk]; exact Nat.mul_le_mul_right _ (by omega))
 rw [hk] at hCp hA
 have hpl:(put cs (i * 1) news).length = cs.length:=put_length (by rw [hnl,hcs]; omega)
 have el_:xs.take i ++ xs.drop (i + 1) ++ xs.drop (i + (xs.drop (i + 1)).length) = xs.eraseIdx i ++ xs.drop (i + (xs.drop (i + 1)).length):=by rw [List.eraseIdx_eq_take_drop_succ]
 rw [el_] at hCp
 have hel:(xs.eraseIdx i).length = xs.length - 1:=List.length_eraseIdx_of_lt hi
 have hC2:=hCp.take (xs.length - 1)
 rw [List.take_append_of_le_length (by omega),List.take_of_length_le (by omega)] at hC2
 refine Cal.en Tryz.func202 rfl Tryz.ntmps202<|WC.rs<|WL.a rfl<|WL.go<|WC.rs<|WL.m rfl<|WL.m rfl<|WL.m rfl<|WL.m rfl<|WL.f (Fr.ln rfl Tryz.underlying176) ?_
 refine WL.f (Fr.sl3 rfl rfl rfl rfl sl176 (by omega) (by omega) (by omega) (by omega) (by omega))<|WL.go<|WC.seq<|WC.rs<|WL.m rfl<|WL.m rfl<|WL.f (Fr.bo rfl rfl BO.eq)<|WL.go ?_
 refine WC.condS rfl (fun hcond16=>?_) (fun hcond16=>?_)
 ·exact WC.rs<|WL.m rfl<|WL.a rfl<|WL.go<|WC.ret<|WQ.tr<|WQ.ret rfl (.tmp rfl .nil) (absurd (dcT hcond16) (by omega))
 refine WC.skip<|WQ.n<|WC.rs<|WL.m rfl<|WL.f (Fr.ln rfl Tryz.underlying176)<|WL.a rfl<|WL.go<|WC.drs (fun _=>True) .body (trivial)<|DL.m 0 rfl rfl<|DL.m 1 rfl rfl ?_
 refine DL.fx 2 rfl (Fr.slH rfl rfl sl176 (by omega) (by omega))<|DL.m 3 rfl rfl<|DL.m 4 rfl rfl<|DL.fx 5 rfl (Fr.slT rfl rfl sl176 (by omega) (by omega)) ?_
 obtain ⟨o2,eo2,ho2⟩:∃ o2,(if cap = ((i + 1:Nat):Int).toNat then some (⟨b,0,none⟩:Addr) else (some (⟨b,0,none⟩:Addr)).map (·.add (((i + 1:Nat):Int).toNat * 1))) = some ⟨b,o2,none⟩ ∧ At t.w b o2 news:=by
  rw [Int.toNat_natCast]
  by_cases hce:cap = i + 1
  ·refine ⟨0,if_pos hce,fun j v hj=>?_⟩
   have:news = []:=List.eq_nil_of_length_eq_zero (by rw [hnl,show xs.length - (i + 1) = 0 by omega,Nat.zero_mul])
   rw [this] at hj
   cases hj
  exact ⟨(i + 1) * 1,by rw [if_neg hce,Option.map_some,add_at,Nat.zero_add],hA⟩
 refine DL.re 25 rfl (congrArg (fun A=>Value.slice A _ _) eo2)<|DL.ex 6 rfl (Ef.apI (m:=xs.length - (i + 1)) (news:=news) (len:=i) rfl rfl sl176 hb hnl (fun j v hj=>ho2 j v hj) hone (by omega) hcs (.inr rfl)) (fun _ _ _=>trivial) ?_
 rintro _ t1 ⟨rfl,_,s1,hb2⟩
 refine DL.fx 7 rfl (Fr.as rfl)<|DL.D<|WQ.n<|WC.rs<|WL.m rfl<|WL.m rfl<|WL.f (Fr.ln rfl Tryz.underlying176)<|WL.m rfl<|WL.f (Fr.slM rfl rfl rfl sl176 (by omega) (by omega) (by omega) (by omega))<|WL.e0 (Ef.clr (k:=1) rfl Tryz.underlying176 zr253 (by omega) hb2 rfl (by decide) (by rw [hpl,hcs]; omega) (.inr rfl)) ?_
 rintro _ t2 ⟨news2,hn2,_,s2,hb3⟩
 refine WL.go<|WC.rs<|WL.m rfl<|WL.a rfl<|WL.go<|WC.ret ?_
 have hst:=s1.trans s2
 have e7:i + (xs.length - (i + 1)) = xs.length - 1:=by omega
 have e8:0 + ((i + (xs.length - (i + 1)):Nat):Int).toNat * 1 = (xs.length - 1) * ((kInt .u32)).k:=by rw [Int.toNat_natCast,e7,Nat.zero_add,hk]
 rw [e8] at hb3
 have hC3:=(hC2.step ((TW.drew_step t).no.trans hst) (fun e=>hg e.symm)).tail (news:=news2) (j:=xs.length - 1) (by omega) (by rw [hpl,hcs,hk]; exact Nat.mul_le_mul_right _ (by omega))
 have hn3:news2.length = 1 * 1:=by rw [hn2,e7,Int.toNat_natCast,Int.toNat_natCast]; congr 1; omega
 have hR:=Row.of_cs (xs:=xs.eraseIdx i) hb3 hBb (by omega) (by rw [put_length (by rw [hpl,hn3,hcs,hk]; omega),hpl,hcs,hk]) hmx hC3
 exact WQ.ret rfl (.tmp rfl .nil) (by rw [hel,← e7] at hR; exact hR)
theorem slices_Insert_str {g g1:Tag} {B i b1:Nat} {v:Value} {xs:List ByteArray} {y:ByteArray} {c1:List Value} (t:TW) (hr:Row t g B 9 kStr v xs) (hb1:Bk t b1 c1 9 g1) (hy:kStr.R t y c1) (hg:g ≠ .fz) (hg1:g1 ≠ g) (hB:B ≤ t.w.heap.size) (hi:i ≤ xs.length) (hl:xs.length ≤ 900000):Cal 173 [v,.int .i64 (i:Int),.slice (some ⟨b1,0,none⟩) 1 1] t (fun z=>z = g) (fun r t' => Row t' g B 9 kStr r (xs.take i ++ y :: xs.drop i)):=by
 obtain ⟨A,cap,rfl,hcap⟩:=hr.form
 have hk:(kStr).k = 1:=rfl
 have hfz:¬ Tag.fz = g:=fun h=>hg h.symm
 have hl1:c1.length = 1:=(kStr).len hy
 refine Cal.en Tryz.func173 rfl Tryz.ntmps173<|WC.rs<|WL.a rfl<|WL.go<|WC.rs<|WL.m rfl<|WL.m rfl<|WL.f (Fr.slT rfl rfl sl54 (by omega) (by omega))<|WL.go<|WC.rs ?_
 refine WL.m rfl<|WL.f (Fr.ln rfl Tryz.underlying54)<|WL.a rfl<|WL.go<|WC.seq<|WC.rs<|WL.m rfl<|WL.f (Fr.bo rfl rfl BO.eq)<|WL.go ?_
 refine WC.condS rfl (fun hcond16=>?_) (fun hcond16=>?_)
 ·exact WC.rs<|WL.m rfl<|WL.a rfl<|WL.go<|WC.ret<|WQ.tr<|WQ.ret rfl (.tmp rfl .nil) (absurd (dcT hcond16) (by decide))
 refine WC.skip<|WQ.n<|WC.rs<|WL.m rfl<|WL.f (Fr.ln rfl Tryz.underlying54)<|WL.a rfl<|WL.go<|WC.seq<|WC.rs<|WL.m rfl ?_
 refine WL.m rfl<|WL.f (Fr.bo rfl rfl BO.eq)<|WL.go ?_
 refine WC.condS rfl (fun hcond22=>?_) (fun hcond22=>?_)
 ·refine WC.rs<|WL.m rfl<|WL.m rfl<|WL.e (Ef.ap1 (y1:=y) rfl rfl hb1 hy sl54 el9 (by decide) hr hB (by omega) (by decide) hg (.inr rfl)) ?_
  rintro v25 t1 ⟨s1,hr2⟩
  refine WL.a rfl<|WL.go<|WC.ret<|WQ.tr ?_
  have e0:i = xs.length:=by have:=dcT hcond22; omega
  subst e0
  exact WQ.ret rfl (.tmp rfl .nil) (by simpa [resOf] using hr2)
 have hi:i < xs.length:=by have:=dcF hcond22; omega
 obtain ⟨b,rfl⟩:∃ b,A = some ⟨b,0,none⟩:=by
  rcases hr.cases with ⟨_,h2⟩ | ⟨b,cap2,h1⟩
  ·subst h2; exact absurd hi (Nat.not_lt_zero _)
  exact ⟨b,(Value.slice.inj h1).1⟩
 obtain ⟨cs,_,hBb,hb,_,hcs,hmx,hC⟩:=hr.open_
 rw [hk] at hcs
 have hbb:b1 ≠ b:=hb1.ne hb hg1
 have hbl:=hb.lt
 have hE:=hC.part (by rw [hcs,hk]; exact Nat.mul_le_mul_right _ hcap) i (Nat.le_of_lt hi)
 have hA:At t.w b (i * (kStr).k) ((cs.drop (i * (kStr).k)).take ((xs.length - i) * (kStr).k)):=at_part hb
 have hcl:i * 1 ≤ cap * 1:=Nat.mul_le_mul_right _ (by omega)
 have hcl2:(xs.length - i) * 1 + i * 1 ≤ cap * 1:=by rw [← Nat.add_mul]; exact Nat.mul_le_mul_right _ (by omega)
 generalize hnews:(cs.drop (i * (kStr).k)).take ((xs.length - i) * (kStr).k) = news at hE hA
 have hnl:news.length = (xs.length - i) * 1:=by rw [hE.1,List.length_drop,hk]
 have hone:=hE.one
 rw [hk] at hA
 refine WC.skip<|WQ.n<|WC.seq<|WC.rs<|WL.m rfl<|WL.m rfl<|WL.f (Fr.bo rfl rfl (BO.add (by omega) (by omega)))<|WL.m rfl<|WL.f (Fr.cp rfl Tryz.underlying54)<|WL.f (Fr.bo rfl rfl BO.gt) ?_
 refine WL.go ?_
 refine WC.condS rfl (fun hcond31=>?_) (fun hcond31=>?_)
 ·have hgr:=dcT hcond31
  refine WC.rs<|WL.m rfl<|WL.m rfl<|WL.f (Fr.slH rfl rfl sl54 (by omega) (by omega))<|WL.m rfl<|WL.m rfl<|WL.f (Fr.bo rfl rfl (BO.add (by omega) (by omega)))<|WL.m rfl<|WL.f (Fr.bo rfl rfl (BO.sub (by omega) (by omega)))<|WL.re 39 (v' := .int .i64 ((xs.length + 1 - i:Nat):Int)) rfl (congrArg (Value.int .i64) (by omega)) ?_
  refine WL.e (Ef.apZ (xs:=xs.take i) (m:=xs.length + 1 - i) (len:=i) rfl rfl sl54 Tryz.underlying3 el9 (by decide) (by decide) (by rw [List.length_take]; omega) hb (by rw [hcs,hk]) (by omega) (hC.take i) (by omega) (by rw [List.length_take]; omega) (by rw [List.length_take]; omega) (by decide) g) ?_
  rintro v40 t2 ⟨s2,b2,cap2,cs2,e2,hB2,hB0,hb2,hc2,hl2,hm2,hC2⟩
  rw [List.length_take,Nat.min_eq_left (Nat.le_of_lt hi),show i + (xs.length + 1 - i) = xs.length + 1 by omega] at e2 hc2
  subst e2
  have hb1:=hb1.n s2
  have hy:=kStr.stp s2 id hy
  obtain ⟨hE,hb⟩:=Q2 (hE.n s2) (hb.n s2)
  rw [hk] at hl2
  have hcl3:(xs.length + 1) * 1 ≤ cap2 * 1:=Nat.mul_le_mul_right _ hc2
  refine WL.a rfl<|WL.go<|WC.rs<|WL.m rfl<|WL.m rfl<|WL.f (Fr.slB rfl rfl sl54 (by omega) (by omega) (by omega))<|WL.m rfl<|WL.e (Ef.cpy (news:=c1) rfl rfl sl54 hb2 (by rw [hl1,Nat.min_eq_left (by omega),Nat.one_mul]) (fun j v hj=>by rw [Nat.zero_add]; exact hb1.cell hj) (Kn.one _ hy) (by rw [hl1,hl2]; omega) (.inl hB0)) ?_
  rintro _ t3 ⟨u3,s3,hb3⟩
  rw [Nat.zero_add,Int.toNat_natCast] at hb3
  have hC3:=(hC2.step s3 hfz).put (j:=i) (Els.one_ (kStr.stp s3 hfz hy)) (by rw [List.length_take]; omega) (by rw [hl2,hk]; omega)
  rw [show [y].length = 1 from rfl,l_ins1 y (Nat.le_of_lt hi),hk] at hC3
  have hb:=hb.upd u3 (by omega)
  have hE:=hE.step s3 hfz
  have hA:At t3.w b (i * 1) news:=by rw [← hnews,hk]; exact at_part hb
  have hpl:(put cs2 (i * 1) c1).length = cs2.length:=put_length (by rw [hl1,hl2]; omega)
  refine WL.go<|WC.drs (fun _=>True) (.then_ .body) (trivial)<|DL.m 0 rfl rfl<|DL.m 1 rfl rfl<|DL.m 2 rfl rfl<|DL.fx 3 rfl (Fr.bo rfl rfl (BO.add (by omega) (by omega)))<|DL.fx 4 rfl (Fr.slB rfl rfl sl54 (by omega) (by omega) (by omega))<|DL.m 5 rfl rfl<|DL.m 6 rfl rfl<|DL.fx 7 rfl (Fr.slB rfl rfl sl54 (by omega) (by omega) (by omega)) ?_
  refine DL.ex 8 rfl (Ef.cpy (news:=news) rfl rfl sl54 hb3 (by rw [hnl]; congr 1; omega) (fun j v hj=>by rw [Nat.zero_add]; exact hA j v hj) hone (by rw [hpl,hl2,hnl]; omega) (.inl hB0)) (fun _ _ _=>trivial) ?_
  rintro _ t4 ⟨u4,s4,hb4⟩
  rw [Nat.zero_add,show ((i:Int) + ((1:Nat):Int)).toNat = i + 1 by omega] at hb4
  have hC4:=((hC3.step (TW.drew_step t3) id).step s4 hfz).put (j:=i + 1) (hE.step (T:=fun q=>q = g) ((TW.drew_step t3).no.trans s4) hfz) (by rw [List.length_append,List.length_take]; simp; omega) (by rw [hpl,hl2,hk]; omega)
  rw [l_ins2 y (Nat.le_of_lt hi),hk] at hC4
  refine DL.D<|WQ.n<|WC.rs<|WL.m rfl<|WL.a rfl<|WL.go<|WC.ret<|WQ.tr ?_
  have hln:(xs.take i ++ y :: xs.drop i).length = xs.length + 1:=by rw [List.length_append,List.length_take,List.length_cons,List.length_drop]; omega
  have hR:=Row.of_cs hb4 (Nat.le_trans hB hB2) (by rw [hln]; exact hc2) (by rw [put_length (by rw [hpl,hl2,hnl]; omega),hpl,hl2,hk]) hm2 hC4
  rw [hln] at hR
  exact WQ.ret rfl (.tmp rfl .nil) (hR)
 have hfit:=dcF hcond31
 refine WC.skip<|WQ.n<|WC.rs<|WL.m rfl<|WL.m rfl<|WL.m rfl<|WL.f (Fr.bo rfl rfl (BO.add (by omega) (by omega)))<|WL.f (Fr.slH rfl rfl sl54 (by omega) (by omega))<|WL.a rfl<|WL.go ?_
 refine WC.seq<|WC.rs<|WL.m rfl<|WL.m rfl<|WL.m rfl<|WL.m rfl<|WL.f (Fr.bo rfl rfl (BO.add (by omega) (by omega)))<|WL.f (Fr.slB rfl rfl sl54 (by omega) (by omega) (by omega))<|WL.e (Ef.ovl (tr:=4) rfl Tryz.func190 (by kernel_rfl) (by kernel_rfl) (by kernel_rfl) (by kernel_rfl) sl54 hb1 hb hbb (by intro h; rw [h] at hcs; simp at hcs; omega)) ?_
 rintro _ _ ⟨rfl,rfl⟩
 refine WL.f (Fr.un_not rfl)<|WL.go<|WC.condT<|WC.drs (fun _=>True) (.then_ .body) (trivial)<|DL.m 0 rfl rfl<|DL.m 1 rfl rfl<|DL.m 2 rfl rfl<|DL.fx 3 rfl (Fr.bo rfl rfl (BO.add (by omega) (by omega)))<|DL.fx 4 rfl (Fr.slB rfl rfl sl54 (by omega) (by omega) (by omega))<|DL.m 5 rfl rfl ?_
 refine DL.m 6 rfl rfl<|DL.fx 7 rfl (Fr.slB rfl rfl sl54 (by omega) (by omega) (by omega))<|DL.ex 8 rfl (Ef.cpy (news:=news) rfl rfl sl54 hb (by rw [hnl]; congr 1; omega) (fun j v hj=>by rw [Nat.zero_add]; exact hA j v hj) hone (by rw [hcs,hnl]; omega) (.inr rfl)) (fun _ _ _=>trivial) ?_
 rintro _ t6 ⟨u6,s6,hb3⟩
 rw [Nat.zero_add,show ((i:Int) + ((1:Nat):Int)).toNat = i + 1 by omega] at hb3
 have hst:=(TW.drew_step t).no.trans s6
 have hC3:=(hC.step hst hfz).put (j:=i + 1) (hE.step (T:=fun q=>q = g) hst hfz) (by omega) (by rw [hcs,hk]; omega)
 rw [hk] at hC3
 have hpl:(put cs ((i + 1) * 1) news).length = cs.length:=put_length (by rw [hcs,hnl]; omega)
 have hb1:=(hb1.step hst hg1)
 have hy:=kStr.stp hst hfz hy
 refine DL.D<|WQ.n<|WC.rs<|WL.m rfl<|WL.m rfl<|WL.f (Fr.slB rfl rfl sl54 (by omega) (by omega) (by omega))<|WL.m rfl<|WL.e (Ef.cpy (news:=c1) rfl rfl sl54 hb3 (by rw [hl1,Nat.min_eq_left (by omega),Nat.one_mul]) (fun j v hj=>by rw [Nat.zero_add]; exact hb1.cell hj) (Kn.one _ hy) (by rw [hpl,hl1,hcs]; omega) (.inr rfl)) ?_
 rintro _ t7 ⟨u7,s7,hb4⟩
 rw [Nat.zero_add,Int.toNat_natCast] at hb4
 have hC4:=(hC3.step s7 hfz).put (j:=i) (Els.one_ (kStr.stp s7 hfz hy)) (by simp; omega) (by rw [hpl,hcs,hk]; omega)
 rw [show [y].length = 1 from rfl,l_ins3 y hi (by rw [List.length_drop]; omega),hk] at hC4
 refine WL.go<|WC.rs<|WL.m rfl<|WL.a rfl<|WL.go<|WC.ret<|WQ.tr ?_
 have hln:(xs.take i ++ y :: xs.drop i).length = xs.length + 1:=by rw [List.length_append,List.length_take,List.length_cons,List.length_drop]; omega
 have hR:=Row.of_cs hb4 hBb (by rw [hln]; omega) (by rw [put_length (by rw [hpl,hcs,hl1]; omega),hpl,hcs,hk]) hmx hC4
 rw [hln] at hR
 exact WQ.ret rfl (.tmp rfl .nil) (hR)
theorem slices_Insert_ent {g g1:Tag} {B i b1:Nat} {v:Value} {xs:List Entry} {y:Entry} {c1:List Value} (t:TW) (hr:Row t g B 228 kEntry v xs) (hb1:Bk t b1 c1 228 g1) (hy:kEntry.R t y c1) (hg:g ≠ .fz) (hg1:g1 ≠ g) (hB:B ≤ t.w.heap.size) (hi:i ≤ xs.length) (hl:xs.length ≤ 900000):Cal 174 [v,.int .i64 (i:Int),.slice (some ⟨b1,0,none⟩) 1 1] t (fun z=>z = g) (fun r t' => Row t' g B 228 kEntry r (xs.take i ++ y :: xs.drop i)):=by
 obtain ⟨A,cap,rfl,hcap⟩:=hr.form
 have hk:(kEntry).k = 4:=rfl
 have hfz:¬ Tag.fz = g:=fun h=>hg h.symm
 have hl1:c1.length = 4:=(kEntry).len hy
 refine Cal.en Tryz.func174 rfl Tryz.ntmps174<|WC.rs<|WL.a rfl<|WL.go<|WC.rs<|WL.m rfl<|WL.m rfl<|WL.f (Fr.slT rfl rfl sl153 (by omega) (by omega))<|WL.go<|WC.rs ?_
 refine WL.m rfl<|WL.f (Fr.ln rfl Tryz.underlying153)<|WL.a rfl<|WL.go<|WC.seq<|WC.rs<|WL.m rfl<|WL.f (Fr.bo rfl rfl BO.eq)<|WL.go ?_
 refine WC.condS rfl (fun hcond16=>?_) (fun hcond16=>?_)
 ·exact WC.rs<|WL.m rfl<|WL.a rfl<|WL.go<|WC.ret<|WQ.tr<|WQ.ret rfl (.tmp rfl .nil) (absurd (dcT hcond16) (by decide))
 refine WC.skip<|WQ.n<|WC.rs<|WL.m rfl<|WL.f (Fr.ln rfl Tryz.underlying153)<|WL.a rfl<|WL.go<|WC.seq<|WC.rs<|WL.m rfl ?_
 refine WL.m rfl<|WL.f (Fr.bo rfl rfl BO.eq)<|WL.go ?_
 refine WC.condS rfl (fun hcond22=>?_) (fun hcond22=>?_)
 ·refine WC.rs<|WL.m rfl<|WL.m rfl<|WL.e (Ef.ap1 (y1:=y) rfl rfl hb1 hy sl153 el228 (by decide) hr hB (by omega) (by decide) hg (.inr rfl)) ?_
  rintro v25 t1 ⟨s1,hr2⟩
  refine WL.a rfl<|WL.go<|WC.ret<|WQ.tr ?_
  have e0:i = xs.length:=by have:=dcT hcond22; omega
  subst e0
  exact WQ.ret rfl (.tmp rfl .nil) (by simpa [resOf] using hr2)
 have hi:i < xs.length:=by have:=dcF hcond22; omega
 obtain ⟨b,rfl⟩:∃ b,A = some ⟨b,0,none⟩:=by
  rcases hr.cases with ⟨_,h2⟩ | ⟨b,cap2,h1⟩
  ·subst h2; exact absurd hi (Nat.not_lt_zero _)
  exact ⟨b,(Value.slice.inj h1).1⟩
 obtain ⟨cs,_,hBb,hb,_,hcs,hmx,hC⟩:=hr.open_
 rw [hk] at hcs
 have hbb:b1 ≠ b:=hb1.ne hb hg1
 have hbl:=hb.lt
 have hE:=hC.part (by rw [hcs,hk]; exact Nat.mul_le_mul_right _ hcap) i (Nat.le_of_lt hi)
 have hA:At t.w b (i * (kEntry).k) ((cs.drop (i * (kEntry).k)).take ((xs.length - i) * (kEntry).k)):=at_part hb
 have hcl:i * 4 ≤ cap * 4:=Nat.mul_le_mul_right _ (by omega)
 have hcl2:(xs.length - i) * 4 + i * 4 ≤ cap * 4:=by rw [← Nat.add_mul]; exact Nat.mul_le_mul_right _ (by omega)
 generalize hnews:(cs.drop (i * (kEntry).k)).take ((xs.length - i) * (kEntry).k) = news at hE hA
 have hnl:news.length = (xs.length - i) * 4:=by rw [hE.1,List.length_drop,hk]
 have hone:=hE.one
 rw [hk] at hA
 refine WC.skip<|WQ.n<|WC.seq<|WC.rs<|WL.m rfl<|WL.m rfl<|WL.f (Fr.bo rfl rfl (BO.add (by omega) (by omega)))<|WL.m rfl<|WL.f (Fr.cp rfl Tryz.underlying153)<|WL.f (Fr.bo rfl rfl BO.gt) ?_
 refine WL.go ?_
 refine WC.condS rfl (fun hcond31=>?_) (fun hcond31=>?_)
 ·have hgr:=dcT hcond31
  refine WC.rs<|WL.m rfl<|WL.m rfl<|WL.f (Fr.slH rfl rfl sl153 (by omega) (by omega))<|WL.m rfl<|WL.m rfl<|WL.f (Fr.bo rfl rfl (BO.add (by omega) (by omega)))<|WL.m rfl<|WL.f (Fr.bo rfl rfl (BO.sub (by omega) (by omega)))<|WL.re 39 (v' := .int .i64 ((xs.length + 1 - i:Nat):Int)) rfl (congrArg (Value.int .i64) (by omega)) ?_
  refine WL.e (Ef.apZ (xs:=xs.take i) (m:=xs.length + 1 - i) (len:=i) rfl rfl sl153 Tryz.underlying3 el228 (by decide) (by decide) (by rw [List.length_take]; omega) hb (by rw [hcs,hk]) (by omega) (hC.take i) (by omega) (by rw [List.length_take]; omega) (by rw [List.length_take]; omega) (by decide) g) ?_
  rintro v40 t2 ⟨s2,b2,cap2,cs2,e2,hB2,hB0,hb2,hc2,hl2,hm2,hC2⟩
  rw [List.length_take,Nat.min_eq_left (Nat.le_of_lt hi),show i + (xs.length + 1 - i) = xs.length + 1 by omega] at e2 hc2
  subst e2
  have hb1:=hb1.n s2
  have hy:=kEntry.stp s2 id hy
  obtain ⟨hE,hb⟩:=Q2 (hE.n s2) (hb.n s2)
  rw [hk] at hl2
  have hcl3:(xs.length + 1) * 4 ≤ cap2 * 4:=Nat.mul_le_mul_right _ hc2
  refine WL.a rfl<|WL.go<|WC.rs<|WL.m rfl<|WL.m rfl<|WL.f (Fr.slB rfl rfl sl153 (by omega) (by omega) (by omega))<|WL.m rfl<|WL.e (Ef.cpy (news:=c1) rfl rfl sl153 hb2 (by rw [hl1,Nat.min_eq_left (by omega),Nat.one_mul]) (fun j v hj=>by rw [Nat.zero_add]; exact hb1.cell hj) (Kn.one _ hy) (by rw [hl1,hl2]; omega) (.inl hB0)) ?_
  rintro _ t3 ⟨u3,s3,hb3⟩
  rw [Nat.zero_add,Int.toNat_natCast] at hb3
  have hC3:=(hC2.step s3 hfz).put (j:=i) (Els.one_ (kEntry.stp s3 hfz hy)) (by rw [List.length_take]; omega) (by rw [hl2,hk]; omega)
  rw [show [y].length = 1 from rfl,l_ins1 y (Nat.le_of_lt hi),hk] at hC3
  have hb:=hb.upd u3 (by omega)
  have hE:=hE.step s3 hfz
  have hA:At t3.w b (i * 4) news:=by rw [← hnews,hk]; exact at_part hb
  have hpl:(put cs2 (i * 4) c1).length = cs2.length:=put_length (by rw [hl1,hl2]; omega)
  refine WL.go<|WC.drs (fun _=>True) (.then_ .body) (trivial)<|DL.m 0 rfl rfl<|DL.m 1 rfl rfl<|DL.m 2 rfl rfl<|DL.fx 3 rfl (Fr.bo rfl rfl (BO.add (by omega) (by omega)))<|DL.fx 4 rfl (Fr.slB rfl rfl sl153 (by omega) (by omega) (by omega))<|DL.m 5 rfl rfl<|DL.m 6 rfl rfl<|DL.fx 7 rfl (Fr.slB rfl rfl sl153 (by omega) (by omega) (by omega)) ?_
  refine DL.ex 8 rfl (Ef.cpy (news:=news) rfl rfl sl153 hb3 (by rw [hnl]; congr 1; omega) (fun j v hj=>by rw [Nat.zero_add]; exact hA j v hj) hone (by rw [hpl,hl2,hnl]; omega) (.inl hB0)) (fun _ _ _=>trivial) ?_
  rintro _ t4 ⟨u4,s4,hb4⟩
  rw [Nat.zero_add,show ((i:Int) + ((1:Nat):Int)).toNat = i + 1 by omega] at hb4
  have hC4:=((hC3.step (TW.drew_step t3) id).step s4 hfz).put (j:=i + 1) (hE.step (T:=fun q=>q = g) ((TW.drew_step t3).no.trans s4) hfz) (by rw [List.length_append,List.length_take]; simp; omega) (by rw [hpl,hl2,hk]; omega)
  rw [l_ins2 y (Nat.le_of_lt hi),hk] at hC4
  refine DL.D<|WQ.n<|WC.rs<|WL.m rfl<|WL.a rfl<|WL.go<|WC.ret<|WQ.tr ?_
  have hln:(xs.take i ++ y :: xs.drop i).length = xs.length + 1:=by rw [List.length_append,List.length_take,List.length_cons,List.length_drop]; omega
  have hR:=Row.of_cs hb4 (Nat.le_trans hB hB2) (by rw [hln]; exact hc2) (by rw [put_length (by rw [hpl,hl2,hnl]; omega),hpl,hl2,hk]) hm2 hC4
  rw [hln] at hR
  exact WQ.ret rfl (.tmp rfl .nil) (hR)
 have hfit:=dcF hcond31
 refine WC.skip<|WQ.n<|WC.rs<|WL.m rfl<|WL.m rfl<|WL.m rfl<|WL.f (Fr.bo rfl rfl (BO.add (by omega) (by omega)))<|WL.f (Fr.slH rfl rfl sl153 (by omega) (by omega))<|WL.a rfl<|WL.go ?_
 refine WC.seq<|WC.rs<|WL.m rfl<|WL.m rfl<|WL.m rfl<|WL.m rfl<|WL.f (Fr.bo rfl rfl (BO.add (by omega) (by omega)))<|WL.f (Fr.slB rfl rfl sl153 (by omega) (by omega) (by omega))<|WL.e (Ef.ovl (tr:=4) rfl Tryz.func192 (by kernel_rfl) (by kernel_rfl) (by kernel_rfl) (by kernel_rfl) sl153 hb1 hb hbb (by intro h; rw [h] at hcs; simp at hcs; omega)) ?_
 rintro _ _ ⟨rfl,rfl⟩
 refine WL.f (Fr.un_not rfl)<|WL.go<|WC.condT<|WC.drs (fun _=>True) (.then_ .body) (trivial)<|DL.m 0 rfl rfl<|DL.m 1 rfl rfl<|DL.m 2 rfl rfl<|DL.fx 3 rfl (Fr.bo rfl rfl (BO.add (by omega) (by omega)))<|DL.fx 4 rfl (Fr.slB rfl rfl sl153 (by omega) (by omega) (by omega))<|DL.m 5 rfl rfl ?_
 refine DL.m 6 rfl rfl<|DL.fx 7 rfl (Fr.slB rfl rfl sl153 (by omega) (by omega) (by omega))<|DL.ex 8 rfl (Ef.cpy (news:=news) rfl rfl sl153 hb (by rw [hnl]; congr 1; omega) (fun j v hj=>by rw [Nat.zero_add]; exact hA j v hj) hone (by rw [hcs,hnl]; omega) (.inr rfl)) (fun _ _ _=>trivial) ?_
 rintro _ t6 ⟨u6,s6,hb3⟩
 rw [Nat.zero_add,show ((i:Int) + ((1:Nat):Int)).toNat = i + 1 by omega] at hb3
 have hst:=(TW.drew_step t).no.trans s6
 have hC3:=(hC.step hst hfz).put (j:=i + 1) (hE.step (T:=fun q=>q = g) hst hfz) (by omega) (by rw [hcs,hk]; omega)
 rw [hk] at hC3
 have hpl:(put cs ((i + 1) * 4) news).length = cs.length:=put_length (by rw [hcs,hnl]; omega)
 have hb1:=(hb1.step hst hg1)
 have hy:=kEntry.stp hst hfz hy
 refine DL.D<|WQ.n<|WC.rs<|WL.m rfl<|WL.m rfl<|WL.f (Fr.slB rfl rfl sl153 (by omega) (by omega) (by omega))<|WL.m rfl<|WL.e (Ef.cpy (news:=c1) rfl rfl sl153 hb3 (by rw [hl1,Nat.min_eq_left (by omega),Nat.one_mul]) (fun j v hj=>by rw [Nat.zero_add]; exact hb1.cell hj) (Kn.one _ hy) (by rw [hpl,hl1,hcs]; omega) (.inr rfl)) ?_
 rintro _ t7 ⟨u7,s7,hb4⟩
 rw [Nat.zero_add,Int.toNat_natCast] at hb4
 have hC4:=(hC3.step s7 hfz).put (j:=i) (Els.one_ (kEntry.stp s7 hfz hy)) (by simp; omega) (by rw [hpl,hcs,hk]; omega)
 rw [show [y].length = 1 from rfl,l_ins3 y hi (by rw [List.length_drop]; omega),hk] at hC4
 refine WL.go<|WC.rs<|WL.m rfl<|WL.a rfl<|WL.go<|WC.ret<|WQ.tr ?_
 have hln:(xs.take i ++ y :: xs.drop i).length = xs.length + 1:=by rw [List.length_append,List.length_take,List.length_cons,List.length_drop]; omega
 have hR:=Row.of_cs hb4 hBb (by rw [hln]; omega) (by rw [put_length (by rw [hpl,hcs,hl1]; omega),hpl,hcs,hk]) hmx hC4
 rw [hln] at hR
 exact WQ.ret rfl (.tmp rfl .nil) (hR)
theorem slices_Insert_sess {g g1:Tag} {B i b1:Nat} {v:Value} {xs:List Sess} {y:Sess} {c1:List Value} (t:TW) (hr:Row t g B 134 kSess v xs) (hb1:Bk t b1 c1 134 g1) (hy:kSess.R t y c1) (hg:g ≠ .fz) (hg1:g1 ≠ g) (hB:B ≤ t.w.heap.size) (hi:i ≤ xs.length) (hl:xs.length ≤ 900000):Cal 178 [v,.int .i64 (i:Int),.slice (some ⟨b1,0,none⟩) 1 1] t (fun z=>z = g) (fun r t' => Row t' g B 134 kSess r (xs.take i ++ y :: xs.drop i)):=by
 obtain ⟨A,cap,rfl,hcap⟩:=hr.form
 have hk:(kSess).k = 4:=rfl
 have hfz:¬ Tag.fz = g:=fun h=>hg h.symm
 have hl1:c1.length = 4:=(kSess).len hy
 refine Cal.en Tryz.func178 rfl Tryz.ntmps178<|WC.rs<|WL.a rfl<|WL.go<|WC.rs<|WL.m rfl<|WL.m rfl<|WL.f (Fr.slT rfl rfl sl123 (by omega) (by omega))<|WL.go<|WC.rs ?_
 refine WL.m rfl<|WL.f (Fr.ln rfl Tryz.underlying123)<|WL.a rfl<|WL.go<|WC.seq<|WC.rs<|WL.m rfl<|WL.f (Fr.bo rfl rfl BO.eq)<|WL.go ?_
 refine WC.condS rfl (fun hcond16=>?_) (fun hcond16=>?_)
 ·exact WC.rs<|WL.m rfl<|WL.a rfl<|WL.go<|WC.ret<|WQ.tr<|WQ.ret rfl (.tmp rfl .nil) (absurd (dcT hcond16) (by decide))
 refine WC.skip<|WQ.n<|WC.rs<|WL.m rfl<|WL.f (Fr.ln rfl Tryz.underlying123)<|WL.a rfl<|WL.go<|WC.seq<|WC.rs<|WL.m rfl ?_
 refine WL.m rfl<|WL.f (Fr.bo rfl rfl BO.eq)<|WL.go ?_
 refine WC.condS rfl (fun hcond22=>?_) (fun hcond22=>?_)
 ·refine WC.rs<|WL.m rfl<|WL.m rfl<|WL.e (Ef.ap1 (y1:=y) rfl rfl hb1 hy sl123 el134 (by decide) hr hB (by omega) (by decide) hg (.inr rfl)) ?_
  rintro v25 t1 ⟨s1,hr2⟩
  refine WL.a rfl<|WL.go<|WC.ret<|WQ.tr ?_
  have e0:i = xs.length:=by have:=dcT hcond22; omega
  subst e0
  exact WQ.ret rfl (.tmp rfl .nil) (by simpa [resOf] using hr2)
 have hi:i < xs.length:=by have:=dcF hcond22; omega
 obtain ⟨b,rfl⟩:∃ b,A = some ⟨b,0,none⟩:=by
  rcases hr.cases with ⟨_,h2⟩ | ⟨b,cap2,h1⟩
  ·subst h2; exact absurd hi (Nat.not_lt_zero _)
  exact ⟨b,(Value.slice.inj h1).1⟩
 obtain ⟨cs,_,hBb,hb,_,hcs,hmx,hC⟩:=hr.open_
 rw [hk] at hcs
 have hbb:b1 ≠ b:=hb1.ne hb hg1
 have hbl:=hb.lt
 have hE:=hC.part (by rw [hcs,hk]; exact Nat.mul_le_mul_right _ hcap) i (Nat.le_of_lt hi)
 have hA:At t.w b (i * (kSess).k) ((cs.drop (i * (kSess).k)).take ((xs.length - i) * (kSess).k)):=at_part hb
 have hcl:i * 4 ≤ cap * 4:=Nat.mul_le_mul_right _ (by omega)
 have hcl2:(xs.length - i) * 4 + i * 4 ≤ cap * 4:=by rw [← Nat.add_mul]; exact Nat.mul_le_mul_right _ (by omega)
 generalize hnews:(cs.drop (i * (kSess).k)).take ((xs.length - i) * (kSess).k) = news at hE hA
 have hnl:news.length = (xs.length - i) * 4:=by rw [hE.1,List.length_drop,hk]
 have hone:=hE.one
 rw [hk] at hA
 refine WC.skip<|WQ.n<|WC.seq<|WC.rs<|WL.m rfl<|WL.m rfl<|WL.f (Fr.bo rfl rfl (BO.add (by omega) (by omega)))<|WL.m rfl<|WL.f (Fr.cp rfl Tryz.underlying123)<|WL.f (Fr.bo rfl rfl BO.gt) ?_
 refine WL.go ?_
 refine WC.condS rfl (fun hcond31=>?_) (fun hcond31=>?_)
 ·have hgr:=dcT hcond31
  refine WC.rs<|WL.m rfl<|WL.m rfl<|WL.f (Fr.slH rfl rfl sl123 (by omega) (by omega))<|WL.m rfl<|WL.m rfl<|WL.f (Fr.bo rfl rfl (BO.add (by omega) (by omega)))<|WL.m rfl<|WL.f (Fr.bo rfl rfl (BO.sub (by omega) (by omega)))<|WL.re 39 (v' := .int .i64 ((xs.length + 1 - i:Nat):Int)) rfl (congrArg (Value.int .i64) (by omega)) ?_
  refine WL.e (Ef.apZ (xs:=xs.take i) (m:=xs.length + 1 - i) (len:=i) rfl rfl sl123 Tryz.underlying3 el134 (by decide) (by decide) (by rw [List.length_take]; omega) hb (by rw [hcs,hk]) (by omega) (hC.take i) (by omega) (by rw [List.length_take]; omega) (by rw [List.length_take]; omega) (by decide) g) ?_
  rintro v40 t2 ⟨s2,b2,cap2,cs2,e2,hB2,hB0,hb2,hc2,hl2,hm2,hC2⟩
  rw [List.length_take,Nat.min_eq_left (Nat.le_of_lt hi),show i + (xs.length + 1 - i) = xs.length + 1 by omega] at e2 hc2
  subst e2
  have hb1:=hb1.n s2
  have hy:=kSess.stp s2 id hy
  obtain ⟨hE,hb⟩:=Q2 (hE.n s2) (hb.n s2)
  rw [hk] at hl2
  have hcl3:(xs.length + 1) * 4 ≤ cap2 * 4:=Nat.mul_le_mul_right _ hc2
  refine WL.a rfl<|WL.go<|WC.rs<|WL.m rfl<|WL.m rfl<|WL.f (Fr.slB rfl rfl sl123 (by omega) (by omega) (by omega))<|WL.m rfl<|WL.e (Ef.cpy (news:=c1) rfl rfl sl123 hb2 (by rw [hl1,Nat.min_eq_left (by omega),Nat.one_mul]) (fun j v hj=>by rw [Nat.zero_add]; exact hb1.cell hj) (Kn.one _ hy) (by rw [hl1,hl2]; omega) (.inl hB0)) ?_
  rintro _ t3 ⟨u3,s3,hb3⟩
  rw [Nat.zero_add,Int.toNat_natCast] at hb3
  have hC3:=(hC2.step s3 hfz).put (j:=i) (Els.one_ (kSess.stp s3 hfz hy)) (by rw [List.length_take]; omega) (by rw [hl2,hk]; omega)
  rw [show [y].length = 1 from rfl,l_ins1 y (Nat.le_of_lt hi),hk] at hC3
  have hb:=hb.upd u3 (by omega)
  have hE:=hE.step s3 hfz
  have hA:At t3.w b (i * 4) news:=by rw [← hnews,hk]; exact at_part hb
  have hpl:(put cs2 (i * 4) c1).length = cs2.length:=put_length (by rw [hl1,hl2]; omega)
  refine WL.go<|WC.drs (fun _=>True) (.then_ .body) (trivial)<|DL.m 0 rfl rfl<|DL.m 1 rfl rfl<|DL.m 2 rfl rfl<|DL.fx 3 rfl (Fr.bo rfl rfl (BO.add (by omega) (by omega)))<|DL.fx 4 rfl (Fr.slB rfl rfl sl123 (by omega) (by omega) (by omega))<|DL.m 5 rfl rfl<|DL.m 6 rfl rfl<|DL.fx 7 rfl (Fr.slB rfl rfl sl123 (by omega) (by omega) (by omega)) ?_
  refine DL.ex 8 rfl (Ef.cpy (news:=news) rfl rfl sl123 hb3 (by rw [hnl]; congr 1; omega) (fun j v hj=>by rw [Nat.zero_add]; exact hA j v hj) hone (by rw [hpl,hl2,hnl]; omega) (.inl hB0)) (fun _ _ _=>trivial) ?_
  rintro _ t4 ⟨u4,s4,hb4⟩
  rw [Nat.zero_add,show ((i:Int) + ((1:Nat):Int)).toNat = i + 1 by omega] at hb4
  have hC4:=((hC3.step (TW.drew_step t3) id).step s4 hfz).put (j:=i + 1) (hE.step (T:=fun q=>q = g) ((TW.drew_step t3).no.trans s4) hfz) (by rw [List.length_append,List.length_take]; simp; omega) (by rw [hpl,hl2,hk]; omega)
  rw [l_ins2 y (Nat.le_of_lt hi),hk] at hC4
  refine DL.D<|WQ.n<|WC.rs<|WL.m rfl<|WL.a rfl<|WL.go<|WC.ret<|WQ.tr ?_
  have hln:(xs.take i ++ y :: xs.drop i).length = xs.length + 1:=by rw [List.length_append,List.length_take,List.length_cons,List.length_drop]; omega
  have hR:=Row.of_cs hb4 (Nat.le_trans hB hB2) (by rw [hln]; exact hc2) (by rw [put_length (by rw [hpl,hl2,hnl]; omega),hpl,hl2,hk]) hm2 hC4
  rw [hln] at hR
  exact WQ.ret rfl (.tmp rfl .nil) (hR)
 have hfit:=dcF hcond31
 refine WC.skip<|WQ.n<|WC.rs<|WL.m rfl<|WL.m rfl<|WL.m rfl<|WL.f (Fr.bo rfl rfl (BO.add (by omega) (by omega)))<|WL.f (Fr.slH rfl rfl sl123 (by omega) (by omega))<|WL.a rfl<|WL.go ?_
 refine WC.seq<|WC.rs<|WL.m rfl<|WL.m rfl<|WL.m rfl<|WL.m rfl<|WL.f (Fr.bo rfl rfl (BO.add (by omega) (by omega)))<|WL.f (Fr.slB rfl rfl sl123 (by omega) (by omega) (by omega))<|WL.e (Ef.ovl (tr:=4) rfl Tryz.func197 (by kernel_rfl) (by kernel_rfl) (by kernel_rfl) (by kernel_rfl) sl123 hb1 hb hbb (by intro h; rw [h] at hcs; simp at hcs; omega)) ?_
 rintro _ _ ⟨rfl,rfl⟩
 refine WL.f (Fr.un_not rfl)<|WL.go<|WC.condT<|WC.drs (fun _=>True) (.then_ .body) (trivial)<|DL.m 0 rfl rfl<|DL.m 1 rfl rfl<|DL.m 2 rfl rfl<|DL.fx 3 rfl (Fr.bo rfl rfl (BO.add (by omega) (by omega)))<|DL.fx 4 rfl (Fr.slB rfl rfl sl123 (by omega) (by omega) (by omega))<|DL.m 5 rfl rfl ?_
 refine DL.m 6 rfl rfl<|DL.fx 7 rfl (Fr.slB rfl rfl sl123 (by omega) (by omega) (by omega))<|DL.ex 8 rfl (Ef.cpy (news:=news) rfl rfl sl123 hb (by rw [hnl]; congr 1; omega) (fun j v hj=>by rw [Nat.zero_add]; exact hA j v hj) hone (by rw [hcs,hnl]; omega) (.inr rfl)) (fun _ _ _=>trivial) ?_
 rintro _ t6 ⟨u6,s6,hb3⟩
 rw [Nat.zero_add,show ((i:Int) + ((1:Nat):Int)).toNat = i + 1 by omega] at hb3
 have hst:=(TW.drew_step t).no.trans s6
 have hC3:=(hC.step hst hfz).put (j:=i + 1) (hE.step (T:=fun q=>q = g) hst hfz) (by omega) (by rw [hcs,hk]; omega)
 rw [hk] at hC3
 have hpl:(put cs ((i + 1) * 4) news).length = cs.length:=put_length (by rw [hcs,hnl]; omega)
 have hb1:=(hb1.step hst hg1)
 have hy:=kSess.stp hst hfz hy
 refine DL.D<|WQ.n<|WC.rs<|WL.m rfl<|WL.m rfl<|WL.f (Fr.slB rfl rfl sl123 (by omega) (by omega) (by omega))<|WL.m rfl<|WL.e (Ef.cpy (news:=c1) rfl rfl sl123 hb3 (by rw [hl1,Nat.min_eq_left (by omega),Nat.one_mul]) (fun j v hj=>by rw [Nat.zero_add]; exact hb1.cell hj) (Kn.one _ hy) (by rw [hpl,hl1,hcs]; omega) (.inr rfl)) ?_
 rintro _ t7 ⟨u7,s7,hb4⟩
 rw [Nat.zero_add,Int.toNat_natCast] at hb4
 have hC4:=(hC3.step s7 hfz).put (j:=i) (Els.one_ (kSess.stp s7 hfz hy)) (by simp; omega) (by rw [hpl,hcs,hk]; omega)
 rw [show [y].length = 1 from rfl,l_ins3 y hi (by rw [List.length_drop]; omega),hk] at hC4
 refine WL.go<|WC.rs<|WL.m rfl<|WL.a rfl<|WL.go<|WC.ret<|WQ.tr ?_
 have hln:(xs.take i ++ y :: xs.drop i).length = xs.length + 1:=by rw [List.length_append,List.length_take,List.length_cons,List.length_drop]; omega
 have hR:=Row.of_cs hb4 hBb (by rw [hln]; omega) (by rw [put_length (by rw [hpl,hcs,hl1]; omega),hpl,hcs,hk]) hmx hC4
 rw [hln] at hR
 exact WQ.ret rfl (.tmp rfl .nil) (hR)
theorem slices_Insert_u32 {g g1:Tag} {B i b1:Nat} {v:Value} {xs:List Int} {y:Int} {c1:List Value} (t:TW) (hr:Row t g B 253 (kInt .u32) v xs) (hb1:Bk t b1 c1 253 g1) (hy:(kInt .u32).R t y c1) (hg:g ≠ .fz) (hg1:g1 ≠ g) (hB:B ≤ t.w.heap.size) (hi:i ≤ xs.length) (hl:xs.length ≤ 900000):Cal 201 [v,.int .i64 (i:Int),.slice (some ⟨b1,0,none⟩) 1 1] t (fun z=>z = g) (fun r t' => Row t' g B 253 (kInt .u32) r (xs.take i ++ y :: xs.drop i)):=by
 obtain ⟨A,cap,rfl,hcap⟩:=hr.form
 have hk:((kInt .u32)).k = 1:=rfl
 have hfz:¬ Tag.fz = g:=fun h=>hg h.symm
 have hl1:c1.length = 1:=((kInt .u32)).len hy
 refine Cal.en Tryz.func201 rfl Tryz.ntmps201<|WC.rs<|WL.a rfl<|WL.go<|WC.rs<|WL.m rfl<|WL.m rfl<|WL.f (Fr.slT rfl rfl sl176 (by omega) (by omega))<|WL.go<|WC.rs ?_
 refine WL.m rfl<|WL.f (Fr.ln rfl Tryz.underlying176)<|WL.a rfl<|WL.go<|WC.seq<|WC.rs<|WL.m rfl<|WL.f (Fr.bo rfl rfl BO.eq)<|WL.go ?_
 refine WC.condS rfl (fun hcond16=>?_) (fun hcond16=>?_)
 ·exact WC.rs<|WL.m rfl<|WL.a rfl<|WL.go<|WC.ret<|WQ.tr<|WQ.ret rfl (.tmp rfl .nil) (absurd (dcT hcond16) (by decide))
 refine WC.skip<|WQ.n<|WC.rs<|WL.m rfl<|WL.f (Fr.ln rfl Tryz.underlying176)<|WL.a rfl<|WL.go<|WC.seq<|WC.rs<|WL.m rfl ?_
 refine WL.m rfl<|WL.f (Fr.bo rfl rfl BO.eq)<|WL.go ?_
 refine WC.condS rfl (fun hcond22=>?_) (fun hcond22=>?_)
 ·refine WC.rs<|WL.m rfl<|WL.m rfl<|WL.e (Ef.ap1 (y1:=y) rfl rfl hb1 hy sl176 el253 (by decide) hr hB (by omega) (by decide) hg (.inr rfl)) ?_
  rintro v25 t1 ⟨s1,hr2⟩
  refine WL.a rfl<|WL.go<|WC.ret<|WQ.tr ?_
  have e0:i = xs.length:=by have:=dcT hcond22; omega
  subst e0
  exact WQ.ret rfl (.tmp rfl .nil) (by simpa [resOf] using hr2)
 have hi:i < xs.length:=by have:=dcF hcond22; omega
 obtain ⟨b,rfl⟩:∃ b,A = some ⟨b,0,none⟩:=by
  rcases hr.cases with ⟨_,h2⟩ | ⟨b,cap2,h1⟩
  ·subst h2; exact absurd hi (Nat.not_lt_zero _)
  exact ⟨b,(Value.slice.inj h1).1⟩
 obtain ⟨cs,_,hBb,hb,_,hcs,hmx,hC⟩:=hr.open_
 rw [hk] at hcs
 have hbb:b1 ≠ b:=hb1.ne hb hg1
 have hbl:=hb.lt
 have hE:=hC.part (by rw [hcs,hk]; exact Nat.mul_le_mul_right _ hcap) i (Nat.le_of_lt hi)
 have hA:At t.w b (i * ((kInt .u32)).k) ((cs.drop (i * ((kInt .u32)).k)).take ((xs.length - i) * ((kInt .u32)).k)):=at_part hb
 have hcl:i * 1 ≤ cap * 1:=Nat.mul_le_mul_right _ (by omega)
 have hcl2:(xs.length - i) * 1 + i * 1 ≤ cap * 1:=by rw [← Nat.add_mul]; exact Nat.mul_le_mul_right _ (by omega)
 generalize hnews:(cs.drop (i * ((kInt .u32)).k)).take ((xs.length - i) * ((kInt .u32)).k) = news at hE hA
 have hnl:news.length = (xs.length - i) * 1:=by rw [hE.1,List.length_drop,hk]
 have hone:=hE.one
 rw [hk] at hA
 refine WC.skip<|WQ.n<|WC.seq<|WC.rs<|WL.m rfl<|WL.m rfl<|WL.f (Fr.bo rfl rfl (BO.add (by omega) (by omega)))<|WL.m rfl<|WL.f (Fr.cp rfl Tryz.underlying176)<|WL.f (Fr.bo rfl rfl BO.gt) ?_
 refine WL.go ?_
 refine WC.condS rfl (fun hcond31=>?_) (fun hcond31=>?_)
 ·have hgr:=dcT hcond31
  refine WC.rs<|WL.m rfl<|WL.m rfl<|WL.f (Fr.slH rfl rfl sl176 (by omega) (by omega))<|WL.m rfl<|WL.m rfl<|WL.f (Fr.bo rfl rfl (BO.add (by omega) (by omega)))<|WL.m rfl<|WL.f (Fr.bo rfl rfl (BO.sub (by omega) (by omega)))<|WL.re 39 (v' := .int .i64 ((xs.length + 1 - i:Nat):Int)) rfl (congrArg (Value.int .i64) (by omega)) ?_
  refine WL.e (Ef.apZ (xs:=xs.take i) (m:=xs.length + 1 - i) (len:=i) rfl rfl sl176 Tryz.underlying3 el253 (by decide) (by decide) (by rw [List.length_take]; omega) hb (by rw [hcs,hk]) (by omega) (hC.take i) (by omega) (by rw [List.length_take]; omega) (by rw [List.length_take]; omega) (by decide) g) ?_
  rintro v40 t2 ⟨s2,b2,cap2,cs2,e2,hB2,hB0,hb2,hc2,hl2,hm2,hC2⟩
  rw [List.length_take,Nat.min_eq_left (Nat.le_of_lt hi),show i + (xs.length + 1 - i) = xs.length + 1 by omega] at e2 hc2
  subst e2
  have hb1:=hb1.n s2
  have hy:=(kInt .u32).stp s2 id hy
  obtain ⟨hE,hb⟩:=Q2 (hE.n s2) (hb.n s2)
  rw [hk] at hl2
  have hcl3:(xs.length + 1) * 1 ≤ cap2 * 1:=Nat.mul_le_mul_right _ hc2
  refine WL.a rfl<|WL.go<|WC.rs<|WL.m rfl<|WL.m rfl<|WL.f (Fr.slB rfl rfl sl176 (by omega) (by omega) (by omega))<|WL.m rfl<|WL.e (Ef.cpy (news:=c1) rfl rfl sl176 hb2 (by rw [hl1,Nat.min_eq_left (by omega),Nat.one_mul]) (fun j v hj=>by rw [Nat.zero_add]; exact hb1.cell hj) (Kn.one _ hy) (by rw [hl1,hl2]; omega) (.inl hB0)) ?_
  rintro _ t3 ⟨u3,s3,hb3⟩
  rw [Nat.zero_add,Int.toNat_natCast] at hb3
  have hC3:=(hC2.step s3 hfz).put (j:=i) (Els.one_ ((kInt .u32).stp s3 hfz hy)) (by rw [List.length_take]; omega) (by rw [hl2,hk]; omega)
  rw [show [y].length = 1 from rfl,l_ins1 y (Nat.le_of_lt hi),hk] at hC3
  have hb:=hb.upd u3 (by omega)
  have hE:=hE.step s3 hfz
  have hA:At t3.w b (i * 1) news:=by rw [← hnews,hk]; exact at_part hb
  have hpl:(put cs2 (i * 1) c1).length = cs2.length:=put_length (by rw [hl1,hl2]; omega)
  refine WL.go<|WC.drs (fun _=>True) (.then_ .body) (trivial)<|DL.m 0 rfl rfl<|DL.m 1 rfl rfl<|DL.m 2 rfl rfl<|DL.fx 3 rfl (Fr.bo rfl rfl (BO.add (by omega) (by omega)))<|DL.fx 4 rfl (Fr.slB rfl rfl sl176 (by omega) (by omega) (by omega))<|DL.m 5 rfl rfl<|DL.m 6 rfl rfl<|DL.fx 7 rfl (Fr.slB rfl rfl sl176 (by omega) (by omega) (by omega)) ?_
  refine DL.ex 8 rfl (Ef.cpy (news:=news) rfl rfl sl176 hb3 (by rw [hnl]; congr 1; omega) (fun j v hj=>by rw [Nat.zero_add]; exact hA j v hj) hone (by rw [hpl,hl2,hnl]; omega) (.inl hB0)) (fun _ _ _=>trivial) ?_
  rintro _ t4 ⟨u4,s4,hb4⟩
  rw [Nat.zero_add,show ((i:Int) + ((1:Nat):Int)).toNat = i + 1 by omega] at hb4
  have hC4:=((hC3.step (TW.drew_step t3) id).step s4 hfz).put (j:=i + 1) (hE.step (T:=fun q=>q = g) ((TW.drew_step t3).no.trans s4) hfz) (by rw [List.length_append,List.length_take]; simp; omega) (by rw [hpl,hl2,hk]; omega)
  rw [l_ins2 y (Nat.le_of_lt hi),hk] at hC4
  refine DL.D<|WQ.n<|WC.rs<|WL.m rfl<|WL.a rfl<|WL.go<|WC.ret<|WQ.tr ?_
  have hln:(xs.take i ++ y :: xs.drop i).length = xs.length + 1:=by rw [List.length_append,List.length_take,List.length_cons,List.length_drop]; omega
  have hR:=Row.of_cs hb4 (Nat.le_trans hB hB2) (by rw [hln]; exact hc2) (by rw [put_length (by rw [hpl,hl2,hnl]; omega),hpl,hl2,hk]) hm2 hC4
  rw [hln] at hR
  exact WQ.ret rfl (.tmp rfl .nil) (hR)
 have hfit:=dcF hcond31
 refine WC.skip<|WQ.n<|WC.rs<|WL.m rfl<|WL.m rfl<|WL.m rfl<|WL.f (Fr.bo rfl rfl (BO.add (by omega) (by omega)))<|WL.f (Fr.slH rfl rfl sl176 (by omega) (by omega))<|WL.a rfl<|WL.go ?_
 refine WC.seq<|WC.rs<|WL.m rfl<|WL.m rfl<|WL.m rfl<|WL.m rfl<|WL.f (Fr.bo rfl rfl (BO.add (by omega) (by omega)))<|WL.f (Fr.slB rfl rfl sl176 (by omega) (by omega) (by omega))<|WL.e (Ef.ovl (tr:=4) rfl Tryz.func212 (by kernel_rfl) (by kernel_rfl) (by kernel_rfl) (by kernel_rfl) sl176 hb1 hb hbb (by intro h; rw [h] at hcs; simp at hcs; omega)) ?_
 rintro _ _ ⟨rfl,rfl⟩
 refine WL.f (Fr.un_not rfl)<|WL.go<|WC.condT<|WC.drs (fun _=>True) (.then_ .body) (trivial)<|DL.m 0 rfl rfl<|DL.m 1 rfl rfl<|DL.m 2 rfl rfl<|DL.fx 3 rfl (Fr.bo rfl rfl (BO.add (by omega) (by omega)))<|DL.fx 4 rfl (Fr.slB rfl rfl sl176 (by omega) (by omega) (by omega))<|DL.m 5 rfl rfl ?_
 refine DL.m 6 rfl rfl<|DL.fx 7 rfl (Fr.slB rfl rfl sl176 (by omega) (by omega) (by omega))<|DL.ex 8 rfl (Ef.cpy (news:=news) rfl rfl sl176 hb (by rw [hnl]; congr 1; omega) (fun j v hj=>by rw [Nat.zero_add]; exact hA j v hj) hone (by rw [hcs,hnl]; omega) (.inr rfl)) (fun _ _ _=>trivial) ?_
 rintro _ t6 ⟨u6,s6,hb3⟩
 rw [Nat.zero_add,show ((i:Int) + ((1:Nat):Int)).toNat = i + 1 by omega] at hb3
 have hst:=(TW.drew_step t).no.trans s6
 have hC3:=(hC.step hst hfz).put (j:=i + 1) (hE.step (T:=fun q=>q = g) hst hfz) (by omega) (by rw [hcs,hk]; omega)
 rw [hk] at hC3
 have hpl:(put cs ((i + 1) * 1) news).length = cs.length:=put_length (by rw [hcs,hnl]; omega)
 have hb1:=(hb1.step hst hg1)
 have hy:=(kInt .u32).stp hst hfz hy
 refine DL.D<|WQ.n<|WC.rs<|WL.m rfl<|WL.m rfl<|WL.f (Fr.slB rfl rfl sl176 (by omega) (by omega) (by omega))<|WL.m rfl<|WL.e (Ef.cpy (news:=c1) rfl rfl sl176 hb3 (by rw [hl1,Nat.min_eq_left (by omega),Nat.one_mul]) (fun j v hj=>by rw [Nat.zero_add]; exact hb1.cell hj) (Kn.one _ hy) (by rw [hpl,hl1,hcs]; omega) (.inr rfl)) ?_
 rintro _ t7 ⟨u7,s7,hb4⟩
 rw [Nat.zero_add,Int.toNat_natCast] at hb4
 have hC4:=(hC3.step s7 hfz).put (j:=i) (Els.one_ ((kInt .u32).stp s7 hfz hy)) (by simp; omega) (by rw [hpl,hcs,hk]; omega)
 rw [show [y].length = 1 from rfl,l_ins3 y hi (by rw [List.length_drop]; omega),hk] at hC4
 refine WL.go<|WC.rs<|WL.m rfl<|WL.a rfl<|WL.go<|WC.ret<|WQ.tr ?_
 have hln:(xs.take i ++ y :: xs.drop i).length = xs.length + 1:=by rw [List.length_append,List.length_take,List.length_cons,List.length_drop]; omega
 have hR:=Row.of_cs hb4 hBb (by rw [hln]; omega) (by rw [put_length (by rw [hpl,hcs,hl1]; omega),hpl,hcs,hk]) hmx hC4
 rw [hln] at hR
 exact WQ.ret rfl (.tmp rfl .nil) (hR)
theorem en131:Ent 131:=Ent.mk Tryz.func131 (by decide) (by kernel_rfl)
theorem en132:Ent 132:=Ent.mk Tryz.func132 (by decide) (by kernel_rfl)
theorem en133:Ent 133:=Ent.mk Tryz.func133 (by decide) (by kernel_rfl)
theorem en134:Ent 134:=Ent.mk Tryz.func134 (by decide) (by kernel_rfl)
theorem en135:Ent 135:=Ent.mk Tryz.func135 (by decide) (by kernel_rfl)
theorem en136:Ent 136:=Ent.mk Tryz.func136 (by decide) (by kernel_rfl)
theorem en137:Ent 137:=Ent.mk Tryz.func137 (by decide) (by kernel_rfl)
theorem en195:Ent 195:=Ent.mk Tryz.func195 (by decide) (by kernel_rfl)
theorem en239:Ent 239:=Ent.mk Tryz.func239 (by decide) (by kernel_rfl)
theorem en245:Ent 245:=Ent.mk Tryz.func245 (by decide) (by kernel_rfl)
theorem en246:Ent 246:=Ent.mk Tryz.func246 (by decide) (by kernel_rfl)
theorem en247:Ent 247:=Ent.mk Tryz.func247 (by decide) (by kernel_rfl)
theorem en260:Ent 260:=Ent.mk Tryz.func260 (by decide) (by kernel_rfl)
theorem en261:Ent 261:=Ent.mk Tryz.func261 (by decide) (by kernel_rfl)
theorem en262:Ent 262:=Ent.mk Tryz.func262 (by decide) (by kernel_rfl)
section
variable {α:Type} {d:Kn α} {t t' : TW} {g:Tag} {B e:Nat} {xs:List α} {cs:List Value}
theorem put_one {o:Nat} {v:Value} (h:o < cs.length):put cs o [v] = cs.set o v:=by
 unfold put
 rw [List.set_eq_take_append_cons_drop,if_pos h,List.append_assoc]
 rfl
theorem seg_set {k i i' j:Nat} {v:Value} (hj:j < k):seg (cs.set (i * k + j) v) k i' = if i' = i then (seg cs k i).set j v else seg cs k i' := by
 apply List.ext_getElem?
 intro m
 by_cases hm:m < k
 ·have e1:(seg (cs.set (i * k + j) v) k i')[m]? = (cs.set (i * k + j) v)[i' * k + m]?:=by
   unfold seg
   rw [List.getElem?_take,if_pos hm,List.getElem?_drop]
  rw [e1]
  split
  ·rename_i h
   subst h
   rw [List.getElem?_set,List.getElem?_set]
   have e2:(seg cs k i')[m]? = cs[i' * k + m]?:=by
    unfold seg
    rw [List.getElem?_take,if_pos hm,List.getElem?_drop]
   rw [e2]
   have e3:(seg cs k i').length = min k (cs.length - i' * k):=by
    unfold seg
    rw [List.length_take,List.length_drop]
   by_cases hjm:j = m
   ·subst hjm
    rw [if_pos rfl,if_pos rfl,e3]
    by_cases hl:i' * k + j < cs.length
    ·rw [if_pos hl,if_pos (by omega)]
    rw [if_neg hl,if_neg (by omega)]
   rw [if_neg (by omega),if_neg hjm]
  rename_i h
  have hne:i * k + j ≠ i' * k + m:=by
   intro he
   rcases Nat.lt_or_gt_of_ne h with h | h
   ·have h1:(i' + 1) * k ≤ i * k:=Nat.mul_le_mul_right _ h
    rw [Nat.add_mul] at h1
    omega
   have h1:(i + 1) * k ≤ i' * k:=Nat.mul_le_mul_right _ h
   rw [Nat.add_mul] at h1
   omega
  rw [List.getElem?_set_ne hne]
  unfold seg
  rw [List.getElem?_take,if_pos hm,List.getElem?_drop]
 have h1:∀ c:List Value,∀ n,(seg c k n)[m]? = none:=fun c n=>by
  unfold seg
  rw [List.getElem?_take,if_neg hm]
 rw [h1]
 split
 ·rw [List.getElem?_eq_none]
  rw [List.length_set]
  unfold seg
  rw [List.length_take]
  omega
 rw [h1]
theorem Cs.setf {i j:Nat} {x z:α} {v:Value} (h:Cs d t cs xs) (hi:xs[i]? = some x) (hj:j < d.k) (hf:(i + 1) * d.k ≤ cs.length) (hR:∀ c,d.R t x c → d.R t z (c.set j v)):Cs d t (X.put cs (i * d.k + j) [v]) (xs.set i z):=fun n y hn=>by
 rw [Nat.add_mul] at hf
 rw [put_one (by omega),seg_set hj]
 rw [List.getElem?_set] at hn
 by_cases hin:i = n
 ·subst hin
  rw [if_pos rfl]
  rw [if_pos rfl,if_pos (List.getElem?_eq_some_iff.1 hi).1] at hn
  rw [← Option.some.inj hn]
  exact hR _ (h i x hi)
 ·rw [if_neg (fun e=>hin e.symm)]
  rw [if_neg hin] at hn
  exact h n y hn
end
section
variable {α:Type} {dk:Kn α} {c:Ctx} {E:Env} {dd:Option Nat} {ty:TypeId} {pos:String} {af:Array Edge} {gd:Option (Nat × Bool)} {x y:Operand} {v:Value} {t:TW} {g:Tag} {B e:Nat} {xs:List α}
theorem Ef.stE {q b o len cap i:Nat} {z:α} {vs:List Value} (h:ev E x = some (.pointer (some ⟨b,o,none⟩))) (h' : ev E y = some v) (hr:Row t g B e dk (.slice (some ⟨b,0,none⟩) len cap) xs) (ho:o = i * dk.k) (hi:i < xs.length) (hv:v.cells = vs.toArray) (hR:dk.R t z vs) (hq:SzT q dk.k) (hg:g ≠ .fz)
  (hT:c.t0.w.heap.size ≤ B ∨ c.T g):Ef c ⟨dd,.store q x y,ty,pos,af,gd⟩ E t (fun _ t' => Step (fun k=>k = g) t t' ∧ Row t' g B e dk (.slice (some ⟨b,0,none⟩) len cap) (xs.set i z)):=by
 obtain ⟨cs,rfl,hB,hb,hc,hs,hm,hC⟩:=hr.open_
 have hvl:=dk.len hR
 subst ho
 have hfit:i * dk.k + vs.length ≤ cs.length:=by
  have h1:(i + 1) * dk.k ≤ cap * dk.k:=Nat.mul_le_mul_right _ (by omega)
  rw [Nat.add_mul] at h1
  omega
 refine .mk fun hs' a ha K Q hk=>(Ef.st (ty:=ty) (pos:=pos) (af:=af) (g:=gd) (d:=dd) h h' hb hv (dk.one hR) hq hvl hfit (hT.imp (fun h=>Nat.le_trans h hB) id)).out hs' a ha K Q fun v' t' hst hh=>hk v' t' hst ?_
 obtain ⟨hu,hst2,hb2⟩:=hh
 refine ⟨hst2,?_⟩
 have hC2:=(hC.step hst2 (fun e=>hg e.symm)).put (j:=i) (Els.one_ (dk.stp hst2 (fun e=>hg e.symm) hR)) (by omega) (by omega)
 have e1:xs.take i ++ [z] ++ xs.drop (i + [z].length) = xs.set i z:=by
  rw [List.set_eq_take_append_cons_drop,if_pos hi,List.append_assoc]
  rfl
 rw [e1] at hC2
 have:=Row.of_cs (xs:=xs.set i z) hb2 hB (by rw [List.length_set]; exact hc) (by rw [put_length hfit,hs]) hm hC2
 rwa [List.length_set] at this
theorem Ef.stF {q b o len cap i j:Nat} {x0 z:α} {u:Value} (h:ev E x = some (.pointer (some ⟨b,o,none⟩))) (h' : ev E y = some u) (hr:Row t g B e dk (.slice (some ⟨b,0,none⟩) len cap) xs) (ho:o = i * dk.k + j) (hj:j < dk.k) (hi:xs[i]? = some x0) (hv:u.cells = #[u]) (h1:u.oneCell' = true) (hR:∀ t' c,Step (fun k=>k = g) t t' → dk.R t' x0 c → dk.R t' z (c.set j u)) (hq:SzT q 1) (hg:g ≠ .fz)
  (hT:c.t0.w.heap.size ≤ B ∨ c.T g):Ef c ⟨dd,.store q x y,ty,pos,af,gd⟩ E t (fun _ t' => Step (fun k=>k = g) t t' ∧ Row t' g B e dk (.slice (some ⟨b,0,none⟩) len cap) (xs.set i z)):=by
 obtain ⟨cs,rfl,hB,hb,hc,hs,hm,hC⟩:=hr.open_
 subst ho
 have hlt:=(List.getElem?_eq_some_iff.1 hi).1
 have hf:(i + 1) * dk.k ≤ cs.length:=by
  rw [hs]
  exact Nat.mul_le_mul_right _ (by omega)
 have hfit:i * dk.k + j + [u].length ≤ cs.length:=by
  rw [Nat.add_mul] at hf
  simp
  omega
 refine .mk fun hs' a ha K Q hk=>(Ef.st (vs:=[u]) (ty:=ty) (pos:=pos) (af:=af) (g:=gd) (d:=dd) h h' hb hv (fun w hw=>by rw [List.mem_singleton.1 hw]; exact h1) hq rfl hfit (hT.imp (fun h=>Nat.le_trans h hB) id)).out hs' a ha K Q fun v' t' hst hh=>hk v' t' hst ?_
 obtain ⟨hu,hst2,hb2⟩:=hh
 refine ⟨hst2,?_⟩
 have hC2:=(hC.step hst2 (fun e=>hg e.symm)).setf (z:=z) (v:=u) hi hj hf (fun c hc=>hR _ c hst2 hc)
 have:=Row.of_cs (xs:=xs.set i z) hb2 hB (by rw [List.length_set]; exact hc) (by rw [put_length hfit,hs]) hm hC2
 rwa [List.length_set] at this
end
/-! ### Slices that are read while nothing is written -/
section
variable {α:Type} {d:Kn α} {t t' : TW} {g:Tag} {B e:Nat} {v:Value} {xs:List α}
structure Rdb (t:TW) (d:Kn α) (v:Value) (xs:List α):Prop where
 form:∃ A cap,v = .slice A xs.length cap ∧ xs.length ≤ cap
 at_:∀ {i x},xs[i]? = some x → ∃ b o cap c,v = .slice (some ⟨b,o,none⟩) xs.length cap ∧ xs.length ≤ cap ∧ d.R t x c ∧ At t.w b (o + i * d.k) c ∧ b < t.w.heap.size ∧ True
theorem Rdb.step (h:Rdb t d v xs) (s:Step No t t') (_:¬ No Tag.fz):Rdb t' d v xs:=⟨h.form,fun hi=>by
 obtain ⟨b,o,cap,c,h1,h2,h3,h4,h5,_⟩:=h.at_ hi
 exact ⟨b,o,cap,c,h1,h2,d.stp s id h3,h4.step s h5 id,Nat.lt_of_lt_of_le h5 s.size,trivial⟩⟩
theorem Rdb.n (h:Rdb t d v xs) (s:Step No t t'):Rdb t' d v xs:=h.step s id
theorem Sl.rdb (h:Sl t d v xs):Rdb t d v xs:=⟨h.form,fun hi=>by
 obtain ⟨b,o,cap,c,h1,h2,h3,h4,h5,_⟩:=h.at_ hi
 exact ⟨b,o,cap,c,h1,h2,h3,h4,h5,trivial⟩⟩
theorem Row.rdb (h:Row t g B e d v xs):Rdb t d v xs:=⟨h.form,fun hi=>by
 obtain ⟨b,cap,c,h1,h2,h3,h4,h5,_⟩:=h.at_ hi
 exact ⟨b,0,cap,c,h1,h2,h3,by rw [Nat.zero_add]; exact h4,h5,trivial⟩⟩
end
theorem mid_eq (lo hi:Nat) (h:lo + hi ≤ 2000000):IntKind.i64.wrap ((IntKind.u64.wrap ((lo:Int) + (hi:Int))).fdiv (2 ^ min (1:Int).toNat IntKind.u64.bits)) = (((lo + hi) / 2:Nat):Int):=by
 rw [wrapU64 (by omega) (by omega)]
 have:(2 ^ min (1:Int).toNat IntKind.u64.bits:Int) = 2:=rfl
 rw [this,Int.fdiv_eq_ediv_of_nonneg _ (by omega),wrap64 (by omega) (by omega)]
 omega
theorem slices_BinarySearch (v:Value) (xs:List ByteArray) (k:ByteArray) (t:TW) (h:Sl t kStr v xs) (hl:xs.length ≤ 1000000):Cal 188 [v,.string k] t No (fun r _=>r = .tuple #[.int .i64 ((findS xs k).1:Int),.bool (findS xs k).2]):=by
 obtain ⟨A,cap,rfl,hcap⟩:=h.form
 have hbb:=bs_bound (fun m=>(xs[m]?).any fun x=>sLt x k) _ 0 xs.length (Nat.le_refl _) (Nat.zero_le _)
 refine Cal.en Tryz.func188 rfl Tryz.ntmps188<|WC.rs<|WL.a rfl<|WL.a rfl<|WL.go<|WC.rs<|WL.m rfl<|WL.f (Fr.ln rfl Tryz.underlying54)<|WL.a rfl<|WL.go ?_
 refine WC.rs<|WL.m rfl<|WL.a rfl<|WL.a rfl<|WL.go<|WC.seq<|WC.block<|WC.loop (σ:=Nat × Nat) (fun p t' => Sl t' kStr (.slice A xs.length cap) xs ∧ p.1 ≤ p.2 ∧ p.2 ≤ xs.length ∧ bs (fun m=>(xs[m]?).any fun x=>sLt x k) p.1 p.2 = bs (fun m=>(xs[m]?).any fun x=>sLt x k) 0 xs.length ∧ True) (fun p=>[(0,.slice A xs.length cap),(1,.string k),(4,.int .i64 0),(5,.bool false),(6,.int .i64 (xs.length:Int)),(7,.int .i64 (p.1:Int)),(8,.int .i64 (p.2:Int))]) (fun p=>p.2 - p.1) (0,xs.length) ⟨rfl,rfl,rfl,rfl,rfl,rfl,rfl,trivial⟩ ⟨h,Nat.zero_le _,Nat.le_refl _,rfl,trivial⟩ ?_
 rintro ⟨lo,hi⟩ t1 ⟨h,h1,h2,h3,_⟩
 dsimp only at h1 h2 h3
 refine WC.seq<|WC.rs<|WL.m rfl<|WL.m rfl<|WL.f (Fr.bo rfl rfl BO.lt)<|WL.go ?_
 refine WC.condS rfl (fun hcond15=>?_) (fun hcond15=>?_)
 ·have hlt:lo < hi:=by have:=dcT hcond15; omega
  refine WC.skip<|WQ.n<|WC.block<|WC.rs<|WL.m rfl<|WL.m rfl<|WL.f (Fr.bo rfl rfl (BO.add (by omega) (by omega)))<|WL.f (Fr.cv rfl Tryz.underlying3 Tryz.underlying174)<|WL.f (Fr.bo rfl rfl (BO.shr_ (by decide)))<|WL.f (Fr.cv rfl Tryz.underlying174 Tryz.underlying3) ?_
  refine WL.re 21 (v' := .int .i64 (((lo + hi) / 2:Nat):Int)) rfl (congrArg (Value.int .i64) (mid_eq lo hi (by omega)))<|WL.a rfl<|WL.go<|WC.rs<|WL.m rfl<|WL.m rfl ?_
  have hm:(lo + hi) / 2 < xs.length:=by omega
  obtain ⟨b,o,cap,c,e1,hcp,hR,hA,hlb,hfz⟩:=h.at_ (List.getElem?_eq_getElem hm)
  obtain ⟨rfl,_,rfl⟩:=Value.slice.inj e1
  obtain rfl:c = [.string xs[(lo + hi) / 2]]:=hR
  refine WL.f (Fr.ix rfl rfl sl54 (by omega) (by omega))<|WL.r (Rd.ld rfl sc9 (hA.one rfl))<|WL.m rfl<|WL.e (Ef.call rfl en205 (cmp_Less_str _ _ _) (fun _ h=>h.elim)) ?_
  rintro _ t2 ⟨s2,rfl⟩
  have h:=h.n s2
  refine WL.go ?_
  refine WC.condS rfl (fun hcond27=>?_) (fun hcond27=>?_)
  ·have h4:bs (fun m=>(xs[m]?).any fun x=>sLt x k) ((lo + hi) / 2 + 1) hi = bs (fun m=>(xs[m]?).any fun x=>sLt x k) 0 xs.length:=by
    rw [← h3]; conv=>rhs; rw [bs,if_pos hlt]
    rw [if_pos (by rw [List.getElem?_eq_getElem hm]; exact hcond27)]
   exact WC.rg<|WL.m rfl<|WL.f (Fr.bo rfl rfl (BO.add (by omega) (by omega)))<|WL.a rfl<|WL.nil<|WQ.bn<|WQ.again ((lo + hi) / 2 + 1,hi) ⟨rfl,rfl,rfl,rfl,rfl,rfl,rfl,trivial⟩ ⟨h,(by show (lo + hi) / 2 + 1 ≤ hi; omega),h2,h4,trivial⟩ (by show hi - ((lo + hi) / 2 + 1) < hi - lo; omega)
  have h4:bs (fun m=>(xs[m]?).any fun x=>sLt x k) lo ((lo + hi) / 2) = bs (fun m=>(xs[m]?).any fun x=>sLt x k) 0 xs.length:=by
   rw [← h3]; conv=>rhs; rw [bs,if_pos hlt]
   rw [if_neg (by rw [List.getElem?_eq_getElem hm]; exact fun e=>Bool.false_ne_true (hcond27.symm.trans e))]
  exact WC.rg<|WL.m rfl<|WL.a rfl<|WL.nil<|WQ.bn<|WQ.again (lo,(lo + hi) / 2) ⟨rfl,rfl,rfl,rfl,rfl,rfl,rfl,trivial⟩ ⟨h,(by show lo ≤ (lo + hi) / 2; omega),(by show (lo + hi) / 2 ≤ xs.length; omega),h4,trivial⟩ (by show (lo + hi) / 2 - lo < hi - lo; omega)
 have hge:hi ≤ lo:=by have:=dcF hcond15; omega
 have h4:bs (fun m=>(xs[m]?).any fun x=>sLt x k) 0 xs.length = lo:=by rw [← h3,bs,if_neg (by omega)]
 clear h3
 refine WC.exit<|WQ.tx<|WQ.tx<|WQ.bx<|WQ.n<|WC.rs<|WL.m rfl<|WL.m rfl<|WL.m rfl<|WL.f (Fr.bo rfl rfl BO.lt) ?_
 refine WL.m rfl ?_
 refine WL.pin 35 rfl (fun hp35=>?_) (fun hp35=>?_)
 ·have hm:lo < xs.length:=by have:=dcT hp35; omega
  obtain ⟨b,o,cap,c,e1,hcp,hR,hA,hlb,hfz⟩:=h.at_ (List.getElem?_eq_getElem hm)
  obtain ⟨rfl,_,rfl⟩:=Value.slice.inj e1
  obtain rfl:c = [.string xs[lo]]:=hR
  refine WL.m rfl<|WL.m rfl<|WL.f (Fr.ix rfl rfl sl54 (by omega) (by omega))<|WL.r (Rd.ld rfl sc9 (hA.one rfl))<|WL.m rfl<|WL.f (Fr.bo rfl rfl BO.seq)<|WL.m rfl ?_
  refine WL.pin 42 rfl (fun hp42=>?_) (fun hp42=>?_)
  ·refine WL.s<|WL.s<|WL.s<|WL.s<|WL.s<|WL.s<|WL.s<|WL.s<|WL.s<|WL.f (Fr.pkT rfl rfl) ?_
   refine WL.f (Fr.pkT rfl rfl)<|WL.a rfl<|WL.a rfl<|WL.go<|WC.ret ?_
   exact WQ.ret rfl (.tmp rfl (.tmp rfl .nil)) (by have e:=dcT hp42; simp only [findS,h4,List.getElem?_eq_getElem hm,Option.any_some,e,decide_true]; rfl)
  refine WL.m rfl<|WL.m rfl<|WL.f (Fr.ix rfl rfl sl54 (by omega) (by omega))<|WL.r (Rd.ld rfl sc9 (hA.one rfl))<|WL.e (Ef.call rfl en206 (slices_isNaN_str _ _) (fun _ h=>h.elim)) ?_
  rintro _ t3 ⟨s3,rfl⟩
  refine WL.m rfl<|WL.s<|WL.s<|WL.f (Fr.pkF rfl rfl)<|WL.f (Fr.pkF rfl rfl)<|WL.f (Fr.pkT rfl rfl)<|WL.a rfl<|WL.a rfl<|WL.go<|WC.ret ?_
  exact WQ.ret rfl (.tmp rfl (.tmp rfl .nil)) (by have e:=dcF hp42; simp only [findS,h4,List.getElem?_eq_getElem hm,Option.any_some,e,decide_false]; rfl)
 refine WL.s<|WL.s<|WL.s<|WL.s<|WL.s<|WL.s<|WL.s<|WL.s<|WL.s<|WL.s ?_
 refine WL.s<|WL.s<|WL.s<|WL.s<|WL.s<|WL.s<|WL.s<|WL.f (Fr.pkF rfl rfl)<|WL.a rfl<|WL.a rfl ?_
 refine WL.go<|WC.ret ?_
 exact WQ.ret rfl (.tmp rfl (.tmp rfl .nil)) (by have e:=dcF hp35; simp only [findS,h4,List.getElem?_eq_none (show xs.length ≤ lo by omega),Option.any_none]; rfl)
theorem sess_find1 (x:Sess) (q:Int) (t:TW):Cal 195 [.agg (sessC x).toArray,.int .i64 q] t No (fun r _=>r = .int .i64 (cmpI x.id q)):=by
 refine Cal.en Tryz.func195 rfl Tryz.ntmps195<|WC.rs<|WL.e (Ef.bx (.loc 2) (cs:=[.int .i64 x.id,.int .i64 x.status,.int .i64 x.prio,.int .u64 x.til]) rfl) ?_
 rintro _ t1 ⟨b2,rfl,s1,hb2,nb2,_⟩
 refine WL.a rfl<|WL.go<|WC.rs<|WL.q 0 rfl fa134_0<|WL.r (Rd.ld rfl sc3 (hb2.cell rfl))<|WL.m rfl<|WL.e (Ef.call rfl en196 (cmp_Compare_int _ _ _) (fun _ h=>h.elim)) ?_
 rintro _ t2 ⟨s2,rfl⟩
 exact WL.a rfl<|WL.go<|WC.ret<|WQ.ret rfl (.tmp rfl .nil) (rfl)
theorem sess_Purge1 {b:Nat} {g:Tag} (x:Sess) (now:Int) (t:TW) (hb:Bk t b [.int .u64 now] 22 g):Cal 145 [.agg (sessC x).toArray,.pointer (some ⟨b,0,none⟩)] t No (fun r _=>r = .bool (decide (x.til ≤ now))):=by
 refine Cal.en Tryz.func145 rfl Tryz.ntmps145<|WC.rs<|WL.e (Ef.bx (.loc 2) (cs:=[.int .i64 x.id,.int .i64 x.status,.int .i64 x.prio,.int .u64 x.til]) rfl) ?_
 rintro _ t1 ⟨b2,rfl,s1,hb2,nb2,_⟩
 have hb:=hb.n s1
 refine WL.a rfl<|WL.go<|WC.rs<|WL.r (Rd.ld rfl sc22 (hb.cell rfl))<|WL.q 3 rfl fa134_3<|WL.r (Rd.ld rfl sc22 (hb2.cell rfl))<|WL.e (Ef.call rfl en146 (tick_Late _ _ _) (fun _ h=>h.elim)) ?_
 rintro _ t2 ⟨s2,rfl⟩
 exact WL.a rfl<|WL.go<|WC.ret<|WQ.ret rfl (.tmp rfl .nil) (rfl)
theorem slices_BinarySearchFunc (v:Value) (xs:List Sess) (q:Int) (t:TW) (h:Rdb t kSess v xs) (hl:xs.length ≤ 1000000):Cal 194 [v,.int .i64 q,.func (.func 195) #[] #[]] t No (fun r _=>r = .tuple #[.int .i64 ((findI xs q).1:Int),.bool (findI xs q).2]):=by
 obtain ⟨A,cap,rfl,hcap⟩:=h.form
 have hbb:=bs_bound (fun m=>(xs[m]?).any fun x=>decide (x.id < q)) _ 0 xs.length (Nat.le_refl _) (Nat.zero_le _)
 refine Cal.en Tryz.func194 rfl Tryz.ntmps194<|WC.rs<|WL.a rfl<|WL.a rfl<|WL.go<|WC.rs<|WL.m rfl<|WL.f (Fr.ln rfl Tryz.underlying123)<|WL.a rfl<|WL.go ?_
 refine WC.rs<|WL.m rfl<|WL.a rfl<|WL.a rfl<|WL.go<|WC.seq<|WC.block<|WC.loop (σ:=Nat × Nat) (fun p t' => Rdb t' kSess (.slice A xs.length cap) xs ∧ p.1 ≤ p.2 ∧ p.2 ≤ xs.length ∧ bs (fun m=>(xs[m]?).any fun x=>decide (x.id < q)) p.1 p.2 = bs (fun m=>(xs[m]?).any fun x=>decide (x.id < q)) 0 xs.length ∧ True) (fun p=>[(0,.slice A xs.length cap),(1,.int .i64 q),(2,.func (.func 195) #[] #[]),(6,.int .i64 0),(7,.bool false),(8,.int .i64 (xs.length:Int)),(9,.int .i64 (p.1:Int)),(10,.int .i64 (p.2:Int))]) (fun p=>p.2 - p.1) (0,xs.length) ⟨rfl,rfl,rfl,rfl,rfl,rfl,rfl,rfl,trivial⟩ ⟨h,Nat.zero_le _,Nat.le_refl _,rfl,trivial⟩ ?_
 rintro ⟨lo,hi⟩ t1 ⟨h,h1,h2,h3,_⟩
 dsimp only at h1 h2 h3
 refine WC.seq<|WC.rs<|WL.m rfl<|WL.m rfl<|WL.f (Fr.bo rfl rfl BO.lt)<|WL.go ?_
 refine WC.condS rfl (fun hcond17=>?_) (fun hcond17=>?_)
 ·have hlt:lo < hi:=by have:=dcT hcond17; omega
  refine WC.skip<|WQ.n<|WC.block<|WC.rs<|WL.m rfl<|WL.m rfl<|WL.f (Fr.bo rfl rfl (BO.add (by omega) (by omega)))<|WL.f (Fr.cv rfl Tryz.underlying3 Tryz.underlying174)<|WL.f (Fr.bo rfl rfl (BO.shr_ (by decide)))<|WL.f (Fr.cv rfl Tryz.underlying174 Tryz.underlying3) ?_
  refine WL.re 23 (v' := .int .i64 (((lo + hi) / 2:Nat):Int)) rfl (congrArg (Value.int .i64) (mid_eq lo hi (by omega)))<|WL.a rfl<|WL.go<|WC.rs<|WL.m rfl<|WL.m rfl<|WL.m rfl ?_
  have hm:(lo + hi) / 2 < xs.length:=by omega
  obtain ⟨b,o,cap,c,e1,hcp,hR,hA,hlb,hfz⟩:=h.at_ (List.getElem?_eq_getElem hm)
  obtain ⟨rfl,_,rfl⟩:=Value.slice.inj e1
  obtain rfl:c = sessC xs[(lo + hi) / 2]:=hR
  refine WL.f (Fr.ix rfl rfl sl123 (by omega) (by omega))<|WL.r (Rd.la rfl ag134 hA)<|WL.m rfl<|WL.e (Ef.callv (cap:=[]) rfl rfl en195 (sess_find1 xs[(lo + hi) / 2] q _) (fun _ h=>h.elim)) ?_
  rintro _ t2 ⟨s2,rfl⟩
  have h:=h.n s2
  refine WL.f (Fr.bo rfl rfl BO.lt)<|WL.go ?_
  refine WC.condS rfl (fun hcond31=>?_) (fun hcond31=>?_)
  ·have hc31:xs[(lo + hi) / 2].id < q:=by have:=dcT hcond31; unfold cmpI at this; split at this; assumption; split at this <;> omega
   have h4:bs (fun m=>(xs[m]?).any fun x=>decide (x.id < q)) ((lo + hi) / 2 + 1) hi = bs (fun m=>(xs[m]?).any fun x=>decide (x.id < q)) 0 xs.length:=by
    rw [← h3]; conv=>rhs; rw [bs,if_pos hlt]
    rw [if_pos (by rw [List.getElem?_eq_getElem hm]; exact decide_eq_true hc31)]
   exact WC.rg<|WL.m rfl<|WL.f (Fr.bo rfl rfl (BO.add (by omega) (by omega)))<|WL.a rfl<|WL.nil<|WQ.bn<|WQ.again ((lo + hi) / 2 + 1,hi) ⟨rfl,rfl,rfl,rfl,rfl,rfl,rfl,rfl,trivial⟩ ⟨h,(by show (lo + hi) / 2 + 1 ≤ hi; omega),h2,h4,trivial⟩ (by show hi - ((lo + hi) / 2 + 1) < hi - lo; omega)
  have hc31:¬ xs[(lo + hi) / 2].id < q:=by have:=dcF hcond31; unfold cmpI at this; split at this; omega; assumption
  have h4:bs (fun m=>(xs[m]?).any fun x=>decide (x.id < q)) lo ((lo + hi) / 2) = bs (fun m=>(xs[m]?).any fun x=>decide (x.id < q)) 0 xs.length:=by
   rw [← h3]; conv=>rhs; rw [bs,if_pos hlt]
   rw [if_neg (by rw [List.getElem?_eq_getElem hm]; exact fun e=>hc31 (dcT e))]
  exact WC.rg<|WL.m rfl<|WL.a rfl<|WL.nil<|WQ.bn<|WQ.again (lo,(lo + hi) / 2) ⟨rfl,rfl,rfl,rfl,rfl,rfl,rfl,rfl,trivial⟩ ⟨h,(by show lo ≤ (lo + hi) / 2; omega),(by show (lo + hi) / 2 ≤ xs.length; omega),h4,trivial⟩ (by show (lo + hi) / 2 - lo < hi - lo; omega)
 have hge:hi ≤ lo:=by have:=dcF hcond17; omega
 have h4:bs (fun m=>(xs[m]?).any fun x=>decide (x.id < q)) 0 xs.length = lo:=by rw [← h3,bs,if_neg (by omega)]
 clear h3
 refine WC.exit<|WQ.tx<|WQ.tx<|WQ.bx<|WQ.n<|WC.rs<|WL.m rfl<|WL.m rfl<|WL.m rfl<|WL.f (Fr.bo rfl rfl BO.lt) ?_
 refine WL.m rfl ?_
 refine WL.pin 39 rfl (fun hp39=>?_) (fun hp39=>?_)
 ·have hm:lo < xs.length:=by have:=dcT hp39; omega
  obtain ⟨b,o,cap,c,e1,hcp,hR,hA,hlb,hfz⟩:=h.at_ (List.getElem?_eq_getElem hm)
  obtain ⟨rfl,_,rfl⟩:=Value.slice.inj e1
  obtain rfl:c = sessC xs[lo]:=hR
  refine WL.m rfl<|WL.m rfl<|WL.m rfl<|WL.f (Fr.ix rfl rfl sl123 (by omega) (by omega))<|WL.r (Rd.la rfl ag134 hA)<|WL.m rfl<|WL.e (Ef.callv (cap:=[]) rfl rfl en195 (sess_find1 xs[lo] q _) (fun _ h=>h.elim)) ?_
  rintro _ t3 ⟨s3,rfl⟩
  refine WL.f (Fr.bo rfl rfl BO.eq)<|WL.f (Fr.pkT rfl rfl)<|WL.a rfl<|WL.a rfl<|WL.go<|WC.ret ?_
  have e5:decide (cmpI xs[lo].id q = 0) = decide (xs[lo].id = q):=by unfold cmpI; split; (rw [decide_eq_false (by decide),decide_eq_false (by omega)]); split; (rw [decide_eq_false (by decide),decide_eq_false (by omega)]); rw [decide_eq_true rfl,decide_eq_true (by omega)]
  exact WQ.ret rfl (.tmp rfl (.tmp rfl .nil)) (by simp only [findI,h4,List.getElem?_eq_getElem hm,Option.any_some,← e5]; rfl)
 refine WL.s<|WL.s<|WL.s<|WL.s<|WL.s<|WL.s<|WL.s<|WL.s<|WL.f (Fr.pkF rfl rfl)<|WL.a rfl ?_
 refine WL.a rfl<|WL.go<|WC.ret ?_
 exact WQ.ret rfl (.tmp rfl (.tmp rfl .nil)) (by have e:=dcF hp39; simp only [findI,h4,List.getElem?_eq_none (show xs.length ≤ lo by omega),Option.any_none]; rfl)
theorem sess_find (v:Value) (xs:List Sess) (q:Int) (t:TW) (h:Rdb t kSess v xs) (hl:xs.length ≤ 1000000):Cal 177 [v,.int .i64 q] t No (fun r _=>r = .tuple #[.int .i64 ((findI xs q).1:Int),.bool (findI xs q).2]):=by
 refine Cal.en Tryz.func177 rfl Tryz.ntmps177<|WC.rs<|WL.a rfl<|WL.a rfl<|WL.go<|WC.rs<|WL.m rfl<|WL.m rfl<|WL.e (Ef.call rfl en194 (slices_BinarySearchFunc v xs q _ h hl) (fun _ h=>h.elim)) ?_
 rintro _ t1 ⟨s1,rfl⟩
 exact WL.f (Fr.ext rfl rfl)<|WL.f (Fr.ext rfl rfl)<|WL.a rfl<|WL.a rfl<|WL.go<|WC.ret<|WQ.ret rfl (.tmp rfl (.tmp rfl .nil)) (rfl)
theorem slices_IndexFunc {b:Nat} {gb g:Tag} {B:Nat} {v:Value} {xs:List Sess} {now:Int} (t:TW) (h:Row t g B 134 kSess v xs) (hb:Bk t b [.int .u64 now] 22 gb) (hl:xs.length ≤ 1000000):Cal 175 [v,.func (.func 145) #[] #[.pointer (some ⟨b,0,none⟩)]] t No (fun r _=>∃ z:Int,r = .int .i64 z ∧ ((z = -1 ∧ ∀ i (h:i < xs.length),live now xs[i] = true) ∨ ∃ i:Nat,z = (i:Int) ∧ ∃ h:i < xs.length,live now xs[i] = false ∧ ∀ j (hj:j < i),live now xs[j] = true)):=by
 obtain ⟨A,cap,rfl,hcap⟩:=h.form
 refine Cal.en Tryz.func175 rfl Tryz.ntmps175<|WC.rs<|WL.a rfl<|WL.go<|WC.seq<|WC.rs<|WL.m rfl<|WL.f (Fr.ln rfl Tryz.underlying123)<|WL.m rfl<|WL.go ?_
 refine WC.block<|WC.loop (σ:=Nat) (fun k t' => Row t' g B 134 kSess (.slice A xs.length cap) xs ∧ Bk t' b [.int .u64 now] 22 gb ∧ k ≤ xs.length ∧ (∀ j (h:j < xs.length),j < k → live now xs[j] = true) ∧ True) (fun k=>[(0,.slice A xs.length cap),(1,.func (.func 145) #[] #[.pointer (some ⟨b,0,none⟩)]),(7,.int .i64 (xs.length:Int)),(8,.int .i64 (k:Int))]) (fun k=>xs.length - k) 0 ⟨rfl,rfl,rfl,rfl,trivial⟩ ⟨h,hb,Nat.zero_le _,(fun i _ h=>absurd h (Nat.not_lt_zero _)),trivial⟩ ?_
 rintro k t1 ⟨h,hb,hk,hall,_⟩
 refine WC.rs<|WL.f (Fr.bo rfl rfl BO.lt)<|WL.go<|WC.seq ?_
 refine WC.condS rfl (fun hcond9=>?_) (fun hcond9=>?_)
 ·have hlt:k < xs.length:=by have:=dcT hcond9; omega
  refine WC.skip<|WQ.n<|WC.seq<|WC.block<|WC.rs<|WL.m rfl<|WL.a rfl<|WL.go<|WC.rs<|WL.m rfl ?_
  refine WL.m rfl<|WL.m rfl ?_
  obtain ⟨bq,capq,cq,e1,hcp,hR,hA,hlb,hfz⟩:=h.at_ (List.getElem?_eq_getElem hlt)
  obtain ⟨rfl,_,rfl⟩:=Value.slice.inj e1
  obtain rfl:cq = sessC xs[k]:=hR
  rw [← Nat.zero_add (k * kSess.k)] at hA
  refine WL.f (Fr.ix rfl rfl sl123 (by omega) (by omega))<|WL.r (Rd.la rfl ag134 hA)<|WL.e (Ef.callv (cap:=[.pointer (some ⟨b,0,none⟩)]) rfl rfl en145 (sess_Purge1 xs[k] now _ hb) (fun _ h=>h.elim)) ?_
  rintro _ t2 ⟨s2,rfl⟩
  obtain ⟨h,hb⟩:=Q2 (h.n s2) (hb.n s2)
  refine WL.go ?_
  refine WC.condS rfl (fun hcond16=>?_) (fun hcond16=>?_)
  ·refine WC.rs<|WL.m rfl<|WL.a rfl<|WL.go<|WC.ret<|WQ.br<|WQ.tr<|WQ.tr<|WQ.br<|WQ.tr ?_
   exact WQ.ret rfl (.tmp rfl .nil) (⟨_,rfl,.inr ⟨k,rfl,hlt,by unfold live; rw [hcond16]; rfl,fun j hj=>hall j (Nat.lt_trans hj hlt) hj⟩⟩)
  have hall2:∀ j (h:j < xs.length),j < k + 1 → live now xs[j] = true:=fun i h hi=>by
   rcases Nat.lt_succ_iff_lt_or_eq.1 hi with hi | rfl
   ·exact hall i h hi
   unfold live; rw [hcond16]; rfl
  exact WC.skip<|WQ.bn<|WQ.n<|WC.rg<|WL.f (Fr.bo rfl rfl (BO.add (by omega) (by omega)))<|WL.m rfl<|WL.nil<|WQ.again (k + 1) ⟨rfl,rfl,rfl,rfl,trivial⟩ ⟨h,hb,hlt,hall2,trivial⟩ (by omega)
 have hge:xs.length ≤ k:=by have:=dcF hcond9; omega
 exact WC.exit<|WQ.tx<|WQ.tx<|WQ.bx<|WQ.n<|WC.rs<|WL.a rfl<|WL.go<|WC.ret<|WQ.ret rfl (.tmp rfl .nil) (⟨_,rfl,.inl ⟨rfl,fun i h=>hall i h (by omega)⟩⟩)
theorem slices_DeleteFunc {b:Nat} {gb g:Tag} {B:Nat} {v:Value} {xs:List Sess} {now:Int} (t:TW) (hr:Row t g B 134 kSess v xs) (hb:Bk t b [.int .u64 now] 22 gb) (hg:g ≠ .fz) (hgb:gb ≠ g) (hgl:g ≠ .loc 7) (hgb7:gb ≠ .loc 7) (hB:B ≤ t.w.heap.size) (hl:xs.length ≤ 900000):Cal 143 [v,.func (.func 145) #[] #[.pointer (some ⟨b,0,none⟩)]] t (fun z=>z = g) (fun r t' => Row t' g B 134 kSess r (xs.filter (live now))):=by
 have hr0:=hr
 obtain ⟨A,cap,rfl,hcap⟩:=hr.form
 refine Cal.en Tryz.func143 rfl Tryz.ntmps143<|WC.rs<|WL.a rfl<|WL.go<|WC.rs<|WL.m rfl<|WL.m rfl<|WL.e (Ef.call rfl en175 (slices_IndexFunc _ hr hb (by omega)) (fun _ h=>h.elim)) ?_
 rintro _ t1 ⟨s1,z0,rfl,hcase⟩
 obtain ⟨hb,hr⟩:=Q2 (hb.n s1) (hr.n s1)
 refine WL.a rfl<|WL.go<|WC.seq<|WC.rs<|WL.m rfl<|WL.f (Fr.bo rfl rfl BO.eq)<|WL.go ?_
 refine WC.condS rfl (fun hcond12=>?_) (fun hcond12=>?_)
 ·have e0:xs.filter (live now) = xs:=by
   rw [List.filter_eq_self]; intro x hx; obtain ⟨i,hi,rfl⟩:=List.getElem_of_mem hx
   rcases hcase with ⟨_,h⟩ | ⟨i,h1,_⟩
   ·exact h i hi
   have:=dcT hcond12; omega
  exact WC.rs<|WL.m rfl<|WL.a rfl<|WL.go<|WC.ret<|WQ.tr<|WQ.ret rfl (.tmp rfl .nil) (by rw [e0]; exact hr)
 obtain ⟨i0,rfl,hi,hp,hbef⟩:∃ i:Nat,z0 = (i:Int) ∧ ∃ h:i < xs.length,live now xs[i] = false ∧ ∀ j (hj:j < i),live now xs[j] = true:=by
  rcases hcase with ⟨h1,_⟩ | h
  ·exact absurd h1 (dcF hcond12)
  exact h
 obtain ⟨b0,rfl⟩:∃ b0,A = some ⟨b0,0,none⟩:=by
  rcases hr.cases with ⟨_,h2⟩ | ⟨b0,cap2,h1⟩
  ·subst h2; exact absurd hi (Nat.not_lt_zero _)
  exact ⟨b0,(Value.slice.inj h1).1⟩
 obtain ⟨cs0,_,hBb,hb0,_,hcs0,hmx,hC0⟩:=hr.open_
 have hk4:kSess.k = 4:=rfl
 rw [hk4] at hcs0
 have hF:(xs.take i0).filter (live now) = xs.take i0:=by
  rw [List.filter_eq_self]; intro x hx; obtain ⟨i,hi2,rfl⟩:=List.getElem_of_mem hx
  rw [List.getElem_take]; rw [List.length_take] at hi2; exact hbef i (by omega)
 have hF1:(xs.take (i0 + 1)).filter (live now) = xs.take i0:=by rw [List.take_succ_eq_append_getElem hi,List.filter_append,hF,List.filter_cons_of_neg (by rw [hp]; exact Bool.false_ne_true),List.filter_nil,List.append_nil]
 have hF0:xs.take ((xs.take (i0 + 1)).filter (live now)).length = (xs.take (i0 + 1)).filter (live now) ∧ ((xs.take (i0 + 1)).filter (live now)).length = i0:=by
  rw [hF1,List.length_take,Nat.min_eq_left (Nat.le_of_lt hi)]; exact ⟨rfl,rfl⟩
 refine WC.skip<|WQ.n<|WC.seq<|WC.rs<|WL.m rfl<|WL.f (Fr.bo rfl rfl (BO.add (by omega) (by omega)))<|WL.a rfl<|WL.go<|WC.block<|WC.loop (σ:=Nat) (fun k t' => Bk t' b [.int .u64 now] 22 gb ∧ i0 < k ∧ k ≤ xs.length ∧ (∃ cs L,Bk t' b0 cs 134 g ∧ cs.length = cap * 4 ∧ Cs kSess t' cs L ∧ L.length = xs.length ∧ L.take ((xs.take k).filter (live now)).length = (xs.take k).filter (live now) ∧ L.drop k = xs.drop k) ∧ True) (fun k=>[(0,.slice (some ⟨b0,0,none⟩) xs.length cap),(1,.func (.func 145) #[] #[.pointer (some ⟨b,0,none⟩)]),(4,.slice none 0 0),(5,.int .i64 (((xs.take k).filter (live now)).length:Int)),(6,.int .i64 (k:Int))]) (fun k=>xs.length - k) (i0 + 1) ⟨rfl,rfl,rfl,(congrArg (fun z:Nat=>some (Value.int .i64 (z:Int))) hF0.2.symm),rfl,trivial⟩ ⟨hb,(Nat.lt_succ_self _),hi,⟨cs0,xs,hb0,hcs0,hC0,rfl,hF0.1,rfl⟩,trivial⟩ ?_
 rintro k t2 ⟨hb,hik,hk,⟨cs,L,hbb,hcs,hC,hLl,hL1,hL2⟩,_⟩
 refine WC.seq<|WC.rs<|WL.m rfl<|WL.m rfl<|WL.f (Fr.ln rfl Tryz.underlying123)<|WL.f (Fr.bo rfl rfl BO.lt)<|WL.go ?_
 refine WC.condS rfl (fun hcond19=>?_) (fun hcond19=>?_)
 ·have hlt:k < xs.length:=by have:=dcT hcond19; omega
  have hLk:L[k]? = some xs[k]:=by have:=congrArg (fun l=>l[0]?) hL2; simpa [hlt] using this
  have hml:((xs.take k).filter (live now)).length ≤ k:=Nat.le_trans (List.length_filter_le _ _) (by rw [List.length_take]; omega)
  have hAk:=seg_at (k:=4) (i:=k) hbb
  rw [show seg cs 4 k = sessC xs[k] from hC k _ hLk,← Nat.zero_add (k * 4)] at hAk
  have htk:(xs.take (k + 1)).filter (live now) = (xs.take k).filter (live now) ++ [xs[k]].filter (live now):=by rw [List.take_succ_eq_append_getElem hlt,List.filter_append]
  refine WC.skip<|WQ.n<|WC.seq<|WC.block<|WC.rs<|WL.m rfl<|WL.m rfl<|WL.f (Fr.ix rfl rfl sl123 (by omega) (by omega))<|WL.r (Rd.la rfl ag134 hAk)<|WL.e (Ef.al (.loc 7) zr134) ?_
  rintro _ t3 ⟨b7,rfl,s3,hb7,nb7,_⟩
  obtain ⟨hb,hbb⟩:=Q2 (hb.n s3) (hbb.n s3)
  refine WL.e0 (Ef.T [.int .i64 xs[k].id,.int .i64 xs[k].status,.int .i64 xs[k].prio,.int .u64 xs[k].til] rfl rfl hb7 sz134 (.inl nb7)) ?_
  rintro _ t4 ⟨_,s4,hb7'⟩
  have hb7:Bk t4 b7 [.int .i64 xs[k].id,.int .i64 xs[k].status,.int .i64 xs[k].prio,.int .u64 xs[k].til] _ _:=hb7'
  clear hb7'
  obtain ⟨hb,hbb⟩:=Q2 (hb.step s4 hgb7) (hbb.step s4 hgl)
  refine WL.go<|WC.rs<|WL.m rfl<|WL.r (Rd.la rfl ag134 (hb7.at (vs:=[.int .i64 xs[k].id,.int .i64 xs[k].status,.int .i64 xs[k].prio,.int .u64 xs[k].til]) rfl))<|WL.e (Ef.callv (cap:=[.pointer (some ⟨b,0,none⟩)]) rfl rfl en145 (sess_Purge1 xs[k] now _ hb) (fun _ h=>h.elim)) ?_
  rintro _ t5 ⟨s5,rfl⟩
  obtain ⟨hb,hb7,hbb⟩:=Q3 (hb.n s5) (hb7.n s5) (hbb.n s5)
  refine WL.f (Fr.un_not rfl)<|WL.go ?_
  refine WC.condS rfl (fun hcond29=>?_) (fun hcond29=>?_)
  ·have hlv:live now xs[k] = true:=by unfold live; rw [notE hcond29]; rfl
   rw [List.filter_cons_of_pos hlv,List.filter_nil] at htk
   refine WC.rs<|WL.m rfl<|WL.m rfl<|WL.r (Rd.la rfl ag134 (hb7.at (vs:=[.int .i64 xs[k].id,.int .i64 xs[k].status,.int .i64 xs[k].prio,.int .u64 xs[k].til]) rfl))<|WL.f (Fr.ix rfl rfl sl123 (by omega) (by omega))<|WL.e0 (Ef.st (vs:=sessC xs[k]) rfl rfl hbb rfl (by simp [Value.oneCell']) sz134 rfl (by rw [hcs]; simp; omega) (.inr rfl)) ?_
   rintro _ t6 ⟨_,s6,hbb2⟩
   have hb:=hb.step s6 hgb
   generalize hm:((xs.take k).filter (live now)).length = m at *
   rw [Nat.zero_add,Int.toNat_natCast] at hbb2
   have hC2:Cs kSess t2 (put cs (m * 4) (sessC xs[k])) _:=hC.put (j:=m) (Els.one_ (dk:=kSess) (c:=sessC xs[k]) rfl) (by omega) (by rw [hcs,hk4]; omega)
   have hpl:(put cs (m * 4) (sessC xs[k])).length = cap * 4:=by rw [put_length (by rw [hcs]; simp; omega),hcs]
   have hL3:(L.take m ++ [xs[k]] ++ L.drop (m + [xs[k]].length)) = L.set m xs[k]:=by rw [List.set_eq_take_append_cons_drop,if_pos (by omega),List.append_assoc]; rfl
   rw [hL3] at hC2
   have hm1:((xs.take (k + 1)).filter (live now)).length = m + 1:=by rw [htk,List.length_append,hm]; rfl
   have hL4:(L.set m xs[k]).take (m + 1) = (xs.take (k + 1)).filter (live now):=by rw [htk,← hL1,← hL3,List.append_assoc,List.take_append,List.length_take,Nat.min_eq_left (by omega),Nat.add_sub_cancel_left,List.take_take,Nat.min_eq_right (by omega)]; rfl
   have hL5:(L.set m xs[k]).drop (k + 1) = xs.drop (k + 1):=by rw [List.drop_set_of_lt (by omega),← List.drop_drop (i:=1) (j:=k) (l:=L),hL2,List.drop_drop]
   refine WL.go<|WC.rg<|WL.m rfl<|WL.f (Fr.bo rfl rfl (BO.add (by omega) (by omega)))<|WL.a rfl<|WL.nil<|WQ.bn<|WQ.n<|WC.rg<|WL.m rfl ?_
   exact WL.f (Fr.bo rfl rfl (BO.add (by omega) (by omega)))<|WL.a rfl<|WL.nil<|WQ.again (k + 1) ⟨rfl,rfl,rfl,(by rw [hm1]; rfl),rfl,trivial⟩ ⟨hb,(by omega),hlt,⟨_,_,hbb2,hpl,hC2,(by rw [List.length_set]; exact hLl),(by rw [hm1]; exact hL4),hL5⟩,trivial⟩ (by omega)
  have hlv:¬ live now xs[k] = true:=by unfold live; rw [hcond29]; exact Bool.false_ne_true
  rw [List.filter_cons_of_neg hlv,List.filter_nil,List.append_nil] at htk
  exact WC.skip<|WQ.bn<|WQ.n<|WC.rg<|WL.m rfl<|WL.f (Fr.bo rfl rfl (BO.add (by omega) (by omega)))<|WL.a rfl<|WL.nil<|WQ.again (k + 1) ⟨rfl,rfl,rfl,(by rw [htk]; rfl),rfl,trivial⟩ ⟨hb,(by omega),hlt,⟨cs,L,hbb,hcs,hC,hLl,(by rw [htk]; exact hL1),(by rw [← List.drop_drop (i:=1) (j:=k) (l:=L),hL2,List.drop_drop])⟩,trivial⟩ (by omega)
 have hge:k = xs.length:=by have:=dcF hcond19; omega
 subst hge
 rw [List.take_length] at hL1
 have hfl:(xs.filter (live now)).length < xs.length:=List.length_filter_lt_length_iff_exists.2 ⟨_,List.getElem_mem hi,by rw [hp]; exact Bool.false_ne_true⟩
 refine WC.env [(0,.slice (some ⟨b0,0,none⟩) xs.length cap),(5,.int .i64 ((xs.filter (live now)).length:Int))] ⟨rfl,(by rw [List.take_length]; rfl),trivial⟩<|WC.exit<|WQ.tx<|WQ.tx<|WQ.bx<|WQ.n<|WC.rs<|WL.m rfl<|WL.m rfl<|WL.f (Fr.slB rfl rfl sl123 (by omega) (by omega) (by omega)) ?_
 refine WL.e0 (Ef.clr (k:=4) rfl Tryz.underlying123 zr134 (by omega) hbb rfl (by decide) (by rw [hcs]; omega) (.inr rfl)) ?_
 rintro _ t7 ⟨news2,hn2,_,s7,hbb3⟩
 refine WL.go<|WC.rs<|WL.m rfl<|WL.m rfl<|WL.f (Fr.slH rfl rfl sl123 (by omega) (by omega))<|WL.a rfl<|WL.go<|WC.ret ?_
 rw [Nat.zero_add,Int.toNat_natCast] at hbb3
 have hC3:Cs kSess t7 (put cs ((xs.filter (live now)).length * kSess.k) news2) (xs.filter (live now)):=by
  have:=hC.take (xs.filter (live now)).length
  rw [hL1] at this
  exact (this.step s7 (fun e=>hg e.symm)).tail (Nat.le_refl _) (by rw [hcs,hk4]; omega)
 have hR:=Row.of_cs hbb3 hBb (by omega) (by rw [put_length (by rw [hn2,hcs,Int.toNat_natCast]; omega),hcs,hk4]) hmx hC3
 exact WQ.ret rfl (.tmp rfl .nil) (hR)
end Go.Proofs.YthilcgjhhhmgoaaGreat.X
