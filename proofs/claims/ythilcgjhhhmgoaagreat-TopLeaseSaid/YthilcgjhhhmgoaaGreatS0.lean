/- One part of the proof: XBase, PBase, XOps, XTypes, XDraw, XRow, XKinds, XOpen, PModel, POrd, POmap, PSweep, POrd2, PFeed, PHall, PWrite, PMerge, XEls, XIns, XRange. No condition beyond those that each theorem names. -/
import Derived.Test.YthilcgjhhhmgoaaGreatProg
import Derived.OrdersHeld
import Derived.KernelRfl
import Derived.Tactics
import Derived.Laws.AppendOwn
import Derived.Deep.MidRow
import Derived.Laws.CopyRow
import Derived.Deep.LoopGhost
import Derived.Below
import GoSem.Op.IntArith
import GoSem.Op.String
import Derived.Laws.Strings
import Derived.Laws.MakeOwn
import Derived.Maps.AppendAt
import Derived.Deep.Slices
import Derived.DataReads
import Derived.ChangeSame
import Derived.OpenShut
import Derived.Lib.Overlaps
import Derived.RangeFuncSeq
import Derived.RangeFuncLeaves
import Derived.TacticsIn
import Derived.OrdersIn
set_option linter.unusedVariables false
set_option linter.unusedSimpArgs false
set_option linter.unusedSectionVars false
namespace Go.Proofs.YthilcgjhhhmgoaaGreat.X
/-! ### 1. Worlds with tags -/
inductive Tag where
 | fz | ep (a b:Nat) | mp (a b:Nat) | vl (a b:Nat) | al (a b:Nat) | loc (i:Nat) | hall | acts | feed (s:Nat) | ring (s k:Nat) | run | calls | client (i:Nat) | mine (i:Nat) | proc (i j:Nat) | sweep (j:Nat) | nw (N i:Nat) | rrow (s k:Nat) | strs | obj (a b:Nat)
 deriving DecidableEq
structure TW where
 w:World
 own:Nat → Tag
structure Step (T:Tag → Prop) (t t' : TW):Prop where
 os:t'.w.os = t.w.os
 tape:t'.w.tape = t.w.tape
 output:t'.w.output = t.w.output
 size:t.w.heap.size ≤ t'.w.heap.size
 keep:∀ k,k < t.w.heap.size → ¬ T (t.own k) → t'.own k = t.own k ∧ t'.w.heap[k]? = t.w.heap[k]?
theorem Step.refl (T:Tag → Prop) (t:TW):Step T t t:=⟨rfl,rfl,rfl,Nat.le_refl _,fun _ _ _=>⟨rfl,rfl⟩⟩
theorem Step.trans {T:Tag → Prop} {a b c:TW} (h:Step T a b) (k:Step T b c):Step T a c:=
 ⟨k.os.trans h.os,k.tape.trans h.tape,k.output.trans h.output,Nat.le_trans h.size k.size,fun i hi hT=>by
  obtain ⟨h1,h2⟩:=h.keep i hi hT
  obtain ⟨k1,k2⟩:=k.keep i (Nat.lt_of_lt_of_le hi h.size) (by rw [h1]; exact hT)
  exact ⟨k1.trans h1,k2.trans h2⟩⟩
theorem Step.mono {T T' : Tag → Prop} {a b:TW} (h:Step T a b) (hT:∀ g,T g → T' g):Step T' a b:=
 ⟨h.os,h.tape,h.output,h.size,fun i hi hn=>h.keep i hi (fun hg=>hn (hT _ hg))⟩
def No:Tag → Prop:=fun _=>False
theorem Step.no {T:Tag → Prop} {a b:TW} (h:Step No a b):Step T a b:=h.mono (fun _ hg=>hg.elim)
theorem TW.fresh (t:TW):∃ N,∀ k,k < t.w.heap.size → ∀ i,t.own k ≠ .nw N i:=by
 have key:∀ n,∃ N,∀ k,k < n → ∀ M i,N ≤ M → t.own k ≠ .nw M i:=by
  intro n
  induction n with
  | zero=>exact ⟨0,fun k hk=>absurd hk (Nat.not_lt_zero _)⟩
  | succ n ih=>
   obtain ⟨N,hN⟩:=ih
   by_cases h:∃ M i,t.own n = .nw M i
   ·obtain ⟨M0,i0,h0⟩:=h
    refine ⟨max N (M0 + 1),fun k hk M i hM=>?_⟩
    rcases Nat.lt_succ_iff_lt_or_eq.1 hk with hk | rfl
    ·exact hN k hk M i (by omega)
    rw [h0]
    intro e
    have:=(Tag.nw.inj e).1
    omega
   refine ⟨N,fun k hk M i hM=>?_⟩
   rcases Nat.lt_succ_iff_lt_or_eq.1 hk with hk | rfl
   ·exact hN k hk M i hM
   exact fun e=>h ⟨M,i,e⟩
 obtain ⟨N,hN⟩:=key t.w.heap.size
 exact ⟨N,fun k hk i=>hN k hk N i (Nat.le_refl _)⟩
def Bk (t:TW) (b:Nat) (cs:List Value) (ty:TypeId) (g:Tag):Prop:=t.w.heap[b]? = some (.cells cs.toArray ty (0,0)) ∧ t.own b = g
theorem Bk.lt {t:TW} {b:Nat} {cs:List Value} {ty:TypeId} {g:Tag} (h:Bk t b cs ty g):b < t.w.heap.size:=(Array.getElem?_eq_some_iff.1 h.1).1
theorem Bk.step {T:Tag → Prop} {t t' : TW} {b:Nat} {cs:List Value} {ty:TypeId} {g:Tag} (h:Bk t b cs ty g) (s:Step T t t') (hg:¬ T g):Bk t' b cs ty g:=by
 obtain ⟨h1,h2⟩:=s.keep b h.lt (by rw [h.2]; exact hg)
 exact ⟨h2.trans h.1,h1.trans h.2⟩
theorem Bk.n {T:Tag → Prop} {t t' : TW} {b:Nat} {cs:List Value} {ty:TypeId} {g:Tag} (h:Bk t b cs ty g) (s:Step T t t') (hg:¬ T g:=by first | exact id | nofun | (rintro (h | h) <;> cases h) | (rintro (h | h | h) <;> cases h)):Bk t' b cs ty g:=h.step s hg
theorem Bk.cell {t:TW} {b:Nat} {cs:List Value} {ty:TypeId} {g:Tag} (h:Bk t b cs ty g) {o:Nat} {v:Value} (hv:cs[o]? = some v):t.w.cell? ⟨b,o,none⟩ = some v:=by
 simp [World.cell?,h.1,hv]
theorem Bk.frozen {t:TW} {b:Nat} {cs:List Value} {ty:TypeId} {g:Tag} (h:Bk t b cs ty g) (o:Nat):t.w.frozen? ⟨b,o,none⟩ = false:=by
 simp [World.frozen?,h.1]
theorem Bk.ne {t:TW} {b b' : Nat} {cs cs' : List Value} {ty ty' : TypeId} {g g' : Tag} (h:Bk t b cs ty g) (h' : Bk t b' cs' ty' g') (hg:g ≠ g'):b ≠ b' := by
 rintro rfl
 exact hg (h.2.symm.trans h'.2)
structure Upd (b:Nat) (t t' : TW):Prop where
 os:t'.w.os = t.w.os
 tape:t'.w.tape = t.w.tape
 output:t'.w.output = t.w.output
 size:t'.w.heap.size = t.w.heap.size
 keep:∀ k,k ≠ b → t'.own k = t.own k ∧ t'.w.heap[k]? = t.w.heap[k]?
theorem Upd.step {b:Nat} {t t' : TW} (h:Upd b t t') {g:Tag} (hg:t.own b = g):Step (fun x=>x = g) t t' :=
 ⟨h.os,h.tape,h.output,Nat.le_of_eq h.size.symm,fun k _ hn=>h.keep k (fun e=>hn (by subst e; exact hg))⟩
theorem Upd.from {b:Nat} {t t' : TW} (h:Upd b t t') {T:Tag → Prop} {t0:TW} (s:Step T t0 t) (hb:t0.w.heap.size ≤ b ∨ T (t0.own b)):Step T t0 t' :=
 ⟨h.os.trans s.os,h.tape.trans s.tape,h.output.trans s.output,Nat.le_trans s.size (Nat.le_of_eq h.size.symm),fun k hk hn=>by
  have hkb:k ≠ b:=by
   rintro rfl
   rcases hb with hb | hb
   ·omega
   ·exact hn hb
  obtain ⟨h1,h2⟩:=h.keep k hkb
  obtain ⟨k1,k2⟩:=s.keep k hk hn
  exact ⟨h1.trans k1,h2.trans k2⟩⟩
/-! ### 2. Frames -/
abbrev Env:=List (Nat × Value)
def lk:Env → Nat → Option Value
 | [],_=>none
 | (i,v) :: E,t=>bif Nat.beq i t then some v else lk E t
structure Sz where
 n:Nat
 d:Option Nat
def Sz.defers (s:Sz):List Deferred:=match s.d with
 | none=>[]
 | some D=>[{ target:=.collected D,args:=#[] }]
structure Has (n:Sz) (E:Env) (a:Act):Prop where
 sz:a.tmps.size = n.n
 df:a.defers = n.defers
 get:∀ t v,lk E t = some v → a.tmps[t]? = some v
def ev (E:Env):Operand → Option Value
 | .tmp t=>lk E t
 | .const v=>some v
 | .global g=>some (.pointer (some ⟨g,0,none⟩))
 | .func f=>some (.func (.func f) #[] #[])
theorem Has.ev {n:Sz} {E:Env} {a:Act} (h:Has n E a) {x:Operand} {v:Value} (hv:ev E x = some v):a.eval x = v:=by
 cases x with
 | tmp t=>
  have:=h.get t v hv
  simp only [Act.eval,Array.getD_eq_getD_getElem?,this,Option.getD_some]
 | const u=>exact Option.some.inj hv
 | global g=>exact Option.some.inj hv
 | func f=>exact Option.some.inj hv
theorem Has.put {n:Sz} {E:Env} {a:Act} (h:Has n E a) {d:Nat} (hd:d < n.n) (v:Value):Has n ((d,v) :: E) (a.put (some d) v):=by
 refine ⟨by simp [Act.put,h.sz],h.df,fun t u ht=>?_⟩
 simp only [Act.put]
 by_cases e:d = t
 ·subst e
  have:u = v:=by
   simp only [lk,Nat.beq_refl,cond_true] at ht
   exact (Option.some.inj ht).symm
  subst this
  rw [Array.getElem?_setIfInBounds_self_of_lt (by rw [h.sz]; exact hd)]
 have h1:Nat.beq d t = false:=by
  cases hb:Nat.beq d t
  ·rfl
  exact absurd (Nat.eq_of_beq_eq_true hb) e
 simp only [lk,h1,cond_false] at ht
 rw [Array.getElem?_setIfInBounds_ne e]
 exact h.get t u ht
theorem Has.weak {n:Sz} {E E' : Env} {a:Act} (h:Has n E a) (hE:∀ t v,lk E' t = some v → lk E t = some v):Has n E' a:=⟨h.sz,h.df,fun t v ht=>h.get t v (hE t v ht)⟩
def Sub:Env → Env → Prop
 | [],_=>True
 | (i,v) :: E', E=>lk E i = some v ∧ Sub E' E
theorem Sub.get:∀ {E' E:Env},Sub E' E → ∀ t v,lk E' t = some v → lk E t = some v
 | [],_,_,t,v,h=>by cases h
 | (i,u) :: E', E,hs,t,v,h=>by
  cases hb:Nat.beq i t
  ·simp only [lk,hb,cond_false] at h
   exact Sub.get hs.2 t v h
  ·simp only [lk,hb,cond_true] at h
   obtain rfl:=Nat.eq_of_beq_eq_true hb
   rw [← Option.some.inj h]
   exact hs.1
def gd (ops:Array Oper) (E:Env):Option (Nat × Bool) → Option Bool
 | none=>some true
 | some (j,want)=>match (ops[j]?).bind (·.dst) with
  | none=>some false
  | some d=>match lk E d with
   | some (.bool b)=>some (b == want)
   | some (.tuple _)=>some false
   | _=>none
theorem Has.wanted {n:Sz} {E:Env} {a:Act} (h:Has n E a) {ops:Array Oper} {o:Oper} {b:Bool} (hg:gd ops E o.guard = some b):Region.wanted o (yielded ops a.tmps) = b:=by
 unfold Region.wanted
 cases hq:o.guard with
 | none=>
  rw [hq] at hg
  exact Option.some.inj hg
 | some p=>
  obtain ⟨j,want⟩:=p
  rw [hq] at hg
  simp only [gd] at hg
  simp only [yielded]
  cases hd:(ops[j]?).bind (·.dst) with
  | none=>
   simp only [hd] at hg
   simp only [Option.bind_none]
   rw [← Option.some.inj hg]
   rfl
  | some d=>
   simp only [hd] at hg
   simp only [Option.bind_some]
   cases hl:lk E d with
   | none=>simp only [hl] at hg; cases hg
   | some u=>
    simp only [hl] at hg
    rw [h.get d u hl]
    cases u with
    | bool b' =>
     have hg' : some (b' == want) = some b:=hg
     rw [← Option.some.inj hg']
     cases b' <;> cases want <;> rfl
    | tuple vs=>
     have hg' : some false = some b:=hg
     rw [← Option.some.inj hg']
     rfl
    | _=>cases hg
/-! ### 3. One operation -/
noncomputable abbrev P:Program:=Tryz.prog
def Fr (n:Sz) (o:Oper) (E:Env) (v:Value):Prop:=∀ a w,Has n E a → (execOp a.eval o).run P w = .ok (.value v) w
def Rd (n:Sz) (o:Oper) (E:Env) (w:World) (v:Value):Prop:=∀ a,Has n E a → (execOp a.eval o).run P w = .ok (.value v) w
theorem Fr.rd {n:Sz} {o:Oper} {E:Env} {v:Value} (h:Fr n o E v) (w:World):Rd n o E w v:=fun a ha=>h a w ha
/-! ### 4. A region in the text's order -/
structure Ctx where
 n:Sz
 t0:TW
 T:Tag → Prop
structure Ef (c:Ctx) (o:Oper) (E:Env) (t:TW) (Φ:Value → TW → Prop):Prop where
 out:Step c.T c.t0 t → ∀ a,Has c.n E a → ∀ (K:Act → World → Prop) (Q:Exit → Act → World → Prop),(∀ v t', Step c.T c.t0 t' → Φ v t' → K (a.put o.dst v) t'.w) → o.wp P a t.w K Q
def WL (c:Ctx) (ops:Array Oper) (Q:Exit → Act → World → Prop) (l:List Oper) (E:Env) (t:TW):Prop:=
 Step c.T c.t0 t → ∀ a,Has c.n E a → wpList P ops Q l a t.w
section
variable {c:Ctx} {ops:Array Oper} {Q:Exit → Act → World → Prop} {rest:List Oper} {E:Env} {t:TW}
variable {d:Nat} {op:Op} {ty:TypeId} {pos:String} {af:Array Edge} {g:Option (Nat × Bool)} {v:Value}
theorem WL.r (h:Rd c.n ⟨some d,op,ty,pos,af,g⟩ E t.w v) (k:WL c ops Q rest ((d,v) :: E) t) (hg:gd ops E g = some true:=by rfl) (hd:Nat.blt d c.n.n = true:=by rfl) :
  WL c ops Q (⟨some d,op,ty,pos,af,g⟩ :: rest) E t:=fun hs a ha=>by
 refine wpList_step fun K hK=>?_
 rw [if_pos (ha.wanted (o:=⟨some d,op,ty,pos,af,g⟩) hg)]
 unfold Oper.wp
 rw [h a ha]
 exact hK _ _ (k hs _ (ha.put (Nat.le_of_ble_eq_true hd) v))
theorem WL.f (h:Fr c.n ⟨some d,op,ty,pos,af,g⟩ E v) (k:WL c ops Q rest ((d,v) :: E) t) (hg:gd ops E g = some true:=by rfl) (hd:Nat.blt d c.n.n = true:=by rfl) :
  WL c ops Q (⟨some d,op,ty,pos,af,g⟩ :: rest) E t:=WL.r (h.rd t.w) k hg hd
theorem WL.s (k:WL c ops Q rest ((d,undef) :: E) t) (hg:gd ops E g = some false:=by rfl) (hd:Nat.blt d c.n.n = true:=by rfl) :
  WL c ops Q (⟨some d,op,ty,pos,af,g⟩ :: rest) E t:=fun hs a ha=>by
 refine wpList_step fun K hK=>?_
 rw [if_neg (by rw [ha.wanted (o:=⟨some d,op,ty,pos,af,g⟩) hg]; exact Bool.false_ne_true)]
 exact hK _ _ (k hs _ (ha.put (Nat.le_of_ble_eq_true hd) _))
theorem WL.e {Φ:Value → TW → Prop} (h:Ef c ⟨some d,op,ty,pos,af,g⟩ E t Φ) (k:∀ v t', Φ v t' → WL c ops Q rest ((d,v) :: E) t')
  (hg:gd ops E g = some true:=by rfl) (hd:Nat.blt d c.n.n = true:=by rfl):WL c ops Q (⟨some d,op,ty,pos,af,g⟩ :: rest) E t:=fun hs a ha=>by
 refine wpList_step fun K hK=>?_
 rw [if_pos (ha.wanted (o:=⟨some d,op,ty,pos,af,g⟩) hg)]
 exact h.out hs a ha K Q fun v t' hs' hp=>hK _ _ (k v t' hp hs' _ (ha.put (Nat.le_of_ble_eq_true hd) v))
theorem WL.e0 {Φ:Value → TW → Prop} (h:Ef c ⟨none,op,ty,pos,af,g⟩ E t Φ) (k:∀ v t', Φ v t' → WL c ops Q rest E t')
  (hg:gd ops E g = some true:=by rfl):WL c ops Q (⟨none,op,ty,pos,af,g⟩ :: rest) E t:=fun hs a ha=>by
 refine wpList_step fun K hK=>?_
 rw [if_pos (ha.wanted (o:=⟨none,op,ty,pos,af,g⟩) hg)]
 exact h.out hs a ha K Q fun v t' hs' hp=>hK _ _ (k v t' hp hs' _ ha)
theorem WL.s0 (k:WL c ops Q rest E t) (hg:gd ops E g = some false:=by rfl):WL c ops Q (⟨none,op,ty,pos,af,g⟩ :: rest) E t:=fun hs a ha=>by
 refine wpList_step fun K hK=>?_
 rw [if_neg (by rw [ha.wanted (o:=⟨none,op,ty,pos,af,g⟩) hg]; exact Bool.false_ne_true)]
 exact hK _ _ (k hs _ ha)
/-! ### 5. Code -/
def WQ (c:Ctx) (Q:Exit → Act → World → Prop) (e:Exit) (E:Env) (t:TW):Prop:=Step c.T c.t0 t → ∀ a,Has c.n E a → Q e a t.w
def WC (c:Ctx) (x:Code) (Q:Exit → Act → World → Prop) (E:Env) (t:TW):Prop:=Step c.T c.t0 t → ∀ a,Has c.n E a → x.wp P Q a t.w
variable {x y:Code} {Q' : Exit → Act → World → Prop} {K:Act → World → Prop} {id:Nat}
theorem WL.nil (h:WQ c Q .normal E t):WL c ops Q [] E t:=fun hs a ha=>wpList_nil (h hs a ha)
theorem WQ.n (h:WC c y Q' E t):WQ c (Exit.then (y.wp P Q') Q) .normal E t:=h
theorem WQ.tx (h:WQ c Q (.exit id) E t):WQ c (Exit.then K Q) (.exit id) E t:=h
theorem WQ.tr (h:WQ c Q .ret E t):WQ c (Exit.then K Q) .ret E t:=h
theorem WQ.bn (h:WQ c Q .normal E t):WQ c (Exit.inBlock id Q) .normal E t:=h
theorem WQ.br (h:WQ c Q .ret E t):WQ c (Exit.inBlock id Q) .ret E t:=h
theorem WQ.bx (h:WQ c Q .normal E t):WQ c (Exit.inBlock id Q) (.exit id) E t:=fun hs a ha=>by
 simp only [Exit.inBlock,↓reduceIte]
 exact h hs a ha
theorem WQ.by_ {id' : Nat} (h:WQ c Q (.exit id') E t) (hne:Nat.beq id' id = false:=by rfl):WQ c (Exit.inBlock id Q) (.exit id') E t:=fun hs a ha=>by
 have:id' ≠ id:=fun e=>by
  subst e
  rw [Nat.beq_refl] at hne
  cases hne
 simp only [Exit.inBlock,if_neg this]
 exact h hs a ha
theorem WC.seq (h:WC c x (Exit.then (y.wp P Q) Q) E t):WC c (.seq x y) Q E t:=fun hs a ha=>wp_seq (h hs a ha)
theorem WC.rg {l:List Oper} (h:WL c l.toArray Q l E t):WC c (.region id l.toArray false) Q E t:=fun hs a ha=>wp_region_lit (h hs a ha)
theorem WC.rs {l:List Oper} (h:WL c l.toArray (Exit.then (y.wp P Q) Q) l E t):WC c (.seq (.region id l.toArray false) y) Q E t:=.seq (.rg h)
theorem WL.go (h:WC c y Q' E t):WL c ops (Exit.then (y.wp P Q') Q) [] E t:=.nil (.n h)
theorem WC.cond {o:Operand} {b:Bool} (hc:ev E o = some (.bool b)) (ht:b = true → WC c x Q E t) (hf:b = false → WC c y Q E t):WC c (.cond o x y) Q E t:=fun hs a ha=>
 wp_cond_split (ha.ev hc) (fun h=>ht h hs a ha) (fun h=>hf h hs a ha)
theorem WC.condT {o:Operand} (h:WC c x Q E t) (hc:ev E o = some (.bool true):=by rfl):WC c (.cond o x y) Q E t:=fun hs a ha=>wp_cond_true (ha.ev hc) (h hs a ha)
theorem WC.condF {o:Operand} (h:WC c y Q E t) (hc:ev E o = some (.bool false):=by rfl):WC c (.cond o x y) Q E t:=fun hs a ha=>wp_cond_false (ha.ev hc) (h hs a ha)
theorem WC.block (h:WC c x (Exit.inBlock id Q) E t):WC c (.block id x) Q E t:=fun hs a ha=>wp_block (h hs a ha)
theorem WC.exit (h:WQ c Q (.exit id) E t):WC c (.exit id) Q E t:=fun hs a ha=>wp_exit (h hs a ha)
theorem WC.ret (h:WQ c Q .ret E t):WC c .ret Q E t:=fun hs a ha=>wp_ret (h hs a ha)
theorem WC.skip (h:WQ c Q .normal E t):WC c .skip Q E t:=fun hs a ha=>wp_skip (h hs a ha)
theorem WC.env (E' : Env) (hE:Sub E' E) (h:WC c x Q E' t):WC c x Q E t:=fun hs a ha=>h hs a (ha.weak hE.get)
theorem WQ.env {e:Exit} (E' : Env) (hE:Sub E' E) (h:WQ c Q e E' t):WQ c Q e E t:=fun hs a ha=>h hs a (ha.weak hE.get)
theorem WL.env {l:List Oper} (E' : Env) (hE:Sub E' E) (h:WL c ops Q l E' t):WL c ops Q l E t:=fun hs a ha=>h hs a (ha.weak hE.get)
theorem WL.pin {l:List Oper} (s:Nat) {b:Bool} (hl:lk E s = some (.bool b)) (ht:b = true → WL c ops Q l ((s,.bool true) :: E) t) (hf:b = false → WL c ops Q l ((s,.bool false) :: E) t):WL c ops Q l E t:=by
 have key:∀ v,lk E s = some v → ∀ k u,lk ((s,v) :: E) k = some u → lk E k = some u:=fun v hv k u hk=>by
  cases hb:Nat.beq s k
  ·simp only [lk,hb,cond_false] at hk
   exact hk
  simp only [lk,hb,cond_true] at hk
  obtain rfl:=Nat.eq_of_beq_eq_true hb
  rw [hv,hk]
 cases b
 ·exact fun hs a ha=>hf rfl hs a (ha.weak (key _ hl))
 exact fun hs a ha=>ht rfl hs a (ha.weak (key _ hl))
theorem WL.re {l:List Oper} (s:Nat) {v v' : Value} (hl:lk E s = some v) (e:v = v') (h:WL c ops Q l ((s,v') :: E) t):WL c ops Q l E t:=fun hs a ha=>by
 subst e
 refine h hs a (ha.weak fun k u hk=>?_)
 cases hb:Nat.beq s k
 ·simp only [lk,hb,cond_false] at hk
  exact hk
 ·simp only [lk,hb,cond_true] at hk
  obtain rfl:=Nat.eq_of_beq_eq_true hb
  rw [hl,hk]
def Rnd {σ:Type} (c:Ctx) (I:σ → TW → Prop) (F:σ → Env) (m:σ → Nat) (k:Nat):Act → World → Prop:=fun a w=>∃ s t', m s < k ∧ t'.w = w ∧ Step c.T c.t0 t' ∧ I s t' ∧ Has c.n (F s) a
theorem WC.loop {σ:Type} (I:σ → TW → Prop) (F:σ → Env) (m:σ → Nat) (s0:σ) (hE:Sub (F s0) E) (h0:I s0 t)
  (round:∀ s t', I s t' → WC c x (Exit.then (Rnd c I F m (m s)) Q) (F s) t'):WC c (.loop x) Q E t:=fun hs a ha=>by
 refine wp_loop_ghost (fun k a w=>∃ s t', m s = k ∧ t'.w = w ∧ Step c.T c.t0 t' ∧ I s t' ∧ Has c.n (F s) a) (m s0) ⟨s0,t,rfl,rfl,hs,h0,ha.weak hE.get⟩ ?_
 rintro k a' w' ⟨s,t', rfl,rfl,hs', hI,hH⟩
 refine wp_mono (round s t' hI hs' a' hH) fun e _ _ hq=>?_
 cases e with
 | normal=>
  obtain ⟨s2,t2,hlt,hw,h1,h2,h3⟩:=hq
  exact ⟨m s2,hlt,s2,t2,rfl,hw,h1,h2,h3⟩
 | exit id=>exact hq
 | goto l=>exact hq
 | ret=>exact hq
 | panic ch=>exact hq
 | outgrown=>exact hq
theorem WQ.again {σ:Type} {I:σ → TW → Prop} {F:σ → Env} {m:σ → Nat} {k:Nat} (s:σ) (hE:Sub (F s) E) (hI:I s t) (hm:m s < k):WQ c (Exit.then (Rnd c I F m k) Q) .normal E t:=fun hs a ha=>
 ⟨s,t,hm,rfl,hs,hI,ha.weak hE.get⟩
end
/-! ### 6. Calls -/
def Post (T:Tag → Prop) (t:TW) (Φ:Value → TW → Prop):Ending → World → Prop:=fun e w' => ∃ v own', e = .returned v ∧ Step T t ⟨w', own'⟩ ∧ Φ v ⟨w', own'⟩
def Cal (f:FuncId) (args:List Value) (t:TW) (T:Tag → Prop) (Φ:Value → TW → Prop):Prop:=Calls P f args.toArray t.w (Post T t Φ)
theorem Cal.mono {f:FuncId} {args:List Value} {t:TW} {T T' : Tag → Prop} {Φ Φ' : Value → TW → Prop} (h:Cal f args t T Φ) (hT:∀ g,T g → T' g) (hΦ:∀ v t', Step T t t' → Φ v t' → Φ' v t'):Cal f args t T' Φ' := by
 refine Calls.mono h fun e w' hh=>?_
 obtain ⟨v,own', he,hs,hp⟩:=hh
 exact ⟨v,own', he,hs.mono hT,hΦ _ _ hs hp⟩
theorem Cal.post {f:FuncId} {args:List Value} {t:TW} {T:Tag → Prop} {Φ Φ' : Value → TW → Prop} (h:Cal f args t T Φ) (hΦ:∀ v t', Step T t t' → Φ v t' → Φ' v t'):Cal f args t T Φ' := h.mono (fun _=>id) hΦ
def mkEnv:List Value → Nat → Env
 | [],_=>[]
 | v :: vs,i=>(i,v) :: mkEnv vs (i + 1)
theorem lk_mkEnv:∀ (vs:List Value) (i t:Nat) (v:Value),lk (mkEnv vs i) t = some v → i ≤ t ∧ vs[t - i]? = some v
 | [],_,_,_,h=>by cases h
 | u :: vs,i,t,v,h=>by
  simp only [mkEnv,lk] at h
  cases hb:Nat.beq i t
  ·simp only [hb,cond_false] at h
   obtain ⟨h1,h2⟩:=lk_mkEnv vs (i + 1) t v h
   refine ⟨by omega,?_⟩
   rw [show t - i = (t - (i + 1)) + 1 by omega]
   simpa using h2
  ·simp only [hb,cond_true] at h
   obtain rfl:=Nat.eq_of_beq_eq_true hb
   exact ⟨Nat.le_refl _,by simpa using h⟩
inductive RV (E:Env) (w:World):List ResultVar → List Value → Prop where
 | nil:RV E w [] []
 | tmp {s:Nat} {v:Value} {rs:List ResultVar} {vs:List Value} (h:lk E s = some v) (r:RV E w rs vs):RV E w (.tmp s :: rs) (v :: vs)
 | cell {s:Nat} {ty:TypeId} {ad:Addr} {v:Value} {rs:List ResultVar} {vs:List Value} (h:lk E s = some (.pointer (some ad))) (hl:(loadVar ty ad).run P w = .ok v w) (r:RV E w rs vs):RV E w (.cell s ty :: rs) (v :: vs)
def resOf:List Value → Value
 | [v]=>v
 | vs=>.tuple vs.toArray
def rvF (a:Act):ResultVar → Sem Value
 | .tmp t=>pure (a.tmps.getD t undef)
 | .cell s t=>do loadVar t (← asAddr (a.tmps.getD s undef))
theorem rvF_cell (a:Act) (s:Tmp) (ty:TypeId) (w:World) {ad:Addr} (h:a.tmps.getD s undef = .pointer (some ad)):(rvF a (.cell s ty)).run P w = (loadVar ty ad).run P w:=by
 simp only [rvF,h,asAddr,pure_bind]
theorem RV.run {n:Sz} {E:Env} {w:World} {a:Act} (ha:Has n E a):∀ {rs:List ResultVar} {vs:List Value},RV E w rs vs → (rs.mapM (rvF a)).run P w = .ok vs w:=by
 intro rs vs h
 induction h with
 | nil=>simp
 | tmp hl _ ih=>
  have h1:=ha.ev (x:=.tmp _) hl
  simp only [Act.eval] at h1
  rw [List.mapM_cons,Sem.run_bind]
  simp only [rvF,h1,Sem.run_pure,Result.andThen_ok,Sem.run_bind]
  rw [ih]
  rfl
 | cell hl hv _ ih=>
  have h1:=ha.ev (x:=.tmp _) hl
  simp only [Act.eval] at h1
  rw [List.mapM_cons,Sem.run_bind,rvF_cell a _ _ w h1,hv]
  simp only [Result.andThen_ok,Sem.run_bind]
  rw [ih]
  rfl
theorem RV.results {n:Sz} {E:Env} {w:World} {a:Act} (ha:Has n E a) {fn:Func} {rs:List ResultVar} {vs:List Value} (hf:fn.results = rs.toArray) (h:RV E w rs vs):(Go.results fn a.tmps).run P w = .ok (resOf vs) w:=by
 have h1:=RV.run ha h
 have h2:Go.results fn a.tmps = (do let vs ← rs.toArray.mapM (rvF a); pure (if h:vs.size = 1 then vs[0] else .tuple vs)):=by
  unfold Go.results
  rw [hf]
  rfl
 rw [h2,List.mapM_toArray]
 simp only [Sem.run_bind,Sem.run_map,h1,Sem.run_pure,Result.andThen_ok]
 congr 1
 match vs with
 | []=>rfl
 | [v]=>rfl
 | u :: v :: r=>simp [resOf]
theorem Cal.enter {f:FuncId} {fn:Func} {x:Code} {args:List Value} {t:TW} {T:Tag → Prop} {Φ:Value → TW → Prop} {n:Nat} (hf:P.funcs[f]? = some fn) (hb:fn.body = some x) (hn:fn.ntmps = n) (hl:args.length ≤ n)
  (h:WC ⟨⟨n,none⟩,t,T⟩ x (bodyPost P fn (Post T t Φ)) (mkEnv args 0) t):Cal f args t T Φ:=by
 refine calls_of_wp hf hb (h (Step.refl _ _) _ ⟨?_,rfl,fun s v hv=>?_⟩)
 ·simp [hn]
  omega
 obtain ⟨_,h2⟩:=lk_mkEnv args 0 s v hv
 simp only [Nat.sub_zero] at h2
 have hlt:=(List.getElem?_eq_some_iff.1 h2).1
 rw [Array.getElem?_append_left (by simpa using hlt)]
 simpa using h2
section
variable {n:Nat} {t0 t:TW} {T:Tag → Prop} {E:Env} {fn:Func} {Φ:Value → TW → Prop} {rs:List ResultVar} {vs:List Value}
theorem WQ.ret (hf:fn.results = rs.toArray) (hv:RV E t.w rs vs) (hΦ:Φ (resOf vs) t):WQ ⟨⟨n,none⟩,t0,T⟩ (bodyPost P fn (Post T t0 Φ)) .ret E t:=fun hs _ ha=>
 ⟨ha.df,_,RV.results ha hf hv,_,t.own,rfl,hs,hΦ⟩
theorem WQ.end_ (hf:fn.results = rs.toArray) (hv:RV E t.w rs vs) (hΦ:Φ (resOf vs) t):WQ ⟨⟨n,none⟩,t0,T⟩ (bodyPost P fn (Post T t0 Φ)) .normal E t:=fun hs _ ha=>
 ⟨ha.df,_,RV.results ha hf hv,_,t.own,rfl,hs,hΦ⟩
end
theorem dcT {p:Prop} [Decidable p] (h:decide p = true):p:=of_decide_eq_true h
theorem dcF {p:Prop} [Decidable p] (h:decide p = false):¬ p:=of_decide_eq_false h
theorem Q2 {a0 a1:Prop} (h0:a0) (h1:a1):a0 ∧ a1:=⟨h0,h1⟩
theorem Q3 {a0 a1 a2:Prop} (h0:a0) (h1:a1) (h2:a2):a0 ∧ a1 ∧ a2:=⟨h0,h1,h2⟩
theorem Q4 {a0 a1 a2 a3:Prop} (h0:a0) (h1:a1) (h2:a2) (h3:a3):a0 ∧ a1 ∧ a2 ∧ a3:=⟨h0,h1,h2,h3⟩
theorem Q5 {a0 a1 a2 a3 a4:Prop} (h0:a0) (h1:a1) (h2:a2) (h3:a3) (h4:a4):a0 ∧ a1 ∧ a2 ∧ a3 ∧ a4:=⟨h0,h1,h2,h3,h4⟩
theorem Q6 {a0 a1 a2 a3 a4 a5:Prop} (h0:a0) (h1:a1) (h2:a2) (h3:a3) (h4:a4) (h5:a5):a0 ∧ a1 ∧ a2 ∧ a3 ∧ a4 ∧ a5:=⟨h0,h1,h2,h3,h4,h5⟩
theorem Q7 {a0 a1 a2 a3 a4 a5 a6:Prop} (h0:a0) (h1:a1) (h2:a2) (h3:a3) (h4:a4) (h5:a5) (h6:a6):a0 ∧ a1 ∧ a2 ∧ a3 ∧ a4 ∧ a5 ∧ a6:=⟨h0,h1,h2,h3,h4,h5,h6⟩
theorem Q8 {a0 a1 a2 a3 a4 a5 a6 a7:Prop} (h0:a0) (h1:a1) (h2:a2) (h3:a3) (h4:a4) (h5:a5) (h6:a6) (h7:a7):a0 ∧ a1 ∧ a2 ∧ a3 ∧ a4 ∧ a5 ∧ a6 ∧ a7:=⟨h0,h1,h2,h3,h4,h5,h6,h7⟩
theorem Q9 {a0 a1 a2 a3 a4 a5 a6 a7 a8:Prop} (h0:a0) (h1:a1) (h2:a2) (h3:a3) (h4:a4) (h5:a5) (h6:a6) (h7:a7) (h8:a8):a0 ∧ a1 ∧ a2 ∧ a3 ∧ a4 ∧ a5 ∧ a6 ∧ a7 ∧ a8:=⟨h0,h1,h2,h3,h4,h5,h6,h7,h8⟩
theorem Q10 {a0 a1 a2 a3 a4 a5 a6 a7 a8 a9:Prop} (h0:a0) (h1:a1) (h2:a2) (h3:a3) (h4:a4) (h5:a5) (h6:a6) (h7:a7) (h8:a8) (h9:a9):a0 ∧ a1 ∧ a2 ∧ a3 ∧ a4 ∧ a5 ∧ a6 ∧ a7 ∧ a8 ∧ a9:=⟨h0,h1,h2,h3,h4,h5,h6,h7,h8,h9⟩
theorem Q11 {a0 a1 a2 a3 a4 a5 a6 a7 a8 a9 a10:Prop} (h0:a0) (h1:a1) (h2:a2) (h3:a3) (h4:a4) (h5:a5) (h6:a6) (h7:a7) (h8:a8) (h9:a9) (h10:a10):a0 ∧ a1 ∧ a2 ∧ a3 ∧ a4 ∧ a5 ∧ a6 ∧ a7 ∧ a8 ∧ a9 ∧ a10:=⟨h0,h1,h2,h3,h4,h5,h6,h7,h8,h9,h10⟩
theorem Q12 {a0 a1 a2 a3 a4 a5 a6 a7 a8 a9 a10 a11:Prop} (h0:a0) (h1:a1) (h2:a2) (h3:a3) (h4:a4) (h5:a5) (h6:a6) (h7:a7) (h8:a8) (h9:a9) (h10:a10) (h11:a11):a0 ∧ a1 ∧ a2 ∧ a3 ∧ a4 ∧ a5 ∧ a6 ∧ a7 ∧ a8 ∧ a9 ∧ a10 ∧ a11:=⟨h0,h1,h2,h3,h4,h5,h6,h7,h8,h9,h10,h11⟩
theorem Cal.en {f:FuncId} {fn:Func} {x:Code} {args:List Value} {t:TW} {T:Tag → Prop} {Φ:Value → TW → Prop} {n:Nat} (hf:P.funcs[f]? = some fn) (hb:fn.body = some x) (hn:fn.ntmps = n)
  (h:WC ⟨⟨n,none⟩,t,T⟩ x (bodyPost P fn (Post T t Φ)) (mkEnv args 0) t) (hl:args.length ≤ n:=by simp):Cal f args t T Φ:=Cal.enter hf hb hn hl h
def bAnd (k:IntKind) (i j:Int):Int:=k.wrap ((BitVec.ofInt k.bits i &&& BitVec.ofInt k.bits j).toNat)
def bOr (k:IntKind) (i j:Int):Int:=k.wrap ((BitVec.ofInt k.bits i ||| BitVec.ofInt k.bits j).toNat)
def bXor (k:IntKind) (i j:Int):Int:=k.wrap ((BitVec.ofInt k.bits i ^^^ BitVec.ofInt k.bits j).toNat)
def bNot (k:IntKind) (i j:Int):Int:=k.wrap ((BitVec.ofInt k.bits i &&& ~~~(BitVec.ofInt k.bits j)).toNat)
def sLt (x y:ByteArray):Bool:=Op.bytesLess x.toList y.toList
def latchTake (l who:Int):Int × Bool:=if who < 0 ∨ l ≠ 0 then (l,false) else (who + 1,true)
def latchGive (l who:Int):Int × Bool:=if l = 0 ∨ l - 1 ≠ who then (l,false) else (0,true)
def tAdd (a b:Int):Int:=if 18446744073709551615 < a + b then 18446744073709551615 else a + b
def cmpI (a b:Int):Int:=if a < b then -1 else if b < a then 1 else 0
def nameOk (s:ByteArray):Bool:=decide (s.size ≠ 0) && decide (s.size ≤ 16)
def sessRight (id status prio:Int):Bool:=decide (0 ≤ id ∧ id ≤ 255 ∧ 1 ≤ status ∧ status ≤ 9 ∧ 0 ≤ prio ∧ prio ≤ 9)
def cWriting (v:Int):Bool:=decide (v % 2 = 1)
def cBegin (v bound:Int):Int:=if ¬ bound ≤ v ∧ cWriting v = false then v + 1 else v
def cEnd (v:Int):Int:=if cWriting v = true then v + 1 else v
def evenB (b:Int):Int:=b - b % 2
/-! ### Hashes -/
def hStep (h c:Int):Int:=IntKind.u64.wrap (bXor .u64 h (IntKind.u64.wrap c) * 1099511628211)
def hashL (l:List UInt8):Int:=l.foldl (fun h c=>hStep h c.toNat) 14695981039346656037
def stripeOf (u:ByteArray) (n:Int):Int:=if n < 1 then 0 else (hashL u.data.toList).tmod n
/-! ### Data -/
structure Time where
 now:Int
 seq:Int
 closed:Bool
structure Cfg where
 stripes:Int
 sessions:Int
 queue:Int
 watches:Int
 retries:Int
 epochs:Int
 start:Int
structure Pres where
 status:Int
 prio:Int
 live:Int
 deriving DecidableEq
structure Sess where
 id:Int
 status:Int
 prio:Int
 til:Int
structure Event where
 user:ByteArray
 old:Pres
 new:Pres
 seq:Int
structure Change where
 user:ByteArray
 old:Pres
 new:Pres
structure Opr where
 kind:Int
 user:ByteArray
 id:Int
 status:Int
 prio:Int
 ttl:Int
 users:List ByteArray
structure Reply where
 err:Int
 values:List Pres
 events:List Event
 lost:Bool
structure Entry where
 sessions:List Sess
 told:Pres
structure Book where
 keys:List ByteArray
 vals:List Entry
structure Pick where
 kind:Int
 who:Int
 by_:Int
structure Script where
 cfg:Cfg
 clients:List (List Opr)
 picks:List Pick
def cfgRight (c:Cfg):Bool:=decide (1 ≤ c.stripes ∧ c.stripes ≤ 8) && decide (1 ≤ c.sessions ∧ c.sessions ≤ 8) && decide (1 ≤ c.queue ∧ c.queue ≤ 16) && decide (1 ≤ c.watches ∧ c.watches ≤ 8) && decide (0 ≤ c.retries ∧ c.retries ≤ 4)
def badOp (x:Opr):Bool:=
 if x.kind = 1 then !nameOk x.user || !sessRight x.id x.status x.prio
 else if x.kind = 2 ∨ x.kind = 3 then !nameOk x.user || !decide (0 ≤ x.id ∧ x.id ≤ 255)
 else if x.kind = 4 ∨ x.kind = 6 ∨ x.kind = 7 then !nameOk x.user
 else if x.kind = 5 then (x.users.any fun u=>!nameOk u) || !decide (1 ≤ (x.users.length:Int) ∧ (x.users.length:Int) ≤ 8)
 else !decide (x.kind = 8 ∨ x.kind = 9)
def checkS (s:Script):Int:=
 if cfgRight s.cfg = false ∨ s.clients.length = 0 then 1
 else if 8 < s.clients.length ∨ 20000 < s.picks.length then 7
 else if (s.clients.any fun l=>decide (40 < l.length)) = true then 7 else 0
def stripesIn (users:List ByteArray) (n:Int):List Int:=((List.range 8).filter fun (s:Nat)=>users.any fun u=>decide (stripeOf u n = (s:Int))).map fun (s:Nat)=>(s:Int)
def usersOf (x:Opr):List ByteArray:=if x.kind = 4 then [x.user] else if x.kind = 5 then x.users else []
/-! ### 1. Types -/
def Sc (ty:TypeId):Prop:=∃ d,P.underlying ty = some d ∧ d.isRow = false
def SzT (ty:TypeId) (k:Nat):Prop:=(P.info? ty).map (·.size) = some k
def Ag (ty:TypeId) (k:Nat):Prop:=(∃ d,P.underlying ty = some d ∧ d.isRow = true) ∧ SzT ty k
structure Zr (ty:TypeId) (z:Value) (cs:List Value):Prop where
 run:∀ w,(zeroValue ty).run P w = .ok z w
 cells:z.cells = cs.toArray
def FA (s f off:Nat):Prop:=∃ fields fld k,P.underlying s = some (.struct fields) ∧ fields[f]? = some fld ∧ fld.offset = off ∧ SzT fld.type (k + 1)
def SlT (t e k:Nat):Prop:=P.underlying t = some (.slice e) ∧ SzT e k
def ArT (t len e k:Nat):Prop:=P.underlying t = some (.array len e) ∧ SzT e k
def Ent (f:FuncId):Prop:=∀ args w,(callFunc f args).run P w = .ok (.enter f args) w
theorem Ent.mk {f : FuncId} {fn : Func} (h : P.funcs[f]? = some fn) (hn : (fn.name == "runtime.NumGoroutine") = false) (hb : fn.body.isNone = false) : Ent f := fun args w => by
 have h1 : ¬ fn.name = "runtime.NumGoroutine" := by simpa using hn
 have h2:¬ fn.body = none:=by
  intro e
  rw [e] at hb
  cases hb
 simp [callFunc,h,h1,h2]
theorem run_under {ty:TypeId} {d:TypeDesc} (h:P.underlying ty = some d) (w:World):(underlying ty).run P w = .ok d w:=by simp [underlying,h]
theorem SzT.run {ty:TypeId} {k:Nat} (h:SzT ty k) (w:World):(sizeOf ty).run P w = .ok k w:=by
 unfold SzT at h
 cases hq:P.info? ty with
 | none=>simp [hq] at h
 | some i=>
  have:i.size = k:=by simpa [hq] using h
  simp [sizeOf,typeInfo,hq,this]
theorem notE {b c:Bool} (h:(!b) = c):b = !c:=by cases b <;> cases c <;> first | rfl | cases h
theorem add_at (b o k:Nat):(⟨b,o,none⟩:Addr).add k = ⟨b,o + k,none⟩:=by unfold Addr.add; split <;> simp_all
/-! ### 2. On the frame alone -/
section
variable {n:Sz} {E:Env} {d:Option Nat} {ty:TypeId} {pos:String} {af:Array Edge} {g:Option (Nat × Bool)} {x y z:Operand} {v:Value}
theorem Fr.mv (h:ev E x = some v):Fr n ⟨d,.move x,ty,pos,af,g⟩ E v:=fun a w ha=>by simp [execOp,ha.ev h]
theorem Fr.as (h:ev E x = some v):Fr n ⟨d,.assign x,ty,pos,af,g⟩ E v:=fun a w ha=>by simp [execOp,ha.ev h]
theorem Fr.pkT (hc:ev E x = some (.bool true)) (h:ev E y = some v):Fr n ⟨d,.pick x y z,ty,pos,af,g⟩ E v:=fun a w ha=>by simp [execOp,ha.ev hc,ha.ev h,asBool]
theorem Fr.pkF (hc:ev E x = some (.bool false)) (h:ev E z = some v):Fr n ⟨d,.pick x y z,ty,pos,af,g⟩ E v:=fun a w ha=>by simp [execOp,ha.ev hc,ha.ev h,asBool]
theorem Fr.ncP {ad:Addr} (h:ev E x = some (.pointer (some ad))):Fr n ⟨d,.nilCheck x,ty,pos,af,g⟩ E (.pointer (some ad)):=fun a w ha=>by simp [execOp,ha.ev h]
theorem Fr.ncI {t:TypeId} {u:Value} (h:ev E x = some (.iface t u)):Fr n ⟨d,.nilCheck x,ty,pos,af,g⟩ E (.iface t u):=fun a w ha=>by simp [execOp,ha.ev h]
theorem Fr.fa {s f b o off o' : Nat} (h:ev E x = some (.pointer (some ⟨b,o,none⟩))) (hf:FA s f off) (ho:o + off = o' := by rfl):Fr n ⟨d,.fieldAddr s x f,ty,pos,af,g⟩ E (.pointer (some ⟨b,o', none⟩)):=fun a w ha=>by
 obtain ⟨fields,fld,k,h1,h2,h3,h4⟩:=hf
 subst ho
 simp [execOp,ha.ev h,Instr.fieldAt,run_under h1,h2,Instr.sureAddr,fieldPlace,h4.run,h3,add_at]
theorem Fr.ix {t e k b o o' len cap:Nat} {q:IntKind} {i:Int} (h:ev E x = some (.slice (some ⟨b,o,none⟩) len cap)) (hi:ev E y = some (.int q i)) (ht:SlT t e k) (h0:0 ≤ i) (h1:i < len) (ho:o + i.toNat * k = o' := by rfl) :
  Fr n ⟨d,.indexAddr t x y,ty,pos,af,g⟩ E (.pointer (some ⟨b,o', none⟩)):=fun a w ha=>by
 subst ho
 simp [execOp,ha.ev h,ha.ev hi,Instr.indexAt,asIntOf,run_under ht.1,h0,h1,ht.2.run,add_at]
theorem Fr.ixa {t e k b o o' len:Nat} {q:IntKind} {i:Int} (h:ev E x = some (.pointer (some ⟨b,o,none⟩))) (hi:ev E y = some (.int q i)) (ht:ArT t len e k) (h0:0 ≤ i) (h1:i < len) (ho:o + i.toNat * k = o' := by rfl) :
  Fr n ⟨d,.indexAddr t x y,ty,pos,af,g⟩ E (.pointer (some ⟨b,o', none⟩)):=fun a w ha=>by
 subst ho
 simp [execOp,ha.ev h,ha.ev hi,Instr.indexAt,asIntOf,run_under ht.1,h0,h1,ht.2.run,add_at,Instr.sureAddr]
theorem Fr.ext {vs:Array Value} {i:Nat} (h:ev E x = some (.tuple vs)) (hi:vs[i]? = some v):Fr n ⟨d,.extract x i,ty,pos,af,g⟩ E v:=fun a w ha=>by simp [execOp,ha.ev h,Instr.extract,hi]
theorem Fr.un_not {b:Bool} {t:TypeId} (h:ev E x = some (.bool b)):Fr n ⟨d,.unOp .not t x,ty,pos,af,g⟩ E (.bool !b):=fun a w ha=>by simp [execOp,ha.ev h,Op.unary]
theorem Fr.cv {s t:TypeId} {k k' : IntKind} {i:Int} {ds:TypeDesc} (h:ev E x = some (.int k i)) (hs:P.underlying s = some ds) (ht:P.underlying t = some (.int k')):Fr n ⟨d,.convert s t x,ty,pos,af,g⟩ E (.int k' (k'.wrap i)):=fun a w ha=>by
 simp [execOp,ha.ev h,convert,run_under hs,run_under ht,Conv.intToInt]
theorem Fr.mi {t:TypeId} {ds:TypeDesc} (h:ev E x = some v) (ht:P.underlying t = some ds) (hn:(match ds with | .interface _=>false | _=>true) = true):Fr n ⟨d,.makeInterface t x,ty,pos,af,g⟩ E (.iface t v):=fun a w ha=>by
 have hx:=ha.ev h
 cases ds with
 | «interface» ms=>cases hn
 | _=>simp [execOp,hx,Instr.makeInterface,run_under ht]
def evs (E:Env):List Operand → Option (List Value)
 | []=>some []
 | x :: xs=>match ev E x,evs E xs with
  | some v,some vs=>some (v :: vs)
  | _,_=>none
theorem Has.evs {a:Act} (h:Has n E a):∀ {xs:List Operand} {vs:List Value},X.evs E xs = some vs → xs.map a.eval = vs
 | [],vs,hv=>Option.some.inj hv
 | x :: xs,vs,hv=>by
  simp only [X.evs] at hv
  cases h1:X.ev E x with
  | none=>simp [h1] at hv
  | some u=>
   cases h2:X.evs E xs with
   | none=>simp [h1,h2] at hv
   | some us=>
    simp only [h1,h2] at hv
    rw [← Option.some.inj hv,List.map_cons,h.ev h1,h.evs h2]
theorem Fr.mf {f:FuncId} {xs:List Operand} {vs:List Value} (h:X.evs E xs = some vs):Fr n ⟨d,.makeFunc (.func f) #[] xs.toArray,ty,pos,af,g⟩ E (.func (.func f) #[] vs.toArray):=fun a w ha=>by
 simp [execOp,Instr.makeFunc,ha.evs h]
theorem Fr.ln {t e:TypeId} {A:Option Addr} {len cap:Nat} (h:ev E x = some (.slice A len cap)) (ht:P.underlying t = some (.slice e)):Fr n ⟨d,.call { callee:=.builtin .len,args:=#[x],argTypes:=#[t] },ty,pos,af,g⟩ E (.int .i64 len):=fun a w ha=>by
 simp [execOp,resolve,ha.ev h,invoke,builtin,Builtin.len_,run_under ht,goInt]
theorem Fr.lns {t:TypeId} {s:ByteArray} (h:ev E x = some (.string s)) (ht:P.underlying t = some .string):Fr n ⟨d,.call { callee:=.builtin .len,args:=#[x],argTypes:=#[t] },ty,pos,af,g⟩ E (.int .i64 s.size):=fun a w ha=>by
 simp [execOp,resolve,ha.ev h,invoke,builtin,Builtin.len_,run_under ht,goInt]
theorem Fr.cp {t e:TypeId} {A:Option Addr} {len cap:Nat} (h:ev E x = some (.slice A len cap)) (ht:P.underlying t = some (.slice e)):Fr n ⟨d,.call { callee:=.builtin .cap,args:=#[x],argTypes:=#[t] },ty,pos,af,g⟩ E (.int .i64 cap):=fun a w ha=>by
 simp [execOp,resolve,ha.ev h,invoke,builtin,Builtin.cap_,run_under ht,goInt]
theorem Fr.mx {k:IntKind} {i j:Int} {ts:Array TypeId} (h:ev E x = some (.int k i)) (h' : ev E y = some (.int k j)):Fr n ⟨d,.call { callee:=.builtin .max,args:=#[x,y],argTypes:=ts },ty,pos,af,g⟩ E (.int k (max i j)):=fun a w ha=>by
 have:(if j > i then j else i) = max i j:=by omega
 simp [execOp,resolve,ha.ev h,ha.ev h', invoke,builtin,Builtin.max_,Builtin.max2,this]
def BO (op:BinOp) (t:TypeId) (u v r:Value):Prop:=∀ (x y:Operand) (w:World),(do eqGuard op t x y u v; binOp op t u v:Sem Value).run P w = .ok r w
theorem Fr.bo {op:BinOp} {t t' : TypeId} {u u' r:Value} (h:ev E x = some u) (h' : ev E y = some u') (hb:BO op t u u' r):Fr n ⟨d,.binOp op t x y t', ty,pos,af,g⟩ E r:=fun a w ha=>by
 simp only [execOp,ha.ev h,ha.ev h']
 rw [Sem.run_bind,hb x y w]
 rfl
theorem Fr.bd {t:TypeId} {ps:List (Nat × Operand)} {vs:List (Nat × Value)} {cs:Array Value} (hp:ps.map (fun p=>(p.1,(ev E p.2))) = vs.map (fun p=>(p.1,some p.2))) (hb:∀ w,(Instr.build t vs.toArray).run P w = .ok (.agg cs) w) :
  Fr n ⟨d,.build t ps.toArray,ty,pos,af,g⟩ E (.agg cs):=fun a w ha=>by
 have:ps.map (fun p=>(p.1,a.eval p.2)) = vs:=by
  clear hb
  induction ps generalizing vs with
  | nil=>
   cases vs with
   | nil=>rfl
   | cons v vs=>cases hp
  | cons p ps ih=>
   cases vs with
   | nil=>cases hp
   | cons v vs=>
    simp only [List.map_cons,List.cons.injEq,Prod.mk.injEq] at hp
    rw [List.map_cons,ih hp.2,hp.1.1,ha.ev hp.1.2]
 simp only [execOp,List.map_toArray]
 rw [show (List.map (fun x=>match x with | (i,x)=>(i,a.eval x)) ps) = vs from this,Sem.run_bind,hb w]
 rfl
end
section
variable {k:IntKind} {i j:Int} {t:TypeId}
theorem BO.add_:BO .add t (.int k i) (.int k j) (.int k (k.wrap (i + j))):=fun x y w=>by simp [eqGuard,binOp,Op.intArith]
theorem BO.sub_:BO .sub t (.int k i) (.int k j) (.int k (k.wrap (i - j))):=fun x y w=>by simp [eqGuard,binOp,Op.intArith]
theorem BO.mul_:BO .mul t (.int k i) (.int k j) (.int k (k.wrap (i * j))):=fun x y w=>by simp [eqGuard,binOp,Op.intArith]
theorem wrap64 {a:Int} (h0:-9223372036854775808 ≤ a) (h1:a ≤ 9223372036854775807):IntKind.i64.wrap a = a:=by
 simp only [IntKind.wrap,IntKind.bits,IntKind.signed]
 simp
 omega
theorem BO.add (h0:-9223372036854775808 ≤ i + j) (h1:i + j ≤ 9223372036854775807):BO .add t (.int .i64 i) (.int .i64 j) (.int .i64 (i + j)):=by
 have:=BO.add_ (k:=.i64) (i:=i) (j:=j) (t:=t)
 rwa [wrap64 h0 h1] at this
theorem BO.sub (h0:-9223372036854775808 ≤ i - j) (h1:i - j ≤ 9223372036854775807):BO .sub t (.int .i64 i) (.int .i64 j) (.int .i64 (i - j)):=by
 have:=BO.sub_ (k:=.i64) (i:=i) (j:=j) (t:=t)
 rwa [wrap64 h0 h1] at this
theorem wrapU64 {a:Int} (h0:0 ≤ a) (h1:a ≤ 18446744073709551615):IntKind.u64.wrap a = a:=by
 simp only [IntKind.wrap,IntKind.bits,IntKind.signed]
 simp
 omega
theorem BO.addU (h0:0 ≤ i + j) (h1:i + j ≤ 18446744073709551615):BO .add t (.int .u64 i) (.int .u64 j) (.int .u64 (i + j)):=by
 have:=BO.add_ (k:=.u64) (i:=i) (j:=j) (t:=t)
 rwa [wrapU64 h0 h1] at this
theorem BO.subU (h0:0 ≤ i - j) (h1:i - j ≤ 18446744073709551615):BO .sub t (.int .u64 i) (.int .u64 j) (.int .u64 (i - j)):=by
 have:=BO.sub_ (k:=.u64) (i:=i) (j:=j) (t:=t)
 rwa [wrapU64 h0 h1] at this
theorem BO.and_:BO .and t (.int k i) (.int k j) (.int k (bAnd k i j)):=fun x y w=>by simp [eqGuard,binOp,Op.intBits,bAnd]
theorem BO.or_:BO .or t (.int k i) (.int k j) (.int k (bOr k i j)):=fun x y w=>by simp [eqGuard,binOp,Op.intBits,bOr]
theorem BO.xor_:BO .xor t (.int k i) (.int k j) (.int k (bXor k i j)):=fun x y w=>by simp [eqGuard,binOp,Op.intBits,bXor]
theorem BO.andNot_:BO .andNot t (.int k i) (.int k j) (.int k (bNot k i j)):=fun x y w=>by simp [eqGuard,binOp,Op.intBits,bNot]
theorem BO.shl_ {k' : IntKind} (h:0 ≤ j):BO .shl t (.int k i) (.int k' j) (.int k (k.wrap (i * 2 ^ min j.toNat k.bits))):=fun x y w=>by
 have h1:¬ j < 0:=by omega
 simp [eqGuard,binOp,Op.shift,h1]
theorem BO.shr_ {k' : IntKind} (h:0 ≤ j):BO .shr t (.int k i) (.int k' j) (.int k (i.fdiv (2 ^ min j.toNat k.bits))):=fun x y w=>by
 have h1:¬ j < 0:=by omega
 simp [eqGuard,binOp,Op.shift,h1]
theorem BO.rem_ (h:j ≠ 0):BO .rem t (.int k i) (.int k j) (.int k (i.tmod j)):=fun x y w=>by simp [eqGuard,binOp,Op.intDiv,h]
theorem BO.quo_ (h:j ≠ 0):BO .quo t (.int k i) (.int k j) (.int k (k.wrap (i.tdiv j))):=fun x y w=>by simp [eqGuard,binOp,Op.intDiv,h]
theorem bytes_eq {x y:ByteArray}:(x.toList == y.toList) = decide (x = y):=by
 rw [Bool.eq_iff_iff]
 simp only [beq_iff_eq,decide_eq_true_eq]
 constructor
 ·intro h
  simp only [ByteArray.toList_eq] at h
  exact ByteArray.ext (Array.toList_inj.1 h)
 rintro rfl
 rfl
theorem BO.seq {x y:ByteArray}:BO .eql t (.string x) (.string y) (.bool (decide (x = y))):=fun p q w=>by
 rw [← bytes_eq]
 simp [eqGuard,binOp,Op.stringOp]
theorem BO.sne {x y:ByteArray}:BO .neq t (.string x) (.string y) (.bool (!decide (x = y))):=fun p q w=>by
 rw [← bytes_eq]
 simp [eqGuard,binOp,Op.stringOp]
theorem BO.slt {x y:ByteArray}:BO .lss t (.string x) (.string y) (.bool (sLt x y)):=fun p q w=>by simp [eqGuard,binOp,Op.stringOp,sLt]
theorem BO.eq:BO .eql t (.int k i) (.int k j) (.bool (decide (i = j))):=fun x y w=>by simp [eqGuard,binOp,Op.intCmp]; rfl
theorem BO.ne:BO .neq t (.int k i) (.int k j) (.bool (!decide (i = j))):=fun x y w=>by simp [eqGuard,binOp,Op.intCmp]; rfl
theorem BO.lt:BO .lss t (.int k i) (.int k j) (.bool (decide (i < j))):=fun x y w=>by simp [eqGuard,binOp,Op.intCmp]
theorem BO.le:BO .leq t (.int k i) (.int k j) (.bool (decide (i ≤ j))):=fun x y w=>by simp [eqGuard,binOp,Op.intCmp]
theorem BO.gt:BO .gtr t (.int k i) (.int k j) (.bool (decide (j < i))):=fun x y w=>by simp [eqGuard,binOp,Op.intCmp]
theorem BO.ge:BO .geq t (.int k i) (.int k j) (.bool (decide (j ≤ i))):=fun x y w=>by simp [eqGuard,binOp,Op.intCmp]
theorem Fr.bo' {n:Sz} {E:Env} {d:Option Nat} {ty t' : TypeId} {pos:String} {af:Array Edge} {g:Option (Nat × Bool)} {x y:Operand} {op:BinOp} {u u' r:Value} (h:ev E x = some u) (h' : ev E y = some u')
  (hb:∀ w,(do eqGuard op t x y u u'; binOp op t u u' : Sem Value).run P w = .ok r w):Fr n ⟨d,.binOp op t x y t', ty,pos,af,g⟩ E r:=fun a w ha=>by
 simp only [execOp,ha.ev h,ha.ev h']
 rw [Sem.run_bind,hb w]
 rfl
theorem run_eqI {ms:Array (String × TypeId)} (ht:P.underlying t = some (.interface ms)) (w:World):(Op.equal t .nilIface .nilIface).run P w = .ok true w:=by
 have h1:∀ k,(Op.equalIn (k + 1) t .nilIface .nilIface).run P w = .ok true w:=fun k=>by
  simp only [Op.equalIn,Sem.run_bind,run_under ht,Result.andThen_ok,Sem.run_pure]
 exact h1 9999
theorem run_eqI' {ms:Array (String × TypeId)} {tx:TypeId} {u:Value} (ht:P.underlying t = some (.interface ms)) (w:World):(Op.equal t (.iface tx u) .nilIface).run P w = .ok false w:=by
 have h1:∀ k,(Op.equalIn (k + 1) t (.iface tx u) .nilIface).run P w = .ok false w:=fun k=>by
  simp only [Op.equalIn,Sem.run_bind,run_under ht,Result.andThen_ok,Sem.run_pure]
 exact h1 9999
theorem Fr.nilT {n:Sz} {E:Env} {d:Option Nat} {ty t' : TypeId} {pos:String} {af:Array Edge} {g:Option (Nat × Bool)} {x:Operand} {ms:Array (String × TypeId)} (h:ev E x = some .nilIface) (ht:P.underlying t = some (.interface ms)) :
  Fr n ⟨d,.binOp .eql t x (.const .nilIface) t', ty,pos,af,g⟩ E (.bool true):=Fr.bo' h rfl fun w=>by
 have hg:eqGuard .eql t x (.const .nilIface) .nilIface .nilIface = pure ():=by cases x <;> rfl
 rw [hg,pure_bind]
 show (do pure (Value.bool (← Op.equal t .nilIface .nilIface)):Sem Value).run P w = _
 rw [Sem.run_bind,run_eqI ht]
 rfl
theorem Fr.nilF {n:Sz} {E:Env} {d:Option Nat} {ty t' : TypeId} {pos:String} {af:Array Edge} {g:Option (Nat × Bool)} {x:Operand} {ms:Array (String × TypeId)} {tx:TypeId} {u:Value} (h:ev E x = some (.iface tx u)) (ht:P.underlying t = some (.interface ms)) :
  Fr n ⟨d,.binOp .eql t x (.const .nilIface) t', ty,pos,af,g⟩ E (.bool false):=Fr.bo' h rfl fun w=>by
 have hg:eqGuard .eql t x (.const .nilIface) (.iface tx u) .nilIface = pure ():=rfl
 rw [hg,pure_bind]
 show (do pure (Value.bool (← Op.equal t (.iface tx u) .nilIface)):Sem Value).run P w = _
 rw [Sem.run_bind,run_eqI' ht]
 rfl
end
/-! ### 3. Memory -/
section
variable {c:Ctx} {E:Env} {d:Option Nat} {ty:TypeId} {pos:String} {af:Array Edge} {g:Option (Nat × Bool)} {x y z:Operand} {v:Value} {t:TW}
def At (w:World) (b o:Nat) (cs:List Value):Prop:=∀ j v,cs[j]? = some v → w.cell? ⟨b,o + j,none⟩ = some v
theorem At.one {w:World} {b o:Nat} {cs:List Value} (h:At w b o cs) {v:Value} (hv:cs[0]? = some v):w.cell? ⟨b,o,none⟩ = some v:=h 0 v hv
theorem Bk.at {t:TW} {b:Nat} {cs:List Value} {e:TypeId} {gt:Tag} (h:Bk t b cs e gt) {o:Nat} {vs:List Value} (hv:(cs.drop o).take vs.length = vs):At t.w b o vs:=fun j v hj=>by
 refine h.cell ?_
 rw [← hv,List.getElem?_take] at hj
 split at hj
 ·simpa using hj
 ·cases hj
theorem Rd.ld {n:Sz} {w:World} {q:TypeId} {ad:Addr} (h:ev E x = some (.pointer (some ad))) (hq:Sc q) (hc:w.cell? ad = some v):Rd n ⟨d,.load q x,ty,pos,af,g⟩ E w v:=fun a ha=>by
 obtain ⟨ds,h1,h2⟩:=hq
 have:(isAgg q).run P w = .ok false w:=by
  unfold isAgg
  rw [Sem.run_bind,run_under h1]
  cases ds <;> first | (cases h2; done) | rfl
 simp [execOp,ha.ev h,Instr.loadAt,Instr.sureAddr,loadVar,this,hc]
theorem loadVar_ag {w:World} {q:TypeId} {k b o:Nat} {cs:List Value} (hq:Ag q k) (hk:cs.length = k) (hc:At w b o cs):(loadVar q ⟨b,o,none⟩).run P w = .ok (.agg cs.toArray) w:=by
 obtain ⟨⟨ds,h1,h2⟩,h3⟩:=hq
 subst hk
 exact run_loadVar_mid w b o q cs ds hc h1 h2 h3
theorem Rd.la {n:Sz} {w:World} {q:TypeId} {k b o:Nat} {cs:List Value} (h:ev E x = some (.pointer (some ⟨b,o,none⟩))) (hq:Ag q k) (hc:At w b o cs) (hk:cs.length = k:=by rfl):Rd n ⟨d,.load q x,ty,pos,af,g⟩ E w (.agg cs.toArray):=fun a ha=>by
 simp [execOp,ha.ev h,Instr.loadAt,Instr.sureAddr,loadVar_ag hq hk hc]
def TW.alloc (t:TW) (cs:List Value) (e:TypeId) (gt:Tag):TW:=⟨t.w.alloc (.cells cs.toArray e),fun k=>if k = t.w.heap.size then gt else t.own k⟩
theorem TW.alloc_step (t:TW) (cs:List Value) (e:TypeId) (gt:Tag):Step No t (t.alloc cs e gt):=
 ⟨rfl,rfl,rfl,by simp [TW.alloc],fun k hk _=>⟨by simp only [TW.alloc]; rw [if_neg (by omega)],by first | exact heap_alloc_old t.w _ k hk | exact heap_alloc_old t.w _ hk⟩⟩
theorem TW.alloc_bk (t:TW) (cs:List Value) (e:TypeId) (gt:Tag):Bk (t.alloc cs e gt) t.w.heap.size cs e gt:=⟨heap_alloc_new t.w _,by simp [TW.alloc]⟩
def NewB (c:Ctx) (t:TW) (cs:List Value) (e:TypeId) (gt:Tag) (mk:Nat → Value) (v:Value) (t' : TW):Prop:=∃ b,v = mk b ∧ Step No t t' ∧ Bk t' b cs e gt ∧ c.t0.w.heap.size ≤ b ∧ t.w.heap.size ≤ b
theorem NewB.mk_ {c:Ctx} {t:TW} (hs:Step c.T c.t0 t) (cs:List Value) (e:TypeId) (gt:Tag) (mk:Nat → Value):NewB c t cs e gt mk (mk t.w.heap.size) (t.alloc cs e gt):=
 ⟨_,rfl,t.alloc_step cs e gt,t.alloc_bk cs e gt,hs.size,Nat.le_refl _⟩
theorem Ef.bx {e:TypeId} (gt:Tag) {cs:List Value} (h:ev E x = some v) (hc:v.cells = cs.toArray:=by rfl):Ef c ⟨d,.box e x,ty,pos,af,g⟩ E t (NewB c t cs e gt fun b=>.pointer (some ⟨b,0,none⟩)):=.mk fun hs a ha K Q hk=>by
 unfold Oper.wp
 have:(execOp a.eval ⟨d,.box e x,ty,pos,af,g⟩).run P t.w = .ok (.value (.pointer (some ⟨t.w.heap.size,0,none⟩))) (t.alloc cs e gt).w:=by
  simp [execOp,ha.ev h,Instr.box,newVar,newRow,hc,TW.alloc]
 rw [this]
 exact hk _ _ (hs.trans (t.alloc_step cs e gt).no) (NewB.mk_ hs cs e gt fun b=>.pointer (some ⟨b,0,none⟩))
theorem Ef.al {e:TypeId} (gt:Tag) {z:Value} {cs:List Value} (hz:Zr e z cs):Ef c ⟨d,.alloc e,ty,pos,af,g⟩ E t (NewB c t cs e gt fun b=>.pointer (some ⟨b,0,none⟩)):=.mk fun hs a ha K Q hk=>by
 have h1:=hz.run t.w
 have h2:=hz.cells
 clear hz
 unfold Oper.wp
 have:(execOp a.eval ⟨d,.alloc e,ty,pos,af,g⟩).run P t.w = .ok (.value (.pointer (some ⟨t.w.heap.size,0,none⟩))) (t.alloc cs e gt).w:=by
  simp only [execOp,Instr.alloc,Sem.run_bind,h1,Result.andThen_ok,newVar,newRow,h2,run_newObj,Sem.run_pure]
  rfl
 rw [this]
 exact hk _ _ (hs.trans (t.alloc_step cs e gt).no) (NewB.mk_ hs cs e gt fun b=>.pointer (some ⟨b,0,none⟩))
def put (cs:List Value) (o:Nat) (vs:List Value):List Value:=cs.take o ++ vs ++ cs.drop (o + vs.length)
def TW.set (t:TW) (b:Nat) (cs:List Value):TW:=⟨t.w.setRow b cs.toArray,t.own⟩
theorem TW.set_upd {t:TW} {b:Nat} {cs cs' : List Value} {e:TypeId} {gt:Tag} (h:Bk t b cs e gt):Upd b t (t.set b cs'):=
 ⟨rfl,rfl,rfl,by simp [TW.set,World.setRow],fun k hk=>⟨rfl,setRow_other t.w b k _ hk⟩⟩
theorem TW.set_bk {t:TW} {b:Nat} {cs cs' : List Value} {e:TypeId} {gt:Tag} (h:Bk t b cs e gt):Bk (t.set b cs') b cs' e gt:=⟨setRow_heap t.w b _ _ e _ h.1,h.2⟩
def Stored (t:TW) (b:Nat) (cs:List Value) (e:TypeId) (gt:Tag) (t' : TW):Prop:=Upd b t t' ∧ Step (fun q=>q = gt) t t' ∧ Bk t' b cs e gt
theorem Ef.st {q e:TypeId} {b o k:Nat} {cs vs:List Value} {gt:Tag} (h:ev E x = some (.pointer (some ⟨b,o,none⟩))) (h' : ev E y = some v) (hb:Bk t b cs e gt) (hv:v.cells = vs.toArray) (h1:∀ u ∈ vs,u.oneCell' = true) (hq:SzT q k) (hk:vs.length = k)
  (hfit:o + vs.length ≤ cs.length) (hT:c.t0.w.heap.size ≤ b ∨ c.T gt):Ef c ⟨d,.store q x y,ty,pos,af,g⟩ E t (fun _ t' => Stored t b (put cs o vs) e gt t'):=.mk fun hs a ha K Q hkk=>by
 have hst:=run_storeCells_at P b o e vs 0 cs.toArray t.w hb.1 (by simpa using hfit) h1
 simp only [Nat.add_zero] at hst
 unfold Oper.wp
 have:(execOp a.eval ⟨d,.store q x y,ty,pos,af,g⟩).run P t.w = .ok .skip (t.set b (put cs o vs)).w:=by
  simp [execOp,ha.ev h,ha.ev h', Instr.storeAt,Instr.sureAddr,storeVar,hq.run,hv,hk,hst,TW.set,put]
 rw [this]
 have hu:=TW.set_upd (cs' := put cs o vs) hb
 refine hkk undef _ (hu.from hs ?_) ⟨hu,hu.step hb.2,TW.set_bk hb⟩
 rcases hT with hT | hT
 ·exact .inl hT
 ·by_cases hlt:b < c.t0.w.heap.size
  ·by_cases hT0:c.T (c.t0.own b)
   ·exact .inr hT0
   ·have:=(hs.keep b hlt hT0).1
    rw [hb.2] at this
    rw [this] at hT
    exact .inr hT
  ·exact .inl (by omega)
theorem Ef.call {f:FuncId} {xs:List Operand} {vs:List Value} {ts:Array TypeId} {T:Tag → Prop} {Φ:Value → TW → Prop} (hx:evs E xs = some vs) (hf:Ent f) (h:Cal f vs t T Φ) (hT:∀ q,T q → c.T q) :
  Ef c ⟨d,.call { callee:=.value (.func f),args:=xs.toArray,argTypes:=ts },ty,pos,af,g⟩ E t (fun v t' => Step T t t' ∧ Φ v t'):=.mk fun hs a ha K Q hk=>by
 unfold Oper.wp
 have:(execOp a.eval ⟨d,.call { callee:=.value (.func f),args:=xs.toArray,argTypes:=ts },ty,pos,af,g⟩).run P t.w = .ok (.enter f vs.toArray) t.w:=by
  simp only [execOp,resolve,Act.eval,Deferred.ofValue,invoke,List.map_toArray,ha.evs hx,Sem.run_bind,Sem.run_pure,Result.andThen_ok,Array.empty_append,Array.append_empty]
  exact hf _ _
 rw [this]
 refine Calls.mono h fun e w' hh=>?_
 obtain ⟨v,own', rfl,hs', hp⟩:=hh
 exact hk v ⟨w', own'⟩ (hs.trans (hs'.mono hT)) ⟨hs', hp⟩
theorem from_call {c:Ctx} {t t' : TW} {T:Tag → Prop} (hs:Step c.T c.t0 t) (hs' : Step T t t') (hT:∀ q,T q → c.T q ∨ ∀ k,k < c.t0.w.heap.size → c.t0.own k ≠ q):Step c.T c.t0 t' :=
 ⟨hs'.os.trans hs.os,hs'.tape.trans hs.tape,hs'.output.trans hs.output,Nat.le_trans hs.size hs'.size,fun k hk hn=>by
  obtain ⟨h1,h2⟩:=hs.keep k hk hn
  obtain ⟨k1,k2⟩:=hs'.keep k (Nat.lt_of_lt_of_le hk hs.size) (fun hq=>by
   rcases hT _ hq with h | h
   ·rw [h1] at h
    exact hn h
   ·exact h k hk h1.symm)
  exact ⟨k1.trans h1,k2.trans h2⟩⟩
theorem Ef.callF {f:FuncId} {xs:List Operand} {vs:List Value} {ts:Array TypeId} {T:Tag → Prop} {Φ:Value → TW → Prop} (hx:evs E xs = some vs) (hf:Ent f) (h:Cal f vs t T Φ) (hT:∀ q,T q → c.T q ∨ ∀ k,k < c.t0.w.heap.size → c.t0.own k ≠ q) :
  Ef c ⟨d,.call { callee:=.value (.func f),args:=xs.toArray,argTypes:=ts },ty,pos,af,g⟩ E t (fun v t' => Step T t t' ∧ Φ v t'):=.mk fun hs a ha K Q hk=>by
 unfold Oper.wp
 have:(execOp a.eval ⟨d,.call { callee:=.value (.func f),args:=xs.toArray,argTypes:=ts },ty,pos,af,g⟩).run P t.w = .ok (.enter f vs.toArray) t.w:=by
  simp only [execOp,resolve,Act.eval,Deferred.ofValue,invoke,List.map_toArray,ha.evs hx,Sem.run_bind,Sem.run_pure,Result.andThen_ok,Array.empty_append,Array.append_empty]
  exact hf _ _
 rw [this]
 refine Calls.mono h fun e w' hh=>?_
 obtain ⟨v,own', rfl,hs', hp⟩:=hh
 exact hk v ⟨w', own'⟩ (from_call hs hs' hT) ⟨hs', hp⟩
theorem Ef.callv {f:FuncId} {s:Nat} {cap:List Value} {xs:List Operand} {vs:List Value} {ts:Array TypeId} {T:Tag → Prop} {Φ:Value → TW → Prop} (hc:lk E s = some (.func (.func f) #[] cap.toArray)) (hx:evs E xs = some vs) (hf:Ent f) (h:Cal f (vs ++ cap) t T Φ) (hT:∀ q,T q → c.T q) :
  Ef c ⟨d,.call { callee:=.value (.tmp s),args:=xs.toArray,argTypes:=ts },ty,pos,af,g⟩ E t (fun v t' => Step T t t' ∧ Φ v t'):=.mk fun hs a ha K Q hk=>by
 unfold Oper.wp
 have hcv:=ha.ev (x:=.tmp s) hc
 have:(execOp a.eval ⟨d,.call { callee:=.value (.tmp s),args:=xs.toArray,argTypes:=ts },ty,pos,af,g⟩).run P t.w = .ok (.enter f (vs ++ cap).toArray) t.w:=by
  simp only [execOp,resolve,hcv,Deferred.ofValue,invoke,List.map_toArray,ha.evs hx,Sem.run_bind,Sem.run_pure,Result.andThen_ok,Array.empty_append,List.append_toArray]
  exact hf _ _
 rw [this]
 refine Calls.mono h fun e w' hh=>?_
 obtain ⟨v,own', rfl,hs', hp⟩:=hh
 exact hk v ⟨w', own'⟩ (hs.trans (hs'.mono hT)) ⟨hs', hp⟩
end
section
variable {c:Ctx} {ops:Array Oper} {Q:Exit → Act → World → Prop} {rest:List Oper} {E:Env} {t:TW} {d:Nat} {ty:TypeId} {pos:String} {af:Array Edge} {g:Option (Nat × Bool)} {v:Value} {x:Operand}
theorem WL.m (h:ev E x = some v) (k:WL c ops Q rest ((d,v) :: E) t) (hg:gd ops E g = some true:=by rfl) (hd:Nat.blt d c.n.n = true:=by rfl):WL c ops Q (⟨some d,.move x,ty,pos,af,g⟩ :: rest) E t:=WL.f (Fr.mv h) k hg hd
theorem WL.a (h:ev E x = some v) (k:WL c ops Q rest ((d,v) :: E) t) (hg:gd ops E g = some true:=by rfl) (hd:Nat.blt d c.n.n = true:=by rfl):WL c ops Q (⟨some d,.assign x,ty,pos,af,g⟩ :: rest) E t:=WL.f (Fr.as h) k hg hd
theorem WL.q {s f b o off:Nat} (o' : Nat) (h:ev E x = some (.pointer (some ⟨b,o,none⟩))) (hf:FA s f off) (k:WL c ops Q rest ((d,.pointer (some ⟨b,o', none⟩)) :: E) t) (ho:o + off = o' := by rfl) (hg:gd ops E g = some true:=by rfl) (hd:Nat.blt d c.n.n = true:=by rfl):WL c ops Q (⟨some d,.fieldAddr s x f,ty,pos,af,g⟩ :: rest) E t:=WL.f (Fr.fa h hf ho) k hg hd
theorem Fr.q {n:Sz} {s f b o off:Nat} {d:Option Nat} (o' : Nat) (h:ev E x = some (.pointer (some ⟨b,o,none⟩))) (hf:FA s f off) (ho:o + off = o' := by rfl):Fr n ⟨d,.fieldAddr s x f,ty,pos,af,g⟩ E (.pointer (some ⟨b,o', none⟩)):=Fr.fa h hf ho
theorem Bk.a {T:Tag → Prop} {t t' : TW} {b:Nat} {cs:List Value} {e:TypeId} {gt:Tag} (h:Bk t b cs e gt) (s:Step T t t') {o:Nat} {vs:List Value} (hv:(cs.drop o).take vs.length = vs:=by rfl) (hg:¬ T gt:=by first | exact id | nofun | (rintro (h | h) <;> cases h) | (rintro (h | h | h) <;> cases h)):At t'.w b o vs:=(h.step s hg).at hv
theorem Ef.T {d:Option Nat} {y:Operand} {q e:TypeId} {b o k:Nat} {cs:List Value} (vs:List Value) {gt:Tag} (h:ev E x = some (.pointer (some ⟨b,o,none⟩))) (h' : ev E y = some v) (hb:Bk t b cs e gt) (hq:SzT q k) (hT:c.t0.w.heap.size ≤ b ∨ c.T gt) (hv:v.cells = vs.toArray:=by rfl) (h1:∀ u ∈ vs,u.oneCell' = true:=by simp [Value.oneCell']) (hk:vs.length = k:=by rfl) (hfit:o + vs.length ≤ cs.length:=by simp):Ef c ⟨d,.store q x y,ty,pos,af,g⟩ E t (fun _ t' => Stored t b (put cs o vs) e gt t'):=Ef.st h h' hb hv h1 hq hk hfit hT
end
theorem sc3:Sc 3:=⟨_,Tryz.underlying3,rfl⟩
theorem sc4:Sc 4:=⟨_,Tryz.underlying4,rfl⟩
theorem sc9:Sc 9:=⟨_,Tryz.underlying9,rfl⟩
theorem sc22:Sc 22:=⟨_,Tryz.underlying22,rfl⟩
theorem sc25:Sc 25:=⟨_,Tryz.underlying25,rfl⟩
theorem sc26:Sc 26:=⟨_,Tryz.underlying26,rfl⟩
theorem sc31:Sc 31:=⟨_,Tryz.underlying31,rfl⟩
theorem sc32:Sc 32:=⟨_,Tryz.underlying32,rfl⟩
theorem sc35:Sc 35:=⟨_,Tryz.underlying35,rfl⟩
theorem sc37:Sc 37:=⟨_,Tryz.underlying37,rfl⟩
theorem sc43:Sc 43:=⟨_,Tryz.underlying43,rfl⟩
theorem sc44:Sc 44:=⟨_,Tryz.underlying44,rfl⟩
theorem sc48:Sc 48:=⟨_,Tryz.underlying48,rfl⟩
theorem sc54:Sc 54:=⟨_,Tryz.underlying54,rfl⟩
theorem sc57:Sc 57:=⟨_,Tryz.underlying57,rfl⟩
theorem sc69:Sc 69:=⟨_,Tryz.underlying69,rfl⟩
theorem sc76:Sc 76:=⟨_,Tryz.underlying76,rfl⟩
theorem sc91:Sc 91:=⟨_,Tryz.underlying91,rfl⟩
theorem sc103:Sc 103:=⟨_,Tryz.underlying103,rfl⟩
theorem sc104:Sc 104:=⟨_,Tryz.underlying104,rfl⟩
theorem sc105:Sc 105:=⟨_,Tryz.underlying105,rfl⟩
theorem sc108:Sc 108:=⟨_,Tryz.underlying108,rfl⟩
theorem sc109:Sc 109:=⟨_,Tryz.underlying109,rfl⟩
theorem sc111:Sc 111:=⟨_,Tryz.underlying111,rfl⟩
theorem sc123:Sc 123:=⟨_,Tryz.underlying123,rfl⟩
theorem sc141:Sc 141:=⟨_,Tryz.underlying141,rfl⟩
theorem sc142:Sc 142:=⟨_,Tryz.underlying142,rfl⟩
theorem sc149:Sc 149:=⟨_,Tryz.underlying149,rfl⟩
theorem sc153:Sc 153:=⟨_,Tryz.underlying153,rfl⟩
theorem sc158:Sc 158:=⟨_,Tryz.underlying158,rfl⟩
theorem sc161:Sc 161:=⟨_,Tryz.underlying161,rfl⟩
theorem sc166:Sc 166:=⟨_,Tryz.underlying166,rfl⟩
theorem sc176:Sc 176:=⟨_,Tryz.underlying176,rfl⟩
theorem sc179:Sc 179:=⟨_,Tryz.underlying179,rfl⟩
theorem sc186:Sc 186:=⟨_,Tryz.underlying186,rfl⟩
theorem sc190:Sc 190:=⟨_,Tryz.underlying190,rfl⟩
theorem sc201:Sc 201:=⟨_,Tryz.underlying201,rfl⟩
theorem sc207:Sc 207:=⟨_,Tryz.underlying207,rfl⟩
theorem sc213:Sc 213:=⟨_,Tryz.underlying213,rfl⟩
theorem sc220:Sc 220:=⟨_,Tryz.underlying220,rfl⟩
theorem sc239:Sc 239:=⟨_,Tryz.underlying239,rfl⟩
theorem sc253:Sc 253:=⟨_,Tryz.underlying253,rfl⟩
theorem sz3:SzT 3 1:=by unfold SzT; kernel_rfl
theorem sz4:SzT 4 1:=by unfold SzT; kernel_rfl
theorem sz9:SzT 9 1:=by unfold SzT; kernel_rfl
theorem sz22:SzT 22 1:=by unfold SzT; kernel_rfl
theorem sz24:SzT 24 7:=by unfold SzT; kernel_rfl
theorem sz25:SzT 25 1:=by unfold SzT; kernel_rfl
theorem sz26:SzT 26 1:=by unfold SzT; kernel_rfl
theorem sz28:SzT 28 9:=by unfold SzT; kernel_rfl
theorem sz32:SzT 32 1:=by unfold SzT; kernel_rfl
theorem sz35:SzT 35 1:=by unfold SzT; kernel_rfl
theorem sz37:SzT 37 1:=by unfold SzT; kernel_rfl
theorem sz42:SzT 42 3:=by unfold SzT; kernel_rfl
theorem sz43:SzT 43 1:=by unfold SzT; kernel_rfl
theorem sz44:SzT 44 1:=by unfold SzT; kernel_rfl
theorem sz48:SzT 48 1:=by unfold SzT; kernel_rfl
theorem sz50:SzT 50 8:=by unfold SzT; kernel_rfl
theorem sz53:SzT 53 1:=by unfold SzT; kernel_rfl
theorem sz54:SzT 54 1:=by unfold SzT; kernel_rfl
theorem sz56:SzT 56 7:=by unfold SzT; kernel_rfl
theorem sz57:SzT 57 1:=by unfold SzT; kernel_rfl
theorem sz59:SzT 59 4:=by unfold SzT; kernel_rfl
theorem sz61:SzT 61 18:=by unfold SzT; kernel_rfl
theorem sz69:SzT 69 1:=by unfold SzT; kernel_rfl
theorem sz72:SzT 72 3:=by unfold SzT; kernel_rfl
theorem sz74:SzT 74 8:=by unfold SzT; kernel_rfl
theorem sz76:SzT 76 1:=by unfold SzT; kernel_rfl
theorem sz78:SzT 78 3:=by unfold SzT; kernel_rfl
theorem sz86:SzT 86 1:=by unfold SzT; kernel_rfl
theorem sz91:SzT 91 1:=by unfold SzT; kernel_rfl
theorem sz103:SzT 103 1:=by unfold SzT; kernel_rfl
theorem sz104:SzT 104 1:=by unfold SzT; kernel_rfl
theorem sz105:SzT 105 1:=by unfold SzT; kernel_rfl
theorem sz108:SzT 108 1:=by unfold SzT; kernel_rfl
theorem sz109:SzT 109 1:=by unfold SzT; kernel_rfl
theorem sz111:SzT 111 1:=by unfold SzT; kernel_rfl
theorem sz123:SzT 123 1:=by unfold SzT; kernel_rfl
theorem sz134:SzT 134 4:=by unfold SzT; kernel_rfl
theorem sz141:SzT 141 1:=by unfold SzT; kernel_rfl
theorem sz142:SzT 142 1:=by unfold SzT; kernel_rfl
theorem sz147:SzT 147 2:=by unfold SzT; kernel_rfl
theorem sz149:SzT 149 1:=by unfold SzT; kernel_rfl
theorem sz152:SzT 152 1:=by unfold SzT; kernel_rfl
theorem sz153:SzT 153 1:=by unfold SzT; kernel_rfl
theorem sz155:SzT 155 2:=by unfold SzT; kernel_rfl
theorem sz157:SzT 157 8:=by unfold SzT; kernel_rfl
theorem sz158:SzT 158 1:=by unfold SzT; kernel_rfl
theorem sz161:SzT 161 1:=by unfold SzT; kernel_rfl
theorem sz166:SzT 166 1:=by unfold SzT; kernel_rfl
theorem sz176:SzT 176 1:=by unfold SzT; kernel_rfl
theorem sz178:SzT 178 2:=by unfold SzT; kernel_rfl
theorem sz179:SzT 179 1:=by unfold SzT; kernel_rfl
theorem sz180:SzT 180 8:=by unfold SzT; kernel_rfl
theorem sz186:SzT 186 1:=by unfold SzT; kernel_rfl
theorem sz190:SzT 190 1:=by unfold SzT; kernel_rfl
theorem sz201:SzT 201 1:=by unfold SzT; kernel_rfl
theorem sz207:SzT 207 1:=by unfold SzT; kernel_rfl
theorem sz212:SzT 212 1:=by unfold SzT; kernel_rfl
theorem sz213:SzT 213 1:=by unfold SzT; kernel_rfl
theorem sz220:SzT 220 1:=by unfold SzT; kernel_rfl
theorem sz222:SzT 222 3:=by unfold SzT; kernel_rfl
theorem sz228:SzT 228 4:=by unfold SzT; kernel_rfl
theorem sz230:SzT 230 7:=by unfold SzT; kernel_rfl
theorem sz235:SzT 235 2:=by unfold SzT; kernel_rfl
theorem sz253:SzT 253 1:=by unfold SzT; kernel_rfl
theorem ag24:Ag 24 7:=⟨⟨_,Tryz.underlying24,rfl⟩,sz24⟩
theorem ag28:Ag 28 9:=⟨⟨_,Tryz.underlying28,rfl⟩,sz28⟩
theorem ag42:Ag 42 3:=⟨⟨_,Tryz.underlying42,rfl⟩,sz42⟩
theorem ag50:Ag 50 8:=⟨⟨_,Tryz.underlying50,rfl⟩,sz50⟩
theorem ag56:Ag 56 7:=⟨⟨_,Tryz.underlying56,rfl⟩,sz56⟩
theorem ag59:Ag 59 4:=⟨⟨_,Tryz.underlying59,rfl⟩,sz59⟩
theorem ag61:Ag 61 18:=⟨⟨_,Tryz.underlying61,rfl⟩,sz61⟩
theorem ag72:Ag 72 3:=⟨⟨_,Tryz.underlying72,rfl⟩,sz72⟩
theorem ag74:Ag 74 8:=⟨⟨_,Tryz.underlying74,rfl⟩,sz74⟩
theorem ag78:Ag 78 3:=⟨⟨_,Tryz.underlying78,rfl⟩,sz78⟩
theorem ag134:Ag 134 4:=⟨⟨_,Tryz.underlying134,rfl⟩,sz134⟩
theorem ag147:Ag 147 2:=⟨⟨_,Tryz.underlying147,rfl⟩,sz147⟩
theorem ag152:Ag 152 1:=⟨⟨_,Tryz.underlying152,rfl⟩,sz152⟩
theorem ag155:Ag 155 2:=⟨⟨_,Tryz.underlying155,rfl⟩,sz155⟩
theorem ag178:Ag 178 2:=⟨⟨_,Tryz.underlying178,rfl⟩,sz178⟩
theorem ag180:Ag 180 8:=⟨⟨_,Tryz.underlying180,rfl⟩,sz180⟩
theorem ag228:Ag 228 4:=⟨⟨_,Tryz.underlying228,rfl⟩,sz228⟩
theorem ag230:Ag 230 7:=⟨⟨_,Tryz.underlying230,rfl⟩,sz230⟩
theorem fa24_0:FA 24 0 0:=⟨_,_,0,Tryz.underlying24,rfl,rfl,sz3⟩
theorem fa24_1:FA 24 1 1:=⟨_,_,0,Tryz.underlying24,rfl,rfl,sz3⟩
theorem fa24_2:FA 24 2 2:=⟨_,_,0,Tryz.underlying24,rfl,rfl,sz3⟩
theorem fa24_3:FA 24 3 3:=⟨_,_,0,Tryz.underlying24,rfl,rfl,sz3⟩
theorem fa24_4:FA 24 4 4:=⟨_,_,0,Tryz.underlying24,rfl,rfl,sz3⟩
theorem fa24_5:FA 24 5 5:=⟨_,_,0,Tryz.underlying24,rfl,rfl,sz22⟩
theorem fa24_6:FA 24 6 6:=⟨_,_,0,Tryz.underlying24,rfl,rfl,sz22⟩
theorem fa28_0:FA 28 0 0:=⟨_,_,6,Tryz.underlying28,rfl,rfl,sz24⟩
theorem fa28_1:FA 28 1 7:=⟨_,_,0,Tryz.underlying28,rfl,rfl,sz25⟩
theorem fa28_2:FA 28 2 8:=⟨_,_,0,Tryz.underlying28,rfl,rfl,sz26⟩
theorem fa42_0:FA 42 0 0:=⟨_,_,0,Tryz.underlying42,rfl,rfl,sz22⟩
theorem fa42_1:FA 42 1 1:=⟨_,_,0,Tryz.underlying42,rfl,rfl,sz22⟩
theorem fa42_2:FA 42 2 2:=⟨_,_,0,Tryz.underlying42,rfl,rfl,sz4⟩
theorem fa46_1:FA 46 1 7:=⟨_,_,2,Tryz.underlying46,rfl,rfl,sz42⟩
theorem fa46_2:FA 46 2 10:=⟨_,_,0,Tryz.underlying46,rfl,rfl,sz43⟩
theorem fa46_3:FA 46 3 11:=⟨_,_,0,Tryz.underlying46,rfl,rfl,sz44⟩
theorem fa56_0:FA 56 0 0:=⟨_,_,0,Tryz.underlying56,rfl,rfl,sz3⟩
theorem fa56_1:FA 56 1 1:=⟨_,_,0,Tryz.underlying56,rfl,rfl,sz9⟩
theorem fa56_2:FA 56 2 2:=⟨_,_,0,Tryz.underlying56,rfl,rfl,sz3⟩
theorem fa56_3:FA 56 3 3:=⟨_,_,0,Tryz.underlying56,rfl,rfl,sz3⟩
theorem fa56_4:FA 56 4 4:=⟨_,_,0,Tryz.underlying56,rfl,rfl,sz3⟩
theorem fa56_5:FA 56 5 5:=⟨_,_,0,Tryz.underlying56,rfl,rfl,sz22⟩
theorem fa56_6:FA 56 6 6:=⟨_,_,0,Tryz.underlying56,rfl,rfl,sz54⟩
theorem fa59_0:FA 59 0 0:=⟨_,_,0,Tryz.underlying59,rfl,rfl,sz32⟩
theorem fa59_1:FA 59 1 1:=⟨_,_,0,Tryz.underlying59,rfl,rfl,sz57⟩
theorem fa59_2:FA 59 2 2:=⟨_,_,0,Tryz.underlying59,rfl,rfl,sz48⟩
theorem fa59_3:FA 59 3 3:=⟨_,_,0,Tryz.underlying59,rfl,rfl,sz4⟩
theorem fa61_0:FA 61 0 0:=⟨_,_,0,Tryz.underlying61,rfl,rfl,sz3⟩
theorem fa61_2:FA 61 2 2:=⟨_,_,6,Tryz.underlying61,rfl,rfl,sz56⟩
theorem fa61_4:FA 61 4 10:=⟨_,_,0,Tryz.underlying61,rfl,rfl,sz22⟩
theorem fa61_5:FA 61 5 11:=⟨_,_,0,Tryz.underlying61,rfl,rfl,sz3⟩
theorem fa61_6:FA 61 6 12:=⟨_,_,0,Tryz.underlying61,rfl,rfl,sz3⟩
theorem fa61_7:FA 61 7 13:=⟨_,_,0,Tryz.underlying61,rfl,rfl,sz3⟩
theorem fa61_8:FA 61 8 14:=⟨_,_,3,Tryz.underlying61,rfl,rfl,sz59⟩
theorem fa72_2:FA 72 2 2:=⟨_,_,0,Tryz.underlying72,rfl,rfl,sz3⟩
theorem fa74_3:FA 74 3 7:=⟨_,_,0,Tryz.underlying74,rfl,rfl,sz22⟩
theorem fa78_0:FA 78 0 0:=⟨_,_,0,Tryz.underlying78,rfl,rfl,sz3⟩
theorem fa78_1:FA 78 1 1:=⟨_,_,0,Tryz.underlying78,rfl,rfl,sz3⟩
theorem fa78_2:FA 78 2 2:=⟨_,_,0,Tryz.underlying78,rfl,rfl,sz22⟩
theorem fa107_0:FA 107 0 0:=⟨_,_,0,Tryz.underlying107,rfl,rfl,sz103⟩
theorem fa107_1:FA 107 1 1:=⟨_,_,0,Tryz.underlying107,rfl,rfl,sz104⟩
theorem fa107_2:FA 107 2 2:=⟨_,_,0,Tryz.underlying107,rfl,rfl,sz105⟩
theorem fa107_3:FA 107 3 3:=⟨_,_,0,Tryz.underlying107,rfl,rfl,sz3⟩
theorem fa107_4:FA 107 4 4:=⟨_,_,0,Tryz.underlying107,rfl,rfl,sz3⟩
theorem fa107_5:FA 107 5 5:=⟨_,_,0,Tryz.underlying107,rfl,rfl,sz3⟩
theorem fa107_6:FA 107 6 6:=⟨_,_,0,Tryz.underlying107,rfl,rfl,sz3⟩
theorem fa107_7:FA 107 7 7:=⟨_,_,0,Tryz.underlying107,rfl,rfl,sz35⟩
theorem fa113_0:FA 113 0 0:=⟨_,_,0,Tryz.underlying113,rfl,rfl,sz76⟩
theorem fa113_1:FA 113 1 1:=⟨_,_,0,Tryz.underlying113,rfl,rfl,sz3⟩
theorem fa113_2:FA 113 2 2:=⟨_,_,0,Tryz.underlying113,rfl,rfl,sz109⟩
theorem fa113_3:FA 113 3 3:=⟨_,_,0,Tryz.underlying113,rfl,rfl,sz111⟩
theorem fa113_4:FA 113 4 4:=⟨_,_,0,Tryz.underlying113,rfl,rfl,sz3⟩
theorem fa134_0:FA 134 0 0:=⟨_,_,0,Tryz.underlying134,rfl,rfl,sz3⟩
theorem fa134_1:FA 134 1 1:=⟨_,_,0,Tryz.underlying134,rfl,rfl,sz3⟩
theorem fa134_2:FA 134 2 2:=⟨_,_,0,Tryz.underlying134,rfl,rfl,sz3⟩
theorem fa134_3:FA 134 3 3:=⟨_,_,0,Tryz.underlying134,rfl,rfl,sz22⟩
theorem fa144_0:FA 144 0 0:=⟨_,_,6,Tryz.underlying144,rfl,rfl,sz24⟩
theorem fa144_1:FA 144 1 7:=⟨_,_,2,Tryz.underlying144,rfl,rfl,sz42⟩
theorem fa144_2:FA 144 2 10:=⟨_,_,0,Tryz.underlying144,rfl,rfl,sz141⟩
theorem fa144_3:FA 144 3 11:=⟨_,_,0,Tryz.underlying144,rfl,rfl,sz142⟩
theorem fa147_0:FA 147 0 0:=⟨_,_,0,Tryz.underlying147,rfl,rfl,sz22⟩
theorem fa147_1:FA 147 1 1:=⟨_,_,0,Tryz.underlying147,rfl,rfl,sz22⟩
theorem fa152_0:FA 152 0 0:=⟨_,_,0,Tryz.underlying152,rfl,rfl,sz3⟩
theorem fa155_0:FA 155 0 0:=⟨_,_,0,Tryz.underlying155,rfl,rfl,sz54⟩
theorem fa155_1:FA 155 1 1:=⟨_,_,0,Tryz.underlying155,rfl,rfl,sz153⟩
theorem fa157_0:FA 157 0 0:=⟨_,_,0,Tryz.underlying157,rfl,rfl,sz152⟩
theorem fa157_1:FA 157 1 1:=⟨_,_,1,Tryz.underlying157,rfl,rfl,sz147⟩
theorem fa157_2:FA 157 2 3:=⟨_,_,1,Tryz.underlying157,rfl,rfl,sz155⟩
theorem fa157_3:FA 157 3 5:=⟨_,_,1,Tryz.underlying157,rfl,rfl,sz155⟩
theorem fa157_4:FA 157 4 7:=⟨_,_,0,Tryz.underlying157,rfl,rfl,sz149⟩
theorem fa160_0:FA 160 0 0:=⟨_,_,0,Tryz.underlying160,rfl,rfl,sz3⟩
theorem fa160_1:FA 160 1 1:=⟨_,_,0,Tryz.underlying160,rfl,rfl,sz3⟩
theorem fa160_2:FA 160 2 2:=⟨_,_,0,Tryz.underlying160,rfl,rfl,sz158⟩
theorem fa163_0:FA 163 0 0:=⟨_,_,0,Tryz.underlying163,rfl,rfl,sz161⟩
theorem fa178_0:FA 178 0 0:=⟨_,_,0,Tryz.underlying178,rfl,rfl,sz54⟩
theorem fa178_1:FA 178 1 1:=⟨_,_,0,Tryz.underlying178,rfl,rfl,sz176⟩
theorem fa182_0:FA 182 0 0:=⟨_,_,1,Tryz.underlying182,rfl,rfl,sz178⟩
theorem fa182_1:FA 182 1 2:=⟨_,_,7,Tryz.underlying182,rfl,rfl,sz180⟩
theorem fa196_0:FA 196 0 0:=⟨_,_,0,Tryz.underlying196,rfl,rfl,sz3⟩
theorem fa196_1:FA 196 1 1:=⟨_,_,0,Tryz.underlying196,rfl,rfl,sz48⟩
theorem fa196_2:FA 196 2 2:=⟨_,_,0,Tryz.underlying196,rfl,rfl,sz4⟩
theorem fa198_0:FA 198 0 0:=⟨_,_,0,Tryz.underlying198,rfl,rfl,sz3⟩
theorem fa198_1:FA 198 1 1:=⟨_,_,0,Tryz.underlying198,rfl,rfl,sz3⟩
theorem fa198_2:FA 198 2 2:=⟨_,_,0,Tryz.underlying198,rfl,rfl,sz186⟩
theorem fa198_3:FA 198 3 3:=⟨_,_,0,Tryz.underlying198,rfl,rfl,sz3⟩
theorem fa198_4:FA 198 4 4:=⟨_,_,2,Tryz.underlying198,rfl,rfl,sz42⟩
theorem fa198_5:FA 198 5 7:=⟨_,_,0,Tryz.underlying198,rfl,rfl,sz3⟩
theorem fa198_6:FA 198 6 8:=⟨_,_,3,Tryz.underlying198,rfl,rfl,sz59⟩
theorem fa209_0:FA 209 0 0:=⟨_,_,0,Tryz.underlying209,rfl,rfl,sz3⟩
theorem fa209_1:FA 209 1 1:=⟨_,_,0,Tryz.underlying209,rfl,rfl,sz54⟩
theorem fa209_2:FA 209 2 2:=⟨_,_,0,Tryz.underlying209,rfl,rfl,sz3⟩
theorem fa209_3:FA 209 3 3:=⟨_,_,0,Tryz.underlying209,rfl,rfl,sz37⟩
theorem fa209_4:FA 209 4 4:=⟨_,_,0,Tryz.underlying209,rfl,rfl,sz3⟩
theorem fa209_5:FA 209 5 5:=⟨_,_,0,Tryz.underlying209,rfl,rfl,sz3⟩
theorem fa209_6:FA 209 6 6:=⟨_,_,0,Tryz.underlying209,rfl,rfl,sz3⟩
theorem fa209_7:FA 209 7 7:=⟨_,_,0,Tryz.underlying209,rfl,rfl,sz69⟩
theorem fa209_8:FA 209 8 8:=⟨_,_,0,Tryz.underlying209,rfl,rfl,sz4⟩
theorem fa209_9:FA 209 9 9:=⟨_,_,0,Tryz.underlying209,rfl,rfl,sz4⟩
theorem fa209_10:FA 209 10 10:=⟨_,_,0,Tryz.underlying209,rfl,rfl,sz207⟩
theorem fa209_11:FA 209 11 11:=⟨_,_,2,Tryz.underlying209,rfl,rfl,sz42⟩
theorem fa209_12:FA 209 12 14:=⟨_,_,0,Tryz.underlying209,rfl,rfl,sz3⟩
theorem fa209_13:FA 209 13 15:=⟨_,_,0,Tryz.underlying209,rfl,rfl,sz3⟩
theorem fa209_14:FA 209 14 16:=⟨_,_,3,Tryz.underlying209,rfl,rfl,sz59⟩
theorem fa212_0:FA 212 0 0:=⟨_,_,0,Tryz.underlying212,rfl,rfl,sz3⟩
theorem fa215_0:FA 215 0 0:=⟨_,_,0,Tryz.underlying215,rfl,rfl,sz212⟩
theorem fa215_1:FA 215 1 1:=⟨_,_,0,Tryz.underlying215,rfl,rfl,sz213⟩
theorem fa215_2:FA 215 2 2:=⟨_,_,0,Tryz.underlying215,rfl,rfl,sz3⟩
theorem fa215_3:FA 215 3 3:=⟨_,_,2,Tryz.underlying215,rfl,rfl,sz42⟩
theorem fa215_4:FA 215 4 6:=⟨_,_,3,Tryz.underlying215,rfl,rfl,sz59⟩
theorem fa228_0:FA 228 0 0:=⟨_,_,0,Tryz.underlying228,rfl,rfl,sz123⟩
theorem fa228_1:FA 228 1 1:=⟨_,_,2,Tryz.underlying228,rfl,rfl,sz72⟩
theorem fa230_0:FA 230 0 0:=⟨_,_,0,Tryz.underlying230,rfl,rfl,sz9⟩
theorem fa230_1:FA 230 1 1:=⟨_,_,2,Tryz.underlying230,rfl,rfl,sz72⟩
theorem fa230_2:FA 230 2 4:=⟨_,_,2,Tryz.underlying230,rfl,rfl,sz72⟩
theorem fa235_0:FA 235 0 0:=⟨_,_,0,Tryz.underlying235,rfl,rfl,sz3⟩
theorem fa235_1:FA 235 1 1:=⟨_,_,0,Tryz.underlying235,rfl,rfl,sz166⟩
theorem sl25:SlT 25 76 1:=⟨Tryz.underlying25,sz76⟩
theorem sl26:SlT 26 78 3:=⟨Tryz.underlying26,sz78⟩
theorem sl35:SlT 35 61 18:=⟨Tryz.underlying35,sz61⟩
theorem sl37:SlT 37 3 1:=⟨Tryz.underlying37,sz3⟩
theorem sl43:SlT 43 86 1:=⟨Tryz.underlying43,sz86⟩
theorem sl44:SlT 44 53 1:=⟨Tryz.underlying44,sz53⟩
theorem sl48:SlT 48 74 8:=⟨Tryz.underlying48,sz74⟩
theorem sl54:SlT 54 9 1:=⟨Tryz.underlying54,sz9⟩
theorem sl57:SlT 57 72 3:=⟨Tryz.underlying57,sz72⟩
theorem sl69:SlT 69 22 1:=⟨Tryz.underlying69,sz22⟩
theorem sl76:SlT 76 56 7:=⟨Tryz.underlying76,sz56⟩
theorem sl83:SlT 83 4 1:=⟨Tryz.underlying83,sz4⟩
theorem sl91:SlT 91 48 1:=⟨Tryz.underlying91,sz48⟩
theorem sl104:SlT 104 108 1:=⟨Tryz.underlying104,sz108⟩
theorem sl123:SlT 123 134 4:=⟨Tryz.underlying123,sz134⟩
theorem sl141:SlT 141 157 8:=⟨Tryz.underlying141,sz157⟩
theorem sl142:SlT 142 222 3:=⟨Tryz.underlying142,sz222⟩
theorem sl153:SlT 153 228 4:=⟨Tryz.underlying153,sz228⟩
theorem sl176:SlT 176 253 1:=⟨Tryz.underlying176,sz253⟩
theorem sl201:SlT 201 230 7:=⟨Tryz.underlying201,sz230⟩
theorem sl213:SlT 213 235 2:=⟨Tryz.underlying213,sz235⟩
theorem sl218:SlT 218 220 1:=⟨Tryz.underlying218,sz220⟩
theorem ar50:ArT 50 8 4 1:=⟨Tryz.underlying50,sz4⟩
theorem ar180:ArT 180 8 179 1:=⟨Tryz.underlying180,sz179⟩
theorem zr3:Zr 3 (.int .i64 0) [.int .i64 0]:=⟨Tryz.zeroValue3,rfl⟩
theorem zr4:Zr 4 (.bool false) [.bool false]:=⟨Tryz.zeroValue4,rfl⟩
theorem zr24:Zr 24 (.agg #[.int .i64 0,.int .i64 0,.int .i64 0,.int .i64 0,.int .i64 0,.int .u64 0,.int .u64 0]) [.int .i64 0,.int .i64 0,.int .i64 0,.int .i64 0,.int .i64 0,.int .u64 0,.int .u64 0]:=⟨Tryz.zeroValue24,rfl⟩
theorem zr28:Zr 28 (.agg #[.int .i64 0,.int .i64 0,.int .i64 0,.int .i64 0,.int .i64 0,.int .u64 0,.int .u64 0,.slice none 0 0,.slice none 0 0]) [.int .i64 0,.int .i64 0,.int .i64 0,.int .i64 0,.int .i64 0,.int .u64 0,.int .u64 0,.slice none 0 0,.slice none 0 0]:=⟨Tryz.zeroValue28,rfl⟩
theorem zr35:Zr 35 (.slice none 0 0) [.slice none 0 0]:=⟨Tryz.zeroValue35,rfl⟩
theorem zr42:Zr 42 (.agg #[.int .u64 0,.int .u64 0,.bool false]) [.int .u64 0,.int .u64 0,.bool false]:=⟨Tryz.zeroValue42,rfl⟩
theorem zr48:Zr 48 (.slice none 0 0) [.slice none 0 0]:=⟨Tryz.zeroValue48,rfl⟩
theorem zr50:Zr 50 (.agg #[.bool false,.bool false,.bool false,.bool false,.bool false,.bool false,.bool false,.bool false]) [.bool false,.bool false,.bool false,.bool false,.bool false,.bool false,.bool false,.bool false]:=⟨Tryz.zeroValue50,rfl⟩
theorem zr56:Zr 56 (.agg #[.int .i64 0,.string ⟨#[]⟩,.int .i64 0,.int .i64 0,.int .i64 0,.int .u64 0,.slice none 0 0]) [.int .i64 0,.string ⟨#[]⟩,.int .i64 0,.int .i64 0,.int .i64 0,.int .u64 0,.slice none 0 0]:=⟨Tryz.zeroValue56,rfl⟩
theorem zr59:Zr 59 (.agg #[.int .i64 0,.slice none 0 0,.slice none 0 0,.bool false]) [.int .i64 0,.slice none 0 0,.slice none 0 0,.bool false]:=⟨Tryz.zeroValue59,rfl⟩
theorem zr61:Zr 61 (.agg #[.int .i64 0,.int .i64 0,.int .i64 0,.string ⟨#[]⟩,.int .i64 0,.int .i64 0,.int .i64 0,.int .u64 0,.slice none 0 0,.int .i64 0,.int .u64 0,.int .i64 0,.int .i64 0,.int .i64 0,.int .i64 0,.slice none 0 0,.slice none 0 0,.bool false]) [.int .i64 0,.int .i64 0,.int .i64 0,.string ⟨#[]⟩,.int .i64 0,.int .i64 0,.int .i64 0,.int .u64 0,.slice none 0 0,.int .i64 0,.int .u64 0,.int .i64 0,.int .i64 0,.int .i64 0,.int .i64 0,.slice none 0 0,.slice none 0 0,.bool false]:=⟨Tryz.zeroValue61,rfl⟩
theorem zr72:Zr 72 (.agg #[.int .i64 0,.int .i64 0,.int .i64 0]) [.int .i64 0,.int .i64 0,.int .i64 0]:=⟨Tryz.zeroValue72,rfl⟩
theorem zr74:Zr 74 (.agg #[.string ⟨#[]⟩,.int .i64 0,.int .i64 0,.int .i64 0,.int .i64 0,.int .i64 0,.int .i64 0,.int .u64 0]) [.string ⟨#[]⟩,.int .i64 0,.int .i64 0,.int .i64 0,.int .i64 0,.int .i64 0,.int .i64 0,.int .u64 0]:=⟨Tryz.zeroValue74,rfl⟩
theorem zr78:Zr 78 (.agg #[.int .i64 0,.int .i64 0,.int .u64 0]) [.int .i64 0,.int .i64 0,.int .u64 0]:=⟨Tryz.zeroValue78,rfl⟩
theorem zr91:Zr 91 (.slice none 0 0) [.slice none 0 0]:=⟨Tryz.zeroValue91,rfl⟩
theorem zr134:Zr 134 (.agg #[.int .i64 0,.int .i64 0,.int .i64 0,.int .u64 0]) [.int .i64 0,.int .i64 0,.int .i64 0,.int .u64 0]:=⟨Tryz.zeroValue134,rfl⟩
theorem zr147:Zr 147 (.agg #[.int .u64 0,.int .u64 0]) [.int .u64 0,.int .u64 0]:=⟨Tryz.zeroValue147,rfl⟩
theorem zr152:Zr 152 (.agg #[.int .i64 0]) [.int .i64 0]:=⟨Tryz.zeroValue152,rfl⟩
theorem zr155:Zr 155 (.agg #[.slice none 0 0,.slice none 0 0]) [.slice none 0 0,.slice none 0 0]:=⟨Tryz.zeroValue155,rfl⟩
theorem zr178:Zr 178 (.agg #[.slice none 0 0,.slice none 0 0]) [.slice none 0 0,.slice none 0 0]:=⟨Tryz.zeroValue178,rfl⟩
theorem zr190:Zr 190 (.pointer none) [.pointer none]:=⟨Tryz.zeroValue190,rfl⟩
theorem zr201:Zr 201 (.slice none 0 0) [.slice none 0 0]:=⟨Tryz.zeroValue201,rfl⟩
theorem zr228:Zr 228 (.agg #[.slice none 0 0,.int .i64 0,.int .i64 0,.int .i64 0]) [.slice none 0 0,.int .i64 0,.int .i64 0,.int .i64 0]:=⟨Tryz.zeroValue228,rfl⟩
theorem zr230:Zr 230 (.agg #[.string ⟨#[]⟩,.int .i64 0,.int .i64 0,.int .i64 0,.int .i64 0,.int .i64 0,.int .i64 0]) [.string ⟨#[]⟩,.int .i64 0,.int .i64 0,.int .i64 0,.int .i64 0,.int .i64 0,.int .i64 0]:=⟨Tryz.zeroValue230,rfl⟩
theorem en7:Ent 7:=Ent.mk Tryz.func7 (by decide) (by kernel_rfl)
theorem en8:Ent 8:=Ent.mk Tryz.func8 (by decide) (by kernel_rfl)
theorem en9:Ent 9:=Ent.mk Tryz.func9 (by decide) (by kernel_rfl)
theorem en10:Ent 10:=Ent.mk Tryz.func10 (by decide) (by kernel_rfl)
theorem en11:Ent 11:=Ent.mk Tryz.func11 (by decide) (by kernel_rfl)
theorem en12:Ent 12:=Ent.mk Tryz.func12 (by decide) (by kernel_rfl)
theorem en13:Ent 13:=Ent.mk Tryz.func13 (by decide) (by kernel_rfl)
theorem en18:Ent 18:=Ent.mk Tryz.func18 (by decide) (by kernel_rfl)
theorem en20:Ent 20:=Ent.mk Tryz.func20 (by decide) (by kernel_rfl)
theorem en21:Ent 21:=Ent.mk Tryz.func21 (by decide) (by kernel_rfl)
theorem en22:Ent 22:=Ent.mk Tryz.func22 (by decide) (by kernel_rfl)
theorem en23:Ent 23:=Ent.mk Tryz.func23 (by decide) (by kernel_rfl)
theorem en24:Ent 24:=Ent.mk Tryz.func24 (by decide) (by kernel_rfl)
theorem en25:Ent 25:=Ent.mk Tryz.func25 (by decide) (by kernel_rfl)
theorem en40:Ent 40:=Ent.mk Tryz.func40 (by decide) (by kernel_rfl)
theorem en41:Ent 41:=Ent.mk Tryz.func41 (by decide) (by kernel_rfl)
theorem en42:Ent 42:=Ent.mk Tryz.func42 (by decide) (by kernel_rfl)
theorem en43:Ent 43:=Ent.mk Tryz.func43 (by decide) (by kernel_rfl)
theorem en44:Ent 44:=Ent.mk Tryz.func44 (by decide) (by kernel_rfl)
theorem en45:Ent 45:=Ent.mk Tryz.func45 (by decide) (by kernel_rfl)
theorem en46:Ent 46:=Ent.mk Tryz.func46 (by decide) (by kernel_rfl)
theorem en47:Ent 47:=Ent.mk Tryz.func47 (by decide) (by kernel_rfl)
theorem en48:Ent 48:=Ent.mk Tryz.func48 (by decide) (by kernel_rfl)
theorem en58:Ent 58:=Ent.mk Tryz.func58 (by decide) (by kernel_rfl)
theorem en59:Ent 59:=Ent.mk Tryz.func59 (by decide) (by kernel_rfl)
theorem en60:Ent 60:=Ent.mk Tryz.func60 (by decide) (by kernel_rfl)
theorem en61:Ent 61:=Ent.mk Tryz.func61 (by decide) (by kernel_rfl)
theorem en62:Ent 62:=Ent.mk Tryz.func62 (by decide) (by kernel_rfl)
theorem en63:Ent 63:=Ent.mk Tryz.func63 (by decide) (by kernel_rfl)
theorem en64:Ent 64:=Ent.mk Tryz.func64 (by decide) (by kernel_rfl)
theorem en65:Ent 65:=Ent.mk Tryz.func65 (by decide) (by kernel_rfl)
theorem en66:Ent 66:=Ent.mk Tryz.func66 (by decide) (by kernel_rfl)
theorem en67:Ent 67:=Ent.mk Tryz.func67 (by decide) (by kernel_rfl)
theorem en68:Ent 68:=Ent.mk Tryz.func68 (by decide) (by kernel_rfl)
theorem en69:Ent 69:=Ent.mk Tryz.func69 (by decide) (by kernel_rfl)
theorem en71:Ent 71:=Ent.mk Tryz.func71 (by decide) (by kernel_rfl)
theorem en72:Ent 72:=Ent.mk Tryz.func72 (by decide) (by kernel_rfl)
theorem en73:Ent 73:=Ent.mk Tryz.func73 (by decide) (by kernel_rfl)
theorem en74:Ent 74:=Ent.mk Tryz.func74 (by decide) (by kernel_rfl)
theorem en75:Ent 75:=Ent.mk Tryz.func75 (by decide) (by kernel_rfl)
theorem en76:Ent 76:=Ent.mk Tryz.func76 (by decide) (by kernel_rfl)
theorem en77:Ent 77:=Ent.mk Tryz.func77 (by decide) (by kernel_rfl)
theorem en78:Ent 78:=Ent.mk Tryz.func78 (by decide) (by kernel_rfl)
theorem en79:Ent 79:=Ent.mk Tryz.func79 (by decide) (by kernel_rfl)
theorem en80:Ent 80:=Ent.mk Tryz.func80 (by decide) (by kernel_rfl)
theorem en81:Ent 81:=Ent.mk Tryz.func81 (by decide) (by kernel_rfl)
theorem en82:Ent 82:=Ent.mk Tryz.func82 (by decide) (by kernel_rfl)
theorem en83:Ent 83:=Ent.mk Tryz.func83 (by decide) (by kernel_rfl)
theorem en84:Ent 84:=Ent.mk Tryz.func84 (by decide) (by kernel_rfl)
theorem en85:Ent 85:=Ent.mk Tryz.func85 (by decide) (by kernel_rfl)
theorem en86:Ent 86:=Ent.mk Tryz.func86 (by decide) (by kernel_rfl)
theorem en87:Ent 87:=Ent.mk Tryz.func87 (by decide) (by kernel_rfl)
theorem en88:Ent 88:=Ent.mk Tryz.func88 (by decide) (by kernel_rfl)
theorem en89:Ent 89:=Ent.mk Tryz.func89 (by decide) (by kernel_rfl)
theorem en90:Ent 90:=Ent.mk Tryz.func90 (by decide) (by kernel_rfl)
theorem en91:Ent 91:=Ent.mk Tryz.func91 (by decide) (by kernel_rfl)
theorem en92:Ent 92:=Ent.mk Tryz.func92 (by decide) (by kernel_rfl)
theorem en93:Ent 93:=Ent.mk Tryz.func93 (by decide) (by kernel_rfl)
theorem en94:Ent 94:=Ent.mk Tryz.func94 (by decide) (by kernel_rfl)
theorem en95:Ent 95:=Ent.mk Tryz.func95 (by decide) (by kernel_rfl)
theorem en96:Ent 96:=Ent.mk Tryz.func96 (by decide) (by kernel_rfl)
theorem en97:Ent 97:=Ent.mk Tryz.func97 (by decide) (by kernel_rfl)
theorem en98:Ent 98:=Ent.mk Tryz.func98 (by decide) (by kernel_rfl)
theorem en99:Ent 99:=Ent.mk Tryz.func99 (by decide) (by kernel_rfl)
theorem en100:Ent 100:=Ent.mk Tryz.func100 (by decide) (by kernel_rfl)
theorem en101:Ent 101:=Ent.mk Tryz.func101 (by decide) (by kernel_rfl)
theorem en102:Ent 102:=Ent.mk Tryz.func102 (by decide) (by kernel_rfl)
theorem en103:Ent 103:=Ent.mk Tryz.func103 (by decide) (by kernel_rfl)
theorem en104:Ent 104:=Ent.mk Tryz.func104 (by decide) (by kernel_rfl)
theorem en105:Ent 105:=Ent.mk Tryz.func105 (by decide) (by kernel_rfl)
theorem en106:Ent 106:=Ent.mk Tryz.func106 (by decide) (by kernel_rfl)
theorem en107:Ent 107:=Ent.mk Tryz.func107 (by decide) (by kernel_rfl)
theorem en108:Ent 108:=Ent.mk Tryz.func108 (by decide) (by kernel_rfl)
theorem en109:Ent 109:=Ent.mk Tryz.func109 (by decide) (by kernel_rfl)
theorem en110:Ent 110:=Ent.mk Tryz.func110 (by decide) (by kernel_rfl)
theorem en111:Ent 111:=Ent.mk Tryz.func111 (by decide) (by kernel_rfl)
theorem en112:Ent 112:=Ent.mk Tryz.func112 (by decide) (by kernel_rfl)
theorem en113:Ent 113:=Ent.mk Tryz.func113 (by decide) (by kernel_rfl)
theorem en114:Ent 114:=Ent.mk Tryz.func114 (by decide) (by kernel_rfl)
theorem en115:Ent 115:=Ent.mk Tryz.func115 (by decide) (by kernel_rfl)
theorem en116:Ent 116:=Ent.mk Tryz.func116 (by decide) (by kernel_rfl)
theorem en117:Ent 117:=Ent.mk Tryz.func117 (by decide) (by kernel_rfl)
theorem en118:Ent 118:=Ent.mk Tryz.func118 (by decide) (by kernel_rfl)
theorem en119:Ent 119:=Ent.mk Tryz.func119 (by decide) (by kernel_rfl)
theorem en120:Ent 120:=Ent.mk Tryz.func120 (by decide) (by kernel_rfl)
theorem en121:Ent 121:=Ent.mk Tryz.func121 (by decide) (by kernel_rfl)
theorem en122:Ent 122:=Ent.mk Tryz.func122 (by decide) (by kernel_rfl)
theorem en123:Ent 123:=Ent.mk Tryz.func123 (by decide) (by kernel_rfl)
theorem en124:Ent 124:=Ent.mk Tryz.func124 (by decide) (by kernel_rfl)
theorem en125:Ent 125:=Ent.mk Tryz.func125 (by decide) (by kernel_rfl)
theorem en126:Ent 126:=Ent.mk Tryz.func126 (by decide) (by kernel_rfl)
theorem en127:Ent 127:=Ent.mk Tryz.func127 (by decide) (by kernel_rfl)
theorem en128:Ent 128:=Ent.mk Tryz.func128 (by decide) (by kernel_rfl)
theorem en129:Ent 129:=Ent.mk Tryz.func129 (by decide) (by kernel_rfl)
theorem en130:Ent 130:=Ent.mk Tryz.func130 (by decide) (by kernel_rfl)
theorem en138:Ent 138:=Ent.mk Tryz.func138 (by decide) (by kernel_rfl)
theorem en139:Ent 139:=Ent.mk Tryz.func139 (by decide) (by kernel_rfl)
theorem en140:Ent 140:=Ent.mk Tryz.func140 (by decide) (by kernel_rfl)
theorem en141:Ent 141:=Ent.mk Tryz.func141 (by decide) (by kernel_rfl)
theorem en142:Ent 142:=Ent.mk Tryz.func142 (by decide) (by kernel_rfl)
theorem en143:Ent 143:=Ent.mk Tryz.func143 (by decide) (by kernel_rfl)
theorem en144:Ent 144:=Ent.mk Tryz.func144 (by decide) (by kernel_rfl)
theorem en145:Ent 145:=Ent.mk Tryz.func145 (by decide) (by kernel_rfl)
theorem en146:Ent 146:=Ent.mk Tryz.func146 (by decide) (by kernel_rfl)
theorem en147:Ent 147:=Ent.mk Tryz.func147 (by decide) (by kernel_rfl)
theorem en148:Ent 148:=Ent.mk Tryz.func148 (by decide) (by kernel_rfl)
theorem en149:Ent 149:=Ent.mk Tryz.func149 (by decide) (by kernel_rfl)
theorem en150:Ent 150:=Ent.mk Tryz.func150 (by decide) (by kernel_rfl)
theorem en151:Ent 151:=Ent.mk Tryz.func151 (by decide) (by kernel_rfl)
theorem en152:Ent 152:=Ent.mk Tryz.func152 (by decide) (by kernel_rfl)
theorem en153:Ent 153:=Ent.mk Tryz.func153 (by decide) (by kernel_rfl)
theorem en154:Ent 154:=Ent.mk Tryz.func154 (by decide) (by kernel_rfl)
theorem en155:Ent 155:=Ent.mk Tryz.func155 (by decide) (by kernel_rfl)
theorem en156:Ent 156:=Ent.mk Tryz.func156 (by decide) (by kernel_rfl)
theorem en157:Ent 157:=Ent.mk Tryz.func157 (by decide) (by kernel_rfl)
theorem en158:Ent 158:=Ent.mk Tryz.func158 (by decide) (by kernel_rfl)
theorem en159:Ent 159:=Ent.mk Tryz.func159 (by decide) (by kernel_rfl)
theorem en160:Ent 160:=Ent.mk Tryz.func160 (by decide) (by kernel_rfl)
theorem en161:Ent 161:=Ent.mk Tryz.func161 (by decide) (by kernel_rfl)
theorem en162:Ent 162:=Ent.mk Tryz.func162 (by decide) (by kernel_rfl)
theorem en163:Ent 163:=Ent.mk Tryz.func163 (by decide) (by kernel_rfl)
theorem en164:Ent 164:=Ent.mk Tryz.func164 (by decide) (by kernel_rfl)
theorem en165:Ent 165:=Ent.mk Tryz.func165 (by decide) (by kernel_rfl)
theorem en166:Ent 166:=Ent.mk Tryz.func166 (by decide) (by kernel_rfl)
theorem en167:Ent 167:=Ent.mk Tryz.func167 (by decide) (by kernel_rfl)
theorem en168:Ent 168:=Ent.mk Tryz.func168 (by decide) (by kernel_rfl)
theorem en169:Ent 169:=Ent.mk Tryz.func169 (by decide) (by kernel_rfl)
theorem en170:Ent 170:=Ent.mk Tryz.func170 (by decide) (by kernel_rfl)
theorem en171:Ent 171:=Ent.mk Tryz.func171 (by decide) (by kernel_rfl)
theorem en172:Ent 172:=Ent.mk Tryz.func172 (by decide) (by kernel_rfl)
theorem en173:Ent 173:=Ent.mk Tryz.func173 (by decide) (by kernel_rfl)
theorem en174:Ent 174:=Ent.mk Tryz.func174 (by decide) (by kernel_rfl)
theorem en175:Ent 175:=Ent.mk Tryz.func175 (by decide) (by kernel_rfl)
theorem en176:Ent 176:=Ent.mk Tryz.func176 (by decide) (by kernel_rfl)
theorem en177:Ent 177:=Ent.mk Tryz.func177 (by decide) (by kernel_rfl)
theorem en178:Ent 178:=Ent.mk Tryz.func178 (by decide) (by kernel_rfl)
theorem en179:Ent 179:=Ent.mk Tryz.func179 (by decide) (by kernel_rfl)
theorem en180:Ent 180:=Ent.mk Tryz.func180 (by decide) (by kernel_rfl)
theorem en181:Ent 181:=Ent.mk Tryz.func181 (by decide) (by kernel_rfl)
theorem en182:Ent 182:=Ent.mk Tryz.func182 (by decide) (by kernel_rfl)
theorem en183:Ent 183:=Ent.mk Tryz.func183 (by decide) (by kernel_rfl)
theorem en184:Ent 184:=Ent.mk Tryz.func184 (by decide) (by kernel_rfl)
theorem en185:Ent 185:=Ent.mk Tryz.func185 (by decide) (by kernel_rfl)
theorem en186:Ent 186:=Ent.mk Tryz.func186 (by decide) (by kernel_rfl)
theorem en187:Ent 187:=Ent.mk Tryz.func187 (by decide) (by kernel_rfl)
theorem en188:Ent 188:=Ent.mk Tryz.func188 (by decide) (by kernel_rfl)
theorem en189:Ent 189:=Ent.mk Tryz.func189 (by decide) (by kernel_rfl)
theorem en194:Ent 194:=Ent.mk Tryz.func194 (by decide) (by kernel_rfl)
theorem en196:Ent 196:=Ent.mk Tryz.func196 (by decide) (by kernel_rfl)
theorem en199:Ent 199:=Ent.mk Tryz.func199 (by decide) (by kernel_rfl)
theorem en200:Ent 200:=Ent.mk Tryz.func200 (by decide) (by kernel_rfl)
theorem en201:Ent 201:=Ent.mk Tryz.func201 (by decide) (by kernel_rfl)
theorem en202:Ent 202:=Ent.mk Tryz.func202 (by decide) (by kernel_rfl)
theorem en203:Ent 203:=Ent.mk Tryz.func203 (by decide) (by kernel_rfl)
theorem en204:Ent 204:=Ent.mk Tryz.func204 (by decide) (by kernel_rfl)
theorem en205:Ent 205:=Ent.mk Tryz.func205 (by decide) (by kernel_rfl)
theorem en206:Ent 206:=Ent.mk Tryz.func206 (by decide) (by kernel_rfl)
theorem en209:Ent 209:=Ent.mk Tryz.func209 (by decide) (by kernel_rfl)
theorem en211:Ent 211:=Ent.mk Tryz.func211 (by decide) (by kernel_rfl)
theorem en214:Ent 214:=Ent.mk Tryz.func214 (by decide) (by kernel_rfl)
theorem en243:Ent 243:=Ent.mk Tryz.func243 (by decide) (by kernel_rfl)
theorem en244:Ent 244:=Ent.mk Tryz.func244 (by decide) (by kernel_rfl)
theorem en248:Ent 248:=Ent.mk Tryz.func248 (by decide) (by kernel_rfl)
theorem en249:Ent 249:=Ent.mk Tryz.func249 (by decide) (by kernel_rfl)
theorem en250:Ent 250:=Ent.mk Tryz.func250 (by decide) (by kernel_rfl)
theorem en251:Ent 251:=Ent.mk Tryz.func251 (by decide) (by kernel_rfl)
theorem en252:Ent 252:=Ent.mk Tryz.func252 (by decide) (by kernel_rfl)
theorem en253:Ent 253:=Ent.mk Tryz.func253 (by decide) (by kernel_rfl)
theorem en254:Ent 254:=Ent.mk Tryz.func254 (by decide) (by kernel_rfl)
theorem en255:Ent 255:=Ent.mk Tryz.func255 (by decide) (by kernel_rfl)
theorem en256:Ent 256:=Ent.mk Tryz.func256 (by decide) (by kernel_rfl)
theorem en257:Ent 257:=Ent.mk Tryz.func257 (by decide) (by kernel_rfl)
theorem en258:Ent 258:=Ent.mk Tryz.func258 (by decide) (by kernel_rfl)
theorem en259:Ent 259:=Ent.mk Tryz.func259 (by decide) (by kernel_rfl)
theorem en263:Ent 263:=Ent.mk Tryz.func263 (by decide) (by kernel_rfl)
theorem en264:Ent 264:=Ent.mk Tryz.func264 (by decide) (by kernel_rfl)
def TW.drew (t:TW):TW:=⟨{ t.w with drawn:=t.w.drawn + 1 },t.own⟩
theorem TW.drew_step (t:TW):Step No t t.drew:=⟨rfl,rfl,rfl,Nat.le_refl _,fun _ _ _=>⟨rfl,rfl⟩⟩
theorem Bk.drew {t:TW} {b:Nat} {cs:List Value} {ty:TypeId} {g:Tag} (h:Bk t b cs ty g):Bk t.drew b cs ty g:=h
theorem mixed:P.follows .mixedOrders = true:=by kernel_rfl
def PanicOk (Q:Exit → Act → World → Prop):Prop:=∀ ch a d v w,Q (.panic ch) (a.put d v) w → Q (.panic ch) a w
def DL (c:Ctx) (ops:Array Oper) (Q:Exit → Act → World → Prop) (S:World → Prop) (fuel:Nat) (ls:List Bool) (E:Env) (t:TW):Prop:=
 PanicOk Q → Step c.T c.t0 t → S t.w → ∀ a,Has c.n E a → wpAnyH P .any ops Q S fuel ls.toArray a t.w
def chk (ops:Array Oper) (ls:List Bool) (i:Nat):Bool:=Region.noSelect ops && (Region.free .any ops ls.toArray i && (Region.ready .any ops ls.toArray).contains i)
theorem chk_spec {ops:Array Oper} {ls:List Bool} {i:Nat} (h:chk ops ls i = true):Region.noSelect ops = true ∧ Region.free .any ops ls.toArray i = true ∧ (Region.ready .any ops ls.toArray).contains i = true:=by
 simp only [chk,Bool.and_eq_true] at h
 exact h
section
variable {c:Ctx} {ops:Array Oper} {Q Q' : Exit → Act → World → Prop} {S:World → Prop} {fuel:Nat} {ls:List Bool} {E:Env} {t:TW} {id:Nat} {y:Code}
theorem PanicOk.then_ {K:Act → World → Prop} (h:PanicOk Q):PanicOk (Exit.then K Q):=fun ch a d v w hq=>h ch a d v w hq
theorem PanicOk.blk (h:PanicOk Q):PanicOk (Exit.inBlock id Q):=fun ch a d v w hq=>h ch a d v w hq
theorem PanicOk.body {fn:Func} {R:Ending → World → Prop}:PanicOk (bodyPost P fn R):=fun ch a d v w hq=>by
 obtain ⟨h1,h2⟩:=hq
 refine ⟨?_,h2⟩
 cases d <;> exact h1
theorem WC.dr {l:List Oper} (S:World → Prop) (hQ:PanicOk Q) (hS:S t.drew.w) (h:DL c l.toArray Q S l.length (List.replicate l.length false) E t.drew):WC c (.region id l.toArray true) Q E t:=fun hs a ha=>by
 refine wp_region_held (S:=S) mixed ?_
 have:=h hQ (hs.trans t.drew_step.no) hS a ha
 simpa [TW.drew] using this
theorem WC.drs {l:List Oper} (S:World → Prop) (hQ:PanicOk Q) (hS:S t.drew.w) (h:DL c l.toArray (Exit.then (y.wp P Q) Q) S l.length (List.replicate l.length false) E t.drew):WC c (.seq (.region id l.toArray true) y) Q E t:=.seq (.dr S hQ.then_ hS h)
theorem DL.done (hr:Region.ready .any ops ls.toArray = []) (h:WQ c Q .normal E t):DL c ops Q S fuel ls E t:=fun _ hs _ a ha=>wpAnyH_done hr (h hs a ha) fuel
theorem DL.f {i d:Nat} {op:Op} {ty:TypeId} {pos:String} {af:Array Edge} {g:Option (Nat × Bool)} {v:Value} (hi:ops[i]? = some ⟨some d,op,ty,pos,af,g⟩) (hc:chk ops ls i = true)
  (h:Fr c.n ⟨some d,op,ty,pos,af,g⟩ E v) (k:DL c ops Q S fuel (ls.set i true) ((d,v) :: E) t) (hg:gd ops E g = some true:=by rfl) (hd:Nat.blt d c.n.n = true:=by rfl) :
  DL c ops Q S (fuel + 1) ls E t:=fun hQ hst hS a ha=>by
 refine wpAnyH_take hi (chk_spec hc).1 (chk_spec hc).2.1 (chk_spec hc).2.2 (fun ch a' w' hq=>hQ ch a' _ _ w' hq) (.inl ⟨ha.wanted (o:=⟨some d,op,ty,pos,af,g⟩) hg,fun w _=>h a w ha⟩) hS ?_
 have:=k hQ hst hS _ (ha.put (Nat.le_of_ble_eq_true hd) v)
 simpa using this
theorem DL.h {i d:Nat} {op:Op} {ty:TypeId} {pos:String} {af:Array Edge} {g:Option (Nat × Bool)} {v:Value} (hi:ops[i]? = some ⟨some d,op,ty,pos,af,g⟩) (hc:chk ops ls i = true)
  (h:∀ w,S w → Rd c.n ⟨some d,op,ty,pos,af,g⟩ E w v) (k:DL c ops Q S fuel (ls.set i true) ((d,v) :: E) t) (hg:gd ops E g = some true:=by rfl) (hd:Nat.blt d c.n.n = true:=by rfl) :
  DL c ops Q S (fuel + 1) ls E t:=fun hQ hst hS a ha=>by
 refine wpAnyH_take hi (chk_spec hc).1 (chk_spec hc).2.1 (chk_spec hc).2.2 (fun ch a' w' hq=>hQ ch a' _ _ w' hq) (.inl ⟨ha.wanted (o:=⟨some d,op,ty,pos,af,g⟩) hg,fun w hw=>h w hw a ha⟩) hS ?_
 have:=k hQ hst hS _ (ha.put (Nat.le_of_ble_eq_true hd) v)
 simpa using this
theorem DL.s {i d:Nat} {op:Op} {ty:TypeId} {pos:String} {af:Array Edge} {g:Option (Nat × Bool)} (hi:ops[i]? = some ⟨some d,op,ty,pos,af,g⟩) (hc:chk ops ls i = true)
  (k:DL c ops Q S fuel (ls.set i true) ((d,undef) :: E) t) (hg:gd ops E g = some false:=by rfl) (hd:Nat.blt d c.n.n = true:=by rfl) :
  DL c ops Q S (fuel + 1) ls E t:=fun hQ hst hS a ha=>by
 refine wpAnyH_take hi (chk_spec hc).1 (chk_spec hc).2.1 (chk_spec hc).2.2 (fun ch a' w' hq=>hQ ch a' _ _ w' hq) (.inr ⟨ha.wanted (o:=⟨some d,op,ty,pos,af,g⟩) hg,rfl⟩) hS ?_
 have:=k hQ hst hS _ (ha.put (Nat.le_of_ble_eq_true hd) undef)
 simpa using this
def DOp (c:Ctx) (ops:Array Oper) (Q:Exit → Act → World → Prop) (S:World → Prop) (fuel:Nat) (ls:List Bool) (E:Env) (t:TW) (i:Nat):Prop:=
 PanicOk Q → Step c.T c.t0 t → S t.w → ∀ a,Has c.n E a → wpOp P ops Q i (fun a' w' => S w' ∧ wpAnyH P .any ops Q S fuel (ls.toArray.setIfInBounds i true) a' w') a t.w
theorem DL.e1 {i:Nat} (hr:Region.ready .any ops ls.toArray = [i]) (h:DOp c ops Q S fuel ls E t i):DL c ops Q S (fuel + 1) ls E t:=fun hQ hst hS a ha=>
 wpAnyH_all hr (by simp) (fun j hj=>by
  obtain rfl:j = i:=by simpa using hj
  exact h hQ hst hS a ha)
theorem DL.e2 {i j:Nat} (hr:Region.ready .any ops ls.toArray = [i,j]) (h:DOp c ops Q S fuel ls E t i) (h' : DOp c ops Q S fuel ls E t j):DL c ops Q S (fuel + 1) ls E t:=fun hQ hst hS a ha=>
 wpAnyH_all hr (by simp) (fun k hk=>by
  have hk' : k = i ∨ k = j:=by simpa using hk
  rcases hk' with rfl | rfl
  ·exact h hQ hst hS a ha
  ·exact h' hQ hst hS a ha)
theorem DL.e3 {i j k:Nat} (hr:Region.ready .any ops ls.toArray = [i,j,k]) (h:DOp c ops Q S fuel ls E t i) (h' : DOp c ops Q S fuel ls E t j) (h'' : DOp c ops Q S fuel ls E t k):DL c ops Q S (fuel + 1) ls E t:=fun hQ hst hS a ha=>
 wpAnyH_all hr (by simp) (fun m hm=>by
  have hm' : m = i ∨ m = j ∨ m = k:=by simpa using hm
  rcases hm' with rfl | rfl | rfl
  ·exact h hQ hst hS a ha
  ·exact h' hQ hst hS a ha
  ·exact h'' hQ hst hS a ha)
section
variable {i d:Nat} {op:Op} {ty:TypeId} {pos:String} {af:Array Edge} {g:Option (Nat × Bool)} {v:Value}
theorem DOp.r (hi:ops[i]? = some ⟨some d,op,ty,pos,af,g⟩) (h:Rd c.n ⟨some d,op,ty,pos,af,g⟩ E t.w v) (k:DL c ops Q S fuel (ls.set i true) ((d,v) :: E) t) (hg:gd ops E g = some true:=by rfl) (hd:Nat.blt d c.n.n = true:=by rfl):DOp c ops Q S fuel ls E t i:=fun hQ hst hS a ha=>by
 unfold wpOp
 rw [hi]
 simp only [ha.wanted (o:=⟨some d,op,ty,pos,af,g⟩) hg,if_true,Oper.wp,h a ha,Oper.upon]
 refine .inl ⟨hS,?_⟩
 have:=k hQ hst hS _ (ha.put (Nat.le_of_ble_eq_true hd) v)
 simpa using this
theorem DOp.e {Φ:Value → TW → Prop} (hi:ops[i]? = some ⟨some d,op,ty,pos,af,g⟩) (h:Ef c ⟨some d,op,ty,pos,af,g⟩ E t Φ) (hS:∀ v t', Φ v t' → S t'.w) (k:∀ v t', Φ v t' → DL c ops Q S fuel (ls.set i true) ((d,v) :: E) t')
  (hg:gd ops E g = some true:=by rfl) (hd:Nat.blt d c.n.n = true:=by rfl):DOp c ops Q S fuel ls E t i:=fun hQ hst _ a ha=>by
 unfold wpOp
 rw [hi]
 simp only [ha.wanted (o:=⟨some d,op,ty,pos,af,g⟩) hg,if_true]
 refine .inl (h.out hst a ha _ _ fun v t' hst' hp=>⟨hS v t' hp,?_⟩)
 have:=k v t' hp hQ hst' (hS v t' hp) _ (ha.put (Nat.le_of_ble_eq_true hd) v)
 simpa using this
theorem DOp.e0 {Φ:Value → TW → Prop} (hi:ops[i]? = some ⟨none,op,ty,pos,af,g⟩) (h:Ef c ⟨none,op,ty,pos,af,g⟩ E t Φ) (hS:∀ v t', Φ v t' → S t'.w) (k:∀ v t', Φ v t' → DL c ops Q S fuel (ls.set i true) E t')
  (hg:gd ops E g = some true:=by rfl):DOp c ops Q S fuel ls E t i:=fun hQ hst _ a ha=>by
 unfold wpOp
 rw [hi]
 simp only [ha.wanted (o:=⟨none,op,ty,pos,af,g⟩) hg,if_true]
 refine .inl (h.out hst a ha _ _ fun v t' hst' hp=>⟨hS v t' hp,?_⟩)
 have:=k v t' hp hQ hst' (hS v t' hp) _ ha
 simpa [Act.put] using this
end
theorem lk_pin {s:Nat} {v:Value} (hv:lk E s = some v):∀ k u,lk ((s,v) :: E) k = some u → lk E k = some u:=fun k u hk=>by
 cases hb:Nat.beq s k
 ·simp only [lk,hb,cond_false] at hk
  exact hk
 ·simp only [lk,hb,cond_true] at hk
  obtain rfl:=Nat.eq_of_beq_eq_true hb
  rw [hv,hk]
theorem WC.condS {x:Code} {s:Nat} {b:Bool} (hl:lk E s = some (.bool b)) (ht:b = true → WC c x Q ((s,.bool true) :: E) t) (hf:b = false → WC c y Q ((s,.bool false) :: E) t):WC c (.cond (.tmp s) x y) Q E t:=by
 refine WC.cond (b:=b) hl (fun e=>?_) (fun e=>?_)
 ·subst e
  exact fun hs a ha=>ht rfl hs a (ha.weak (lk_pin hl))
 subst e
 exact fun hs a ha=>hf rfl hs a (ha.weak (lk_pin hl))
theorem DL.pin (s:Nat) {b:Bool} (hl:lk E s = some (.bool b)) (ht:b = true → DL c ops Q S fuel ls ((s,.bool true) :: E) t) (hf:b = false → DL c ops Q S fuel ls ((s,.bool false) :: E) t):DL c ops Q S fuel ls E t:=by
 cases b
 ·exact fun hQ hs hS a ha=>hf rfl hQ hs hS a (ha.weak (lk_pin hl))
 exact fun hQ hs hS a ha=>ht rfl hQ hs hS a (ha.weak (lk_pin hl))
theorem DL.re (s:Nat) {v v' : Value} (hl:lk E s = some v) (e:v = v') (h:DL c ops Q S fuel ls ((s,v') :: E) t):DL c ops Q S fuel ls E t:=fun hQ hs hS a ha=>by
 subst e
 exact h hQ hs hS a (ha.weak (lk_pin hl))
theorem DL.env (E' : Env) (hE:Sub E' E) (h:DL c ops Q S fuel ls E' t):DL c ops Q S fuel ls E t:=fun hQ hs hS a ha=>h hQ hs hS a (ha.weak hE.get)
/-! ### Where ways meet -/
def Jn {σ:Type} (c:Ctx) (I:σ → TW → Prop) (F:σ → Env):Act → World → Prop:=fun a w=>∃ s t', t'.w = w ∧ Step c.T c.t0 t' ∧ I s t' ∧ Has c.n (F s) a
theorem WC.seqJ {σ:Type} {x:Code} (I:σ → TW → Prop) (F:σ → Env) (h1:WC c x (Exit.then (Jn c I F) Q) E t) (h2:∀ s t', I s t' → WC c y Q (F s) t'):WC c (.seq x y) Q E t:=fun hs a ha=>by
 refine wp_seq (wp_mono (h1 hs a ha) fun e a' w' hq=>?_)
 cases e with
 | normal=>
  obtain ⟨s,t', rfl,hs', hI,hH⟩:=hq
  exact h2 s t' hI hs' a' hH
 | exit id=>exact hq
 | goto l=>exact hq
 | ret=>exact hq
 | panic ch=>exact hq
 | outgrown=>exact hq
theorem WQ.join {σ:Type} {I:σ → TW → Prop} {F:σ → Env} (s:σ) (hE:Sub (F s) E) (hI:I s t):WQ c (Exit.then (Jn c I F) Q) .normal E t:=fun hs a ha=>⟨s,t,rfl,hs,hI,ha.weak hE.get⟩
end
section
variable {c:Ctx} {ops:Array Oper} {Q:Exit → Act → World → Prop} {S:World → Prop} {fuel:Nat} {ls:List Bool} {E:Env} {t:TW} {op:Op} {ty:TypeId} {pos:String} {af:Array Edge} {g:Option (Nat × Bool)} {v:Value} {d:Nat} {x:Operand}
theorem DL.fx (i:Nat) (hi:ops[i]? = some ⟨some d,op,ty,pos,af,g⟩) (h:Fr c.n ⟨some d,op,ty,pos,af,g⟩ E v) (k:DL c ops Q S fuel (ls.set i true) ((d,v) :: E) t) (hc:chk ops ls i = true:=by kernel_rfl) (hg:gd ops E g = some true:=by rfl) (hd:Nat.blt d c.n.n = true:=by rfl):DL c ops Q S (fuel + 1) ls E t:=DL.f hi hc h k hg hd
theorem DL.hx (i:Nat) (hi:ops[i]? = some ⟨some d,op,ty,pos,af,g⟩) (h:∀ w,S w → Rd c.n ⟨some d,op,ty,pos,af,g⟩ E w v) (k:DL c ops Q S fuel (ls.set i true) ((d,v) :: E) t) (hc:chk ops ls i = true:=by kernel_rfl) (hg:gd ops E g = some true:=by rfl) (hd:Nat.blt d c.n.n = true:=by rfl):DL c ops Q S (fuel + 1) ls E t:=DL.h hi hc h k hg hd
theorem DL.sx (i:Nat) (hi:ops[i]? = some ⟨some d,op,ty,pos,af,g⟩) (k:DL c ops Q S fuel (ls.set i true) ((d,undef) :: E) t) (hc:chk ops ls i = true:=by kernel_rfl) (hg:gd ops E g = some false:=by rfl) (hd:Nat.blt d c.n.n = true:=by rfl):DL c ops Q S (fuel + 1) ls E t:=DL.s hi hc k hg hd
theorem DL.ex {Φ:Value → TW → Prop} (i:Nat) (hi:ops[i]? = some ⟨some d,op,ty,pos,af,g⟩) (h:Ef c ⟨some d,op,ty,pos,af,g⟩ E t Φ) (hS:∀ v t', Φ v t' → S t'.w) (k:∀ v t', Φ v t' → DL c ops Q S fuel (ls.set i true) ((d,v) :: E) t') (hr:Region.ready .any ops ls.toArray = [i]:=by kernel_rfl) (hg:gd ops E g = some true:=by rfl) (hd:Nat.blt d c.n.n = true:=by rfl):DL c ops Q S (fuel + 1) ls E t:=DL.e1 hr (DOp.e hi h hS k hg hd)
theorem DL.e0x {Φ:Value → TW → Prop} (i:Nat) (hi:ops[i]? = some ⟨none,op,ty,pos,af,g⟩) (h:Ef c ⟨none,op,ty,pos,af,g⟩ E t Φ) (hS:∀ v t', Φ v t' → S t'.w) (k:∀ v t', Φ v t' → DL c ops Q S fuel (ls.set i true) E t') (hr:Region.ready .any ops ls.toArray = [i]:=by kernel_rfl) (hg:gd ops E g = some true:=by rfl):DL c ops Q S (fuel + 1) ls E t:=DL.e1 hr (DOp.e0 hi h hS k hg)
theorem DL.rx (i:Nat) (hi:ops[i]? = some ⟨some d,op,ty,pos,af,g⟩) (h:Rd c.n ⟨some d,op,ty,pos,af,g⟩ E t.w v) (k:DL c ops Q S fuel (ls.set i true) ((d,v) :: E) t) (hr:Region.ready .any ops ls.toArray = [i]:=by kernel_rfl) (hg:gd ops E g = some true:=by rfl) (hd:Nat.blt d c.n.n = true:=by rfl):DL c ops Q S (fuel + 1) ls E t:=DL.e1 hr (DOp.r hi h k hg hd)
theorem DL.m (i:Nat) (hi:ops[i]? = some ⟨some d,.move x,ty,pos,af,g⟩) (h:ev E x = some v) (k:DL c ops Q S fuel (ls.set i true) ((d,v) :: E) t) (hc:chk ops ls i = true:=by kernel_rfl) (hg:gd ops E g = some true:=by rfl) (hd:Nat.blt d c.n.n = true:=by rfl):DL c ops Q S (fuel + 1) ls E t:=DL.f hi hc (Fr.mv h) k hg hd
theorem DL.D (h:WQ c Q .normal E t) (hr:Region.ready .any ops ls.toArray = []:=by kernel_rfl):DL c ops Q S fuel ls E t:=DL.done hr h
end
/-! ### 1. Kinds -/
structure Kn (α:Type) where
 k:Nat
 R:TW → α → List Value → Prop
 len:∀ {t x c},R t x c → c.length = k
 one:∀ {t x c},R t x c → ∀ u ∈ c,u.oneCell' = true
 stp:∀ {T t t' x c},Step T t t' → ¬ T .fz → R t x c → R t' x c
def Kn.flat {α:Type} (k:Nat) (enc:α → List Value) (hk:∀ x,(enc x).length = k) (h1:∀ x,∀ u ∈ enc x,u.oneCell' = true):Kn α where
 k:=k
 R:=fun _ x c=>c = enc x
 len:=by rintro _ x _ rfl; exact hk x
 one:=by rintro _ x _ rfl; exact h1 x
 stp:=fun _ _ h=>h
def kInt (q:IntKind):Kn Int:=Kn.flat 1 (fun x=>[.int q x]) (fun _=>rfl) (fun x u hu=>by rw [List.mem_singleton.1 hu]; rfl)
def kStr:Kn ByteArray:=Kn.flat 1 (fun x=>[.string x]) (fun _=>rfl) (fun x u hu=>by rw [List.mem_singleton.1 hu]; rfl)
def seg (cs:List Value) (k i:Nat):List Value:=(cs.drop (i * k)).take k
theorem seg_get {cs:List Value} {k i j:Nat} {v:Value} (h:(seg cs k i)[j]? = some v):cs[i * k + j]? = some v:=by
 unfold seg at h
 rw [List.getElem?_take] at h
 split at h
 ·simpa using h
 cases h
/-! ### 2. Slices that are read -/
section
variable {α:Type} {d:Kn α} {t t' : TW} {T:Tag → Prop} {v:Value} {xs:List α}
def Sl (t:TW) (d:Kn α) (v:Value) (xs:List α):Prop:=
 ∃ A cap,v = .slice A xs.length cap ∧ xs.length ≤ cap ∧ (xs ≠ [] → ∃ b o,A = some ⟨b,o,none⟩ ∧ b < t.w.heap.size ∧ t.own b = .fz ∧ ∀ i x,xs[i]? = some x → ∃ c,d.R t x c ∧ At t.w b (o + i * d.k) c)
theorem At.of_block {w w' : World} {b o:Nat} {c:List Value} (h:At w b o c) (hb:w'.heap[b]? = w.heap[b]?):At w' b o c:=fun j v hj=>by
 have:=h j v hj
 rw [← this]
 simp only [World.cell?,hb]
theorem Sl.step (h:Sl t d v xs) (s:Step T t t') (hT:¬ T .fz):Sl t' d v xs:=by
 obtain ⟨A,cap,e,hc,hr⟩:=h
 refine ⟨A,cap,e,hc,fun hne=>?_⟩
 obtain ⟨b,o,ea,hlt,hf,hx⟩:=hr hne
 obtain ⟨k1,k2⟩:=s.keep b hlt (by rw [hf]; exact hT)
 refine ⟨b,o,ea,Nat.lt_of_lt_of_le hlt s.size,k1.trans hf,fun i x hi=>?_⟩
 obtain ⟨c,hR,hA⟩:=hx i x hi
 exact ⟨c,d.stp s hT hR,hA.of_block k2⟩
theorem Sl.n (h:Sl t d v xs) (s:Step T t t') (hT:¬ T .fz:=by first | exact id | nofun | (rintro (h | h) <;> cases h) | (rintro (h | h | h) <;> cases h)):Sl t' d v xs:=h.step s hT
theorem Sl.nil (t:TW) (d:Kn α) (A:Option Addr) (cap:Nat):Sl t d (.slice A 0 cap) []:=⟨A,cap,rfl,Nat.zero_le _,fun h=>absurd rfl h⟩
theorem Sl.at_ (h:Sl t d v xs) {i:Nat} {x:α} (hi:xs[i]? = some x):∃ b o cap c,v = .slice (some ⟨b,o,none⟩) xs.length cap ∧ xs.length ≤ cap ∧ d.R t x c ∧ At t.w b (o + i * d.k) c ∧ b < t.w.heap.size ∧ t.own b = .fz:=by
 obtain ⟨A,cap,e,hc,hr⟩:=h
 obtain ⟨b,o,rfl,hlt,hf,hx⟩:=hr (by rintro rfl; cases hi)
 obtain ⟨c,hR,hA⟩:=hx i x hi
 exact ⟨b,o,cap,c,e,hc,hR,hA,hlt,hf⟩
theorem Sl.form (h:Sl t d v xs):∃ A cap,v = .slice A xs.length cap ∧ xs.length ≤ cap:=by
 obtain ⟨A,cap,e,hc,_⟩:=h
 exact ⟨A,cap,e,hc⟩
theorem At.step {b o:Nat} {c:List Value} (h:At t.w b o c) (s:Step T t t') (hlt:b < t.w.heap.size) (hT:¬ T (t.own b)):At t'.w b o c:=h.of_block (s.keep b hlt hT).2
end
/-! ### 3. Rows that are owned -/
section
variable {α:Type} {d:Kn α} {t t' : TW} {T:Tag → Prop} {g:Tag} {B e:Nat} {v:Value} {xs:List α}
structure Row (t:TW) (g:Tag) (B e:Nat) (d:Kn α) (v:Value) (xs:List α):Prop where
 out:∃ inner:List Value,t.w.ownsRow B e d.k v xs.length inner ∧ (∀ b,v.ownBlock = some b → t.own b = g) ∧ ∀ i x,xs[i]? = some x → d.R t x (seg inner d.k i)
theorem Row.nil (t:TW) (g:Tag) (B e:Nat) (d:Kn α):Row t g B e d (.slice none 0 0) []:=⟨[],World.ownsRow_nil _ _ _ _,fun b hb=>by simp [Value.ownBlock] at hb,fun i x h=>by cases h⟩
theorem Row.step (h:Row t g B e d v xs) (s:Step T t t') (hg:¬ T g) (hT:¬ T .fz):Row t' g B e d v xs:=by
 obtain ⟨inner,ho,ht,hx⟩:=h
 have hk:∀ b,v.ownBlock = some b → t'.own b = g ∧ t'.w.heap[b]? = t.w.heap[b]?:=fun b hb=>by
  obtain ⟨k1,k2⟩:=s.keep b (ho.lt b hb).2 (by rw [ht b hb]; exact hg)
  exact ⟨k1.trans (ht b hb),k2⟩
 refine ⟨inner,⟨ho.1,?_⟩,fun b hb=>(hk b hb).1,fun i x hi=>d.stp s hT (hx i x hi)⟩
 rcases ho.2 with hn | ⟨q,cap,cur,rfl,hB,hq,rest⟩
 ·exact .inl hn
 exact .inr ⟨q,cap,cur,rfl,hB,(hk q (by simp [Value.ownBlock])).2.trans hq,rest⟩
theorem Row.n (h:Row t g B e d v xs) (s:Step T t t') (hg:¬ T g:=by first | exact id | nofun | (rintro (h | h) <;> cases h) | (rintro (h | h | h) <;> cases h)) (hT:¬ T .fz:=by first | exact id | nofun | (rintro (h | h) <;> cases h) | (rintro (h | h | h) <;> cases h)):Row t' g B e d v xs:=h.step s hg hT
theorem Row.form (h:Row t g B e d v xs):∃ A cap,v = .slice A xs.length cap ∧ xs.length ≤ cap:=by
 obtain ⟨inner,ho,_⟩:=h
 rcases ho.2 with ⟨rfl,hn⟩ | ⟨q,cap,cur,rfl,hB,hq,hc,_⟩
 ·exact ⟨none,0,by rw [hn],by omega⟩
 exact ⟨_,cap,rfl,hc⟩
theorem Row.block (h:Row t g B e d v xs) (hne:xs ≠ []):∃ b cap cs,v = .slice (some ⟨b,0,none⟩) xs.length cap ∧ B ≤ b ∧ Bk t b cs e g ∧ xs.length ≤ cap ∧ cs.length = cap * d.k ∧ cap ≤ maxLen ∧ ∀ i x,xs[i]? = some x → d.R t x (seg cs d.k i):=by
 obtain ⟨inner,ho,ht,hx⟩:=h
 rcases ho.2 with ⟨rfl,hn⟩ | ⟨q,cap,cur,rfl,hB,hq,hc,hm,hs,htk⟩
 ·exact absurd (List.eq_nil_of_length_eq_zero hn) hne
 refine ⟨q,cap,cur.toList,rfl,hB,⟨by simpa using hq,ht q (by simp [Value.ownBlock])⟩,hc,by simpa using hs,hm,fun i x hi=>?_⟩
 have:=hx i x hi
 have hlt:=(List.getElem?_eq_some_iff.1 hi).1
 have e:seg inner d.k i = seg cur.toList d.k i:=by
  unfold seg
  rw [← htk,List.drop_take,List.take_take]
  congr 1
  have:(i + 1) * d.k ≤ xs.length * d.k:=Nat.mul_le_mul_right _ hlt
  rw [Nat.add_mul] at this
  omega
 rw [← e]
 exact this
theorem Row.of_block {b cap:Nat} {cs:List Value} (hb:Bk t b cs e g) (hB:B ≤ b) (hc:xs.length ≤ cap) (hs:cs.length = cap * d.k) (hm:cap ≤ maxLen) (hx:∀ i x,xs[i]? = some x → d.R t x (seg cs d.k i)):Row t g B e d (.slice (some ⟨b,0,none⟩) xs.length cap) xs:=by
 refine ⟨cs.take (xs.length * d.k),⟨?_,.inr ⟨b,cap,cs.toArray,rfl,hB,hb.1,hc,hm,by simpa using hs,by simp⟩⟩,fun q hq=>?_,fun i x hi=>?_⟩
 ·rw [List.length_take,hs]
  exact Nat.min_eq_left (Nat.mul_le_mul_right _ hc)
 ·simp [Value.ownBlock] at hq
  subst hq
  exact hb.2
 have hlt:=(List.getElem?_eq_some_iff.1 hi).1
 have e:seg (cs.take (xs.length * d.k)) d.k i = seg cs d.k i:=by
  unfold seg
  rw [List.drop_take,List.take_take]
  congr 1
  have:(i + 1) * d.k ≤ xs.length * d.k:=Nat.mul_le_mul_right _ hlt
  rw [Nat.add_mul] at this
  omega
 rw [e]
 exact hx i x hi
theorem Row.mono {B' : Nat} (h:Row t g B e d v xs) (hB:B' ≤ B):Row t g B' e d v xs:=by
 obtain ⟨inner,ho,ht,hx⟩:=h
 refine ⟨inner,⟨ho.1,?_⟩,ht,hx⟩
 rcases ho.2 with hn | ⟨q,cap,cur,rfl,hb,rest⟩
 ·exact .inl hn
 exact .inr ⟨q,cap,cur,rfl,Nat.le_trans hB hb,rest⟩
theorem seg_at {b:Nat} {cs:List Value} {k i:Nat} (hb:Bk t b cs e g):At t.w b (i * k) (seg cs k i):=fun j v hj=>hb.cell (seg_get hj)
theorem Row.at_ (h:Row t g B e d v xs) {i:Nat} {x:α} (hi:xs[i]? = some x):∃ b cap c,v = .slice (some ⟨b,0,none⟩) xs.length cap ∧ xs.length ≤ cap ∧ d.R t x c ∧ At t.w b (i * d.k) c ∧ b < t.w.heap.size ∧ t.own b = g:=by
 obtain ⟨b,cap,cs,rfl,_,hb,hc,hs,_,hx⟩:=h.block (by rintro rfl; cases hi)
 exact ⟨b,cap,_,rfl,hc,hx i x hi,seg_at hb,hb.lt,hb.2⟩
def TW.tag (t:TW) (b:Nat) (g:Tag):TW:=⟨t.w,fun k=>if k = b then g else t.own k⟩
def TW.tagv (t:TW) (v:Value) (g:Tag):TW:=⟨t.w,fun k=>if v.ownBlock = some k then g else t.own k⟩
theorem TW.tagv_step (t:TW) {v:Value} {g g' : Tag} (h:∀ b,v.ownBlock = some b → t.own b = g):Step (fun q=>q = g) t (t.tagv v g'):=
 ⟨rfl,rfl,rfl,Nat.le_refl _,fun k hk hn=>⟨by
  simp only [TW.tagv]
  rw [if_neg]
  intro e
  exact hn (h k e),rfl⟩⟩
theorem Row.tags (h:Row t g B e d v xs):∀ b,v.ownBlock = some b → t.own b = g:=by
 obtain ⟨inner,ho,ht,hx⟩:=h
 exact ht
theorem Row.base (h:Row t g B e d v xs):∀ b,v.ownBlock = some b → B ≤ b:=by
 obtain ⟨inner,ho,ht,hx⟩:=h
 exact fun b hb=>(ho.lt b hb).1
theorem Row.freeze (h:Row t g B e d v xs) (hg:g ≠ .fz):Sl (t.tagv v .fz) d v xs:=by
 have hs:=t.tagv_step (g' := .fz) h.tags
 obtain ⟨A,cap,rfl,hc⟩:=h.form
 refine ⟨A,cap,rfl,hc,fun hne=>?_⟩
 obtain ⟨b,cap', cs,e1,hB,hb,_,hl,_,hx⟩:=h.block hne
 injection e1 with e1 e2 e3
 subst e1
 refine ⟨b,0,rfl,hb.lt,by simp [TW.tagv,Value.ownBlock],fun i x hi=>⟨_,d.stp hs (fun e=>hg e.symm) (hx i x hi),?_⟩⟩
 rw [Nat.zero_add]
 exact seg_at (t:=t) hb
end
/-! ### 4. Tags turned in the walk -/
section
variable {c:Ctx} {ops:Array Oper} {Q:Exit → Act → World → Prop} {l:List Oper} {E:Env} {t:TW} {x:Code} {e:Exit}
theorem tag_from {t0:TW} {T:Tag → Prop} {v:Value} (g' : Tag) (hb:(∀ b,v.ownBlock = some b → t0.w.heap.size ≤ b) ∨ ∃ g,T g ∧ ∀ b,v.ownBlock = some b → t.own b = g) (s:Step T t0 t):Step T t0 (t.tagv v g'):=
 ⟨s.os,s.tape,s.output,s.size,fun k hk hn=>by
  obtain ⟨h1,h2⟩:=s.keep k hk hn
  refine ⟨?_,h2⟩
  simp only [TW.tagv]
  rw [if_neg]
  ·exact h1
  ·intro ev
   rcases hb with hb | ⟨g,hg,hb⟩
   ·have:=hb k ev
    omega
   ·rw [hb k ev] at h1
    rw [← h1] at hn
    exact hn hg⟩
theorem WQ.tag (v:Value) (g' : Tag) (hb:(∀ b,v.ownBlock = some b → c.t0.w.heap.size ≤ b) ∨ ∃ g,c.T g ∧ ∀ b,v.ownBlock = some b → t.own b = g) (h:WQ c Q e E (t.tagv v g')):WQ c Q e E t:=fun hs a ha=>h (tag_from g' hb hs) a ha
theorem WC.tag (v:Value) (g' : Tag) (hb:(∀ b,v.ownBlock = some b → c.t0.w.heap.size ≤ b) ∨ ∃ g,c.T g ∧ ∀ b,v.ownBlock = some b → t.own b = g) (h:WC c x Q E (t.tagv v g')):WC c x Q E t:=fun hs a ha=>h (tag_from g' hb hs) a ha
theorem WL.tag (v:Value) (g' : Tag) (hb:(∀ b,v.ownBlock = some b → c.t0.w.heap.size ≤ b) ∨ ∃ g,c.T g ∧ ∀ b,v.ownBlock = some b → t.own b = g) (h:WL c ops Q l E (t.tagv v g')):WL c ops Q l E t:=fun hs a ha=>h (tag_from g' hb hs) a ha
end
/-! ### 5. Operations -/
section
variable {n:Sz} {c:Ctx} {E:Env} {dd:Option Nat} {ty:TypeId} {pos:String} {af:Array Edge} {gd:Option (Nat × Bool)} {x y:Operand} {v:Value} {t:TW}
theorem parts_eval {a:Act} (ha:Has n E a):∀ {ps:List (Nat × Operand)} {vs:List (Nat × Value)},ps.map (fun p=>(p.1,(ev E p.2))) = vs.map (fun p=>(p.1,some p.2)) → ps.map (fun p=>(p.1,a.eval p.2)) = vs
 | [],[],_=>rfl
 | [],_ :: _,h=>by cases h
 | _ :: _,[],h=>by cases h
 | p :: ps,v :: vs,h=>by
  simp only [List.map_cons,List.cons.injEq,Prod.mk.injEq] at h
  rw [List.map_cons,parts_eval ha h.2,h.1.1,ha.ev h.1.2]
theorem Ef.bs {q len e:Nat} (gt:Tag) {ps:List (Nat × Operand)} {vs:List (Nat × Value)} {cs:List Value} (hp:ps.map (fun p=>(p.1,(ev E p.2))) = vs.map (fun p=>(p.1,some p.2)))
  (hb:∀ w:World,(Instr.buildSlice q len vs.toArray).run P w = .ok (.slice (some ⟨w.heap.size,0,none⟩) len len) (w.alloc (.cells cs.toArray e))) :
  Ef c ⟨dd,.buildSlice q len ps.toArray,ty,pos,af,gd⟩ E t (NewB c t cs e gt fun b=>.slice (some ⟨b,0,none⟩) len len):=.mk fun hs a ha K Q hk=>by
 have hv:=parts_eval ha hp
 unfold Oper.wp
 have:(execOp a.eval ⟨dd,.buildSlice q len ps.toArray,ty,pos,af,gd⟩).run P t.w = .ok (.value (.slice (some ⟨t.w.heap.size,0,none⟩) len len)) (t.alloc cs e gt).w:=by
  simp only [execOp,List.map_toArray]
  rw [show (List.map (fun x=>match x with | (i,x)=>(i,a.eval x)) ps) = vs from hv,Sem.run_bind,hb t.w]
  rfl
 rw [this]
 exact hk _ _ (hs.trans (t.alloc_step cs e gt).no) (NewB.mk_ hs cs e gt fun b=>.slice (some ⟨b,0,none⟩) len len)
theorem Fr.slH {q e k len cap:Nat} {A:Option Addr} {kk:IntKind} {i:Int} (h:ev E x = some (.slice A len cap)) (hi:ev E y = some (.int kk i)) (ht:SlT q e k) (h0:0 ≤ i) (h1:i ≤ cap) :
  Fr n ⟨dd,.slice q x none (some y) none,ty,pos,af,gd⟩ E (.slice A i.toNat cap):=fun a w ha=>by
 have hh:(Instr.sliceBounds true len cap none (some (.int kk i)) none).run P w = .ok (0,i.toNat,cap) w:=by
  simp [Instr.sliceBounds,Instr.sliceBound,asIntOf,h0,h1]
 simp only [execOp,ha.ev h,ha.ev hi,Option.map_none,Option.map_some,Instr.sliceAt,Instr.slice,Sem.run_bind,run_under ht.1,Result.andThen_ok,hh,ht.2.run,Sem.run_pure]
 congr 3
 by_cases hc:cap = 0
 ·simp [hc]
 ·rw [if_neg hc]
  cases A <;> simp [Addr.add]
theorem Fr.slT {q e k len cap:Nat} {A:Option Addr} {kk:IntKind} {i:Int} (h:ev E x = some (.slice A len cap)) (hi:ev E y = some (.int kk i)) (ht:SlT q e k) (h0:0 ≤ i) (h1:i ≤ len) :
  Fr n ⟨dd,.slice q x (some y) none none,ty,pos,af,gd⟩ E (.slice (if cap = i.toNat then A else A.map (·.add (i.toNat * k))) (len - i.toNat) (cap - i.toNat)):=fun a w ha=>by
 have hh:(Instr.sliceBounds true len cap (some (.int kk i)) none none).run P w = .ok (i.toNat,len,cap) w:=by
  simp [Instr.sliceBounds,Instr.sliceBound,asIntOf,h0,h1]
 simp only [execOp,ha.ev h,ha.ev hi,Option.map_none,Option.map_some,Instr.sliceAt,Instr.slice,Sem.run_bind,run_under ht.1,Result.andThen_ok,hh,ht.2.run,Sem.run_pure]
end
section
variable {α:Type} {dk:Kn α} {c:Ctx} {E:Env} {dd:Option Nat} {ty:TypeId} {pos:String} {af:Array Edge} {gd:Option (Nat × Bool)} {x y:Operand} {v:Value} {t:TW} {g:Tag} {B e:Nat} {xs:List α}
structure El (e k bytes:Nat) (z:Value):Prop where
 h:(P.info? e).map (fun i=>(i.zero,i.size,i.bytes)) = some (some z,k,bytes)
 c:z.cells.size = k
theorem info_get {q:Option TypeInfo} {z:Value} {k bytes:Nat} (h:q.map (fun i=>(i.zero,i.size,i.bytes)) = some (some z,k,bytes)) :
  q = some (q.getD default) ∧ (q.getD default).zero = some z ∧ (q.getD default).size = k ∧ (q.getD default).bytes = bytes:=by
 cases q with
 | none=>cases h
 | some i=>
  simp at h
  exact ⟨rfl,h.1,h.2.1,h.2.2⟩
def Els (dk:Kn α) (t:TW) (ys:List α) (news:List Value):Prop:=news.length = ys.length * dk.k ∧ ∀ i y,ys[i]? = some y → dk.R t y (seg news dk.k i)
theorem Els.one_ {y:α} {c:List Value} (h:dk.R t y c):Els dk t [y] c:=⟨by simp [dk.len h],fun i z hi=>by
 cases i with
 | zero=>
  simp at hi
  subst hi
  have:seg c dk.k 0 = c:=by
   unfold seg
   simp only [Nat.zero_mul,List.drop_zero]
   rw [List.take_of_length_le (by rw [dk.len h]; exact Nat.le_refl _)]
  rw [this]
  exact h
 | succ i=>simp at hi⟩
theorem mem_seg {cs:List Value} {k n:Nat} (hl:cs.length = n * k) {u:Value} (h:u ∈ cs):∃ i,i < n ∧ u ∈ seg cs k i:=by
 obtain ⟨j,hj,rfl⟩:=List.getElem_of_mem h
 have hk:0 < k:=by
  rcases Nat.eq_zero_or_pos k with h0 | h0
  ·subst h0
   simp at hl
   subst hl
   simp at hj
  exact h0
 refine ⟨j / k,?_,?_⟩
 ·rw [hl,Nat.mul_comm] at hj
  exact Nat.div_lt_of_lt_mul hj
 unfold seg
 have hm:j % k < k:=Nat.mod_lt _ hk
 have hd:j / k * k + j % k = j:=by
  rw [Nat.mul_comm]
  exact Nat.div_add_mod j k
 apply List.mem_iff_getElem?.2
 refine ⟨j % k,?_⟩
 rw [List.getElem?_take,if_pos hm,List.getElem?_drop,hd]
 exact List.getElem?_eq_getElem hj
theorem Els.one {ys:List α} {news:List Value} (h:Els dk t ys news):∀ u ∈ news,u.oneCell' = true:=fun u hu=>by
 obtain ⟨i,hi,hm⟩:=mem_seg h.1 hu
 exact dk.one (h.2 i _ (List.getElem?_eq_getElem hi)) u hm
theorem seg_append {as_ bs:List Value} {k i n:Nat} (hl:as_.length = n * k):seg (as_ ++ bs) k i = if i < n then seg as_ k i else seg bs k (i - n):=by
 unfold seg
 split
 ·rename_i hlt
  have:(i + 1) * k ≤ n * k:=Nat.mul_le_mul_right _ hlt
  rw [Nat.add_mul] at this
  rw [List.drop_append_of_le_length (by omega),List.take_append_of_le_length (by rw [List.length_drop]; omega)]
 rename_i hge
 have hk:n * k ≤ i * k:=Nat.mul_le_mul_right _ (by omega)
 rw [List.drop_append,List.drop_of_length_le (by omega),List.nil_append,hl,Nat.sub_mul]
theorem Els.step {T:Tag → Prop} {t' : TW} {ys:List α} {news:List Value} (h:Els dk t ys news) (s:Step T t t') (hT:¬ T .fz):Els dk t' ys news:=⟨h.1,fun i y hi=>dk.stp s hT (h.2 i y hi)⟩
theorem Els.n {T:Tag → Prop} {t' : TW} {ys:List α} {news:List Value} (h:Els dk t ys news) (s:Step T t t') (hT:¬ T .fz:=by first | exact id | nofun | (rintro (h | h) <;> cases h) | (rintro (h | h | h) <;> cases h)):Els dk t' ys news:=h.step s hT
theorem Ef.ap {q k bytes m cap:Nat} {ad:Addr} {ys:List α} {news:List Value} (h:ev E x = some v) (h' : ev E y = some (.slice (some ad) m cap)) (ht:SlT q e k) {z:Value} (he:El e dk.k bytes z) (hk0:0 < dk.k) (hr:Row t g B e dk v xs) (hm:m = ys.length) (hn:Els dk t ys news)
  (hc:∀ j u,news[j]? = some u → t.w.cell? (ad.add j) = some u) (hB:B ≤ t.w.heap.size) (hlen:xs.length + ys.length ≤ 1000000) (hby:bytes ≤ 1000) (hg:g ≠ .fz) (hT:c.t0.w.heap.size ≤ B ∨ c.T g) :
  Ef c ⟨dd,.call { callee:=.builtin .append,args:=#[x,y],argTypes:=#[q,q] },ty,pos,af,gd⟩ E t (fun v' t' => Step (fun z=>z = g) t t' ∧ Row t' g B e dk v' (xs ++ ys)):=.mk fun hs a ha K Q hk=>by
 have hi:=(info_get he.h).1
 have hz:=(info_get he.h).2.1
 have hsz:=(info_get he.h).2.2.1
 have hb:=(info_get he.h).2.2.2
 have hzs:=he.c
 generalize (P.info? e).getD default = i0 at hi hz hsz hb
 obtain ⟨inner,ho,htg,hx⟩:=hr
 subst hm
 have hmul:(xs.length + ys.length) * bytes ≤ 1000000 * 1000:=Nat.mul_le_mul hlen hby
 refine Exists.elim (run_append_own_at (P:=P) t.w B q ty e i0 z dk.k bytes ht.1 hi hz hsz hb hzs hk0 v xs.length inner ho ad ys.length cap news hn.1 hc hn.one (by simp only [maxLen]; omega) (by omega) hB) fun v' hh=>Exists.elim hh fun w' hh=>?_
 have hrun:=hh.1
 have hown:=hh.2.1
 have hgr:=hh.2.2.1
 have hat:=hh.2.2.2.2
 clear hh
 let t' : TW:=⟨w', fun k=>if t.w.heap.size ≤ k then g else t.own k⟩
 have hst:Step (fun z=>z = g) t t' := ⟨hgr.os,hgr.tape,hgr.output,hgr.size,fun k hk hn=>by
  refine ⟨by simp only [t']; rw [if_neg (by omega)],hgr.block k hk ?_⟩
  intro ev
  exact hn (htg k ev.symm)⟩
 have hfz:¬ (fun z=>z = g) Tag.fz:=fun e=>hg e.symm
 have hrow:Row t' g B e dk v' (xs ++ ys):=by
  refine ⟨inner ++ news,by simpa using hown,fun b hb=>?_,fun i u hu=>?_⟩
  ·simp only [t']
   by_cases hlt:t.w.heap.size ≤ b
   ·rw [if_pos hlt]
   ·rw [if_neg hlt]
    rcases hat with hat | hat
    ·rw [hat] at hb
     exact htg b hb
    ·rw [hat] at hb
     exact absurd (Nat.le_of_eq (Option.some.inj hb)) hlt
  ·rw [seg_append ho.1]
   split
   ·rename_i hlt
    rw [List.getElem?_append_left hlt] at hu
    exact dk.stp hst hfz (hx i u hu)
   ·rename_i hge
    rw [List.getElem?_append_right (by omega)] at hu
    exact dk.stp hst hfz (hn.2 _ u hu)
 have hfrom:Step c.T c.t0 t' := ⟨hgr.os.trans hs.os,hgr.tape.trans hs.tape,hgr.output.trans hs.output,Nat.le_trans hs.size hgr.size,fun k hk hnT=>by
  obtain ⟨h1,h2⟩:=hs.keep k hk hnT
  have hkt:=Nat.lt_of_lt_of_le hk hs.size
  refine ⟨?_,(hgr.block k hkt ?_).trans h2⟩
  ·simp only [t']
   rw [if_neg (by omega)]
   exact h1
  ·intro ev
   have hbg:=(ho.lt k ev.symm).1
   rcases hT with hT | hT
   ·omega
   ·rw [htg k ev.symm] at h1
    rw [← h1] at hnT
    exact hnT hT⟩
 unfold Oper.wp
 have:(execOp a.eval ⟨dd,.call { callee:=.builtin .append,args:=#[x,y],argTypes:=#[q,q] },ty,pos,af,gd⟩).run P t.w = .ok (.value v') w' := by
  simp only [execOp,resolve,invoke,builtin,Sem.run_bind,Sem.run_pure,Result.andThen_ok,List.map_toArray,List.map_cons,List.map_nil,ha.ev h,ha.ev h', hrun]
 rw [this]
 exact hk v' t' hfrom ⟨hst,hrow⟩
theorem Ef.apN {q k cap cap' : Nat} {A:Option Addr} {len:Nat} (h:ev E x = some (.slice A len cap)) (h' : ev E y = some (.slice none 0 cap')) (ht:SlT q e k) (hl:len ≤ cap) :
  Ef c ⟨dd,.call { callee:=.builtin .append,args:=#[x,y],argTypes:=#[q,q] },ty,pos,af,gd⟩ E t (fun v' t' => v' = .slice A len cap ∧ t' = t):=.mk fun hs a ha K Q hk=>by
 unfold Oper.wp
 have hrun:(Builtin.append_ #[q,q] ty #[.slice A len cap,.slice none 0 cap']).run P t.w = .ok (.slice A len cap) t.w:=by
  cases A <;> simp [Builtin.append_,run_under ht.1,ht.2.run,Builtin.lenOf,Builtin.firstCells,hl,storeCells]
 have:(execOp a.eval ⟨dd,.call { callee:=.builtin .append,args:=#[x,y],argTypes:=#[q,q] },ty,pos,af,gd⟩).run P t.w = .ok (.value (.slice A len cap)) t.w:=by
  simp only [execOp,resolve,invoke,builtin,Sem.run_bind,Sem.run_pure,Result.andThen_ok,List.map_toArray,List.map_cons,List.map_nil,ha.ev h,ha.ev h', hrun]
 rw [this]
 exact hk _ t hs ⟨rfl,rfl⟩
theorem from_upd {c:Ctx} {t t' : TW} {b:Nat} {cs:List Value} {e:TypeId} {g:Tag} (hb:Bk t b cs e g) (hT:c.t0.w.heap.size ≤ b ∨ c.T g) (hu:Upd b t t') (hs:Step c.T c.t0 t):Step c.T c.t0 t' := by
 refine hu.from hs ?_
 rcases hT with hT | hT
 ·exact .inl hT
 by_cases hlt:b < c.t0.w.heap.size
 ·by_cases hT0:c.T (c.t0.own b)
  ·exact .inr hT0
  have:=(hs.keep b hlt hT0).1
  rw [hb.2] at this
  rw [this] at hT
  exact .inr hT
 exact .inl (by omega)
theorem Ef.cpy {q q' e' k b o dLen dCap sLen sCap b' o' : Nat} {cs news:List Value} (h:ev E x = some (.slice (some ⟨b,o,none⟩) dLen dCap)) (h' : ev E y = some (.slice (some ⟨b', o', none⟩) sLen sCap)) (ht:SlT q e' k) (hb:Bk t b cs e g)
  (hn:news.length = min sLen dLen * k) (hA:At t.w b' o' news) (h1:∀ u ∈ news,u.oneCell' = true) (hfit:o + news.length ≤ cs.length) (hT:c.t0.w.heap.size ≤ b ∨ c.T g) :
  Ef c ⟨dd,.call { callee:=.builtin .copy,args:=#[x,y],argTypes:=#[q,q'] },ty,pos,af,gd⟩ E t (fun _ t' => Stored t b (put cs o news) e g t'):=.mk fun hs a ha K Q hk=>by
 have hl:(loadCells ⟨b', o', none⟩ news.length).run P t.w = .ok news.toArray t.w:=run_loadCells_list (P:=P) t.w ⟨b', o', none⟩ news (fun j v hv=>by rw [add_at]; exact hA j v hv)
 have hst:=run_storeCells_at P b o e news 0 cs.toArray t.w hb.1 (by simpa using hfit) h1
 simp only [Nat.add_zero] at hst
 have hrun:(Builtin.copy_ #[q,q'] ty #[.slice (some ⟨b,o,none⟩) dLen dCap,.slice (some ⟨b', o', none⟩) sLen sCap]).run P t.w = .ok (goInt (min sLen dLen:Nat)) (t.set b (put cs o news)).w:=by
  have e1:Nat.min sLen dLen = min sLen dLen:=rfl
  simp [Builtin.copy_,run_under ht.1,ht.2.run,Builtin.lenOf,Builtin.firstCells,e1,← hn,hl,hst,TW.set,put]
 unfold Oper.wp
 have:(execOp a.eval ⟨dd,.call { callee:=.builtin .copy,args:=#[x,y],argTypes:=#[q,q'] },ty,pos,af,gd⟩).run P t.w = .ok (.value (goInt (min sLen dLen:Nat))) (t.set b (put cs o news)).w:=by
  simp only [execOp,resolve,invoke,builtin,Sem.run_bind,Sem.run_pure,Result.andThen_ok,List.map_toArray,List.map_cons,List.map_nil,ha.ev h,ha.ev h', hrun]
 rw [this]
 have hu:=TW.set_upd (cs' := put cs o news) hb
 exact hk _ _ (from_upd hb hT hu hs) ⟨hu,hu.step hb.2,TW.set_bk hb⟩
theorem Ef.clr {q k b o len cap:Nat} {z:Value} {zs cs:List Value} (h:ev E x = some (.slice (some ⟨b,o,none⟩) len cap)) (hq:P.underlying q = some (.slice e)) (hz:Zr e z zs) (h0:0 < len) (hb:Bk t b cs e g) (hk:zs.length = k) (h1:∀ u ∈ zs,u.oneCell' = true) (hfit:o + len * k ≤ cs.length)
  (hT:c.t0.w.heap.size ≤ b ∨ c.T g):Ef c ⟨dd,.call { callee:=.builtin .clear,args:=#[x],argTypes:=#[q] },ty,pos,af,gd⟩ E t (fun _ t' => ∃ news:List Value,news.length = len * k ∧ Stored t b (put cs o news) e g t'):=.mk fun hs a ha K Q hkk=>by
 have hz1:=hz.run t.w
 have hz2:=hz.cells
 clear hz
 have hl:(Builtin.zeroCells zs.toArray len).toList.length = len * k:=by simp [Builtin.zeroCells,hk]
 have hm:∀ u ∈ (Builtin.zeroCells zs.toArray len).toList,u.oneCell' = true:=fun u hu=>by
  simp only [Builtin.zeroCells,Array.toList_map,Array.toList_range,List.mem_map,List.mem_range] at hu
  obtain ⟨i,hi,rfl⟩:=hu
  have hk0:0 < zs.toArray.size:=by
   rcases Nat.eq_zero_or_pos zs.toArray.size with h2 | h2
   ·rw [h2] at hi
    omega
   ·exact h2
  have hlt:=Nat.mod_lt i hk0
  rw [getElem!_pos zs.toArray _ hlt]
  exact h1 _ (by simp)
 have hst:=run_storeCells_at P b o e (Builtin.zeroCells zs.toArray len).toList 0 cs.toArray t.w hb.1 (by rw [hl]; simpa using hfit) hm
 simp only [Nat.add_zero] at hst
 have hrun:(Builtin.clear_ #[q] ty #[.slice (some ⟨b,o,none⟩) len cap]).run P t.w = .ok (.tuple #[]) (t.set b (put cs o (Builtin.zeroCells zs.toArray len).toList)).w:=by
  obtain ⟨m,rfl⟩:∃ m,len = m + 1:=⟨len - 1,by omega⟩
  simp [Builtin.clear_,run_under hq,hz1,hz2,hst,TW.set,put]
 unfold Oper.wp
 have:(execOp a.eval ⟨dd,.call { callee:=.builtin .clear,args:=#[x],argTypes:=#[q] },ty,pos,af,gd⟩).run P t.w = .ok (.value (.tuple #[])) (t.set b (put cs o (Builtin.zeroCells zs.toArray len).toList)).w:=by
  simp only [execOp,resolve,invoke,builtin,Sem.run_bind,Sem.run_pure,Result.andThen_ok,List.map_toArray,List.map_cons,List.map_nil,ha.ev h,hrun]
 rw [this]
 have hu:=TW.set_upd (cs' := put cs o (Builtin.zeroCells zs.toArray len).toList) hb
 exact hkk _ _ (from_upd hb hT hu hs) ⟨_,hl,hu,hu.step hb.2,TW.set_bk hb⟩
end
section
variable {n:Sz} {E:Env} {dd:Option Nat} {ty:TypeId} {pos:String} {af:Array Edge} {gd:Option (Nat × Bool)} {x y:Operand}
theorem Fr.ixs {q:TypeId} {s:ByteArray} {k:IntKind} {i:Int} (h:ev E x = some (.string s)) (hi:ev E y = some (.int k i)) (hq:P.underlying q = some .string) (h0:0 ≤ i) (h1:i.toNat < s.size):Fr n ⟨dd,.index q x y,ty,pos,af,gd⟩ E (.int .u8 (s[i.toNat]'h1).toNat):=fun a w ha=>by
 have:s[i.toNat]? = some (s[i.toNat]'h1):=getElem?_pos s i.toNat h1
 simp [execOp,ha.ev h,ha.ev hi,Instr.index,asIntOf,run_under hq,h0,this]
theorem Fr.ixA {q e len:Nat} {cs:Array Value} {k:IntKind} {i:Int} {v:Value} (h:ev E x = some (.agg cs)) (hi:ev E y = some (.int k i)) (hq:ArT q len e 1) (hs:Sc e) (h0:0 ≤ i) (h1:i < len) (hv:cs[i.toNat]? = some v):Fr n ⟨dd,.index q x y,ty,pos,af,gd⟩ E v:=fun a w ha=>by
 obtain ⟨ds,h2,h3⟩:=hs
 have hg:(isAgg e).run P w = .ok false w:=by
  unfold isAgg
  rw [Sem.run_bind,run_under h2]
  cases ds <;> first | (cases h3; done) | rfl
 simp [execOp,ha.ev h,ha.ev hi,Instr.index,asIntOf,run_under hq.1,h0,h1,hq.2.run,part,hg,hv]
theorem Fr.fd1 {q f:Nat} {cs:Array Value} {fields:Array Field} {fld:Field} {v:Value} (h:ev E x = some (.agg cs)) (hq:P.underlying q = some (.struct fields)) (hf:fields[f]? = some fld) (hs:Sc fld.type) (hv:cs[fld.offset]? = some v):Fr n ⟨dd,.field q x f,ty,pos,af,gd⟩ E v:=fun a w ha=>by
 obtain ⟨ds,h2,h3⟩:=hs
 have hg:(isAgg fld.type).run P w = .ok false w:=by
  unfold isAgg
  rw [Sem.run_bind,run_under h2]
  cases ds <;> first | (cases h3; done) | rfl
 simp [execOp,ha.ev h,Instr.field,run_under hq,hf,asAgg,part,hg,hv]
end
/-! ### 6. A slice that is read, appended whole -/
section
variable {α:Type} {dk:Kn α} {c:Ctx} {E:Env} {dd:Option Nat} {ty:TypeId} {pos:String} {af:Array Edge} {gd:Option (Nat × Bool)} {x y:Operand} {v u:Value} {t:TW} {g:Tag} {B e:Nat} {xs ys:List α}
theorem cat_cells {b:Nat}:∀ (ys:List α) (o:Nat),(∀ i z,ys[i]? = some z → ∃ c,dk.R t z c ∧ At t.w b (o + i * dk.k) c) → ∃ news,Els dk t ys news ∧ At t.w b o news
 | [],o,_=>⟨[],⟨by simp,fun i z h=>by cases h⟩,fun j v h=>by cases h⟩
 | z :: ys,o,h=>by
  obtain ⟨c,hR,hA⟩:=h 0 z rfl
  obtain ⟨news,hE,hN⟩:=cat_cells ys (o + dk.k) (fun i w hi=>by
   obtain ⟨c,h1,h2⟩:=h (i + 1) w (by simpa using hi)
   refine ⟨c,h1,?_⟩
   rw [show o + dk.k + i * dk.k = o + (i + 1) * dk.k by rw [Nat.add_mul]; omega]
   exact h2)
  have hl:c.length = 1 * dk.k:=by rw [dk.len hR,Nat.one_mul]
  refine ⟨c ++ news,⟨by rw [List.length_append,hE.1,hl,List.length_cons,Nat.add_mul]; omega,fun i w hi=>?_⟩,fun j v hj=>?_⟩
  ·rw [seg_append hl]
   cases i with
   | zero=>
    rw [if_pos (by omega)]
    have hw:z = w:=by simpa using hi
    subst hw
    have:seg c dk.k 0 = c:=by
     unfold seg
     simp only [Nat.zero_mul,List.drop_zero]
     rw [List.take_of_length_le (by rw [dk.len hR]; exact Nat.le_refl _)]
    rw [this]
    exact hR
   | succ i=>
    rw [if_neg (by omega),Nat.add_sub_cancel]
    exact hE.2 i w (by simpa using hi)
  ·by_cases hlt:j < c.length
   ·rw [List.getElem?_append_left hlt] at hj
    have:=hA j v hj
    simpa using this
   ·rw [List.getElem?_append_right (by omega)] at hj
    have:=hN _ v hj
    rw [show o + dk.k + (j - c.length) = o + j by rw [dk.len hR] at hlt ⊢; omega] at this
    exact this
theorem Sl.cat (h:Sl t dk u ys) (hne:ys ≠ []):∃ b o cap news,u = .slice (some ⟨b,o,none⟩) ys.length cap ∧ ys.length ≤ cap ∧ Els dk t ys news ∧ At t.w b o news ∧ b < t.w.heap.size ∧ t.own b = .fz:=by
 obtain ⟨A,cap,e,hc,hr⟩:=h
 obtain ⟨b,o,rfl,hlt,hf,hx⟩:=hr hne
 obtain ⟨news,h1,h2⟩:=cat_cells ys o hx
 exact ⟨b,o,cap,news,e,hc,h1,h2,hlt,hf⟩
theorem Ef.aps {q k bytes:Nat} {z:Value} (h:ev E x = some v) (h' : ev E y = some u) (ht:SlT q e k) (he:El e dk.k bytes z) (hk0:0 < dk.k) (hr:Row t g B e dk v xs) (hu:Sl t dk u ys)
  (hB:B ≤ t.w.heap.size) (hlen:xs.length + ys.length ≤ 1000000) (hby:bytes ≤ 1000) (hg:g ≠ .fz) (hT:c.t0.w.heap.size ≤ B ∨ c.T g) :
  Ef c ⟨dd,.call { callee:=.builtin .append,args:=#[x,y],argTypes:=#[q,q] },ty,pos,af,gd⟩ E t (fun v' t' => Step (fun z=>z = g) t t' ∧ Row t' g B e dk v' (xs ++ ys)):=by
 by_cases hne:ys = []
 ·subst hne
  obtain ⟨A,cap,rfl,hc⟩:=hu.form
  cases A with
  | none=>
   obtain ⟨A', cap', rfl,hc'⟩:=hr.form
   refine .mk fun hs a ha K Q hk=>(Ef.apN h h' ht hc').out hs a ha K Q fun v' t' hs' hh=>?_
   obtain ⟨rfl,rfl⟩:=hh
   exact hk _ _ hs' ⟨Step.refl _ _,by rw [List.append_nil]; exact hr⟩
  | some ad=>exact Ef.ap (news:=[]) h h' ht he hk0 hr rfl ⟨by simp,fun i z h=>by cases h⟩ (fun j u h=>by cases h) hB hlen hby hg hT
 ·obtain ⟨b,o,cap,news,rfl,_,hE,hA,_,_⟩:=hu.cat hne
  exact Ef.ap h h' ht he hk0 hr rfl hE (fun j w hj=>by rw [add_at]; exact hA j w hj) hB hlen hby hg hT
theorem Ef.ap1 {q k bytes b:Nat} {z:Value} {y1:α} {cs:List Value} {gb:Tag} (h:ev E x = some v) (h' : ev E y = some (.slice (some ⟨b,0,none⟩) 1 1)) (hb:Bk t b cs e gb) (hy:dk.R t y1 cs) (ht:SlT q e k) (he:El e dk.k bytes z) (hk0:0 < dk.k) (hr:Row t g B e dk v xs)
  (hB:B ≤ t.w.heap.size) (hlen:xs.length + 1 ≤ 1000000) (hby:bytes ≤ 1000) (hg:g ≠ .fz) (hT:c.t0.w.heap.size ≤ B ∨ c.T g) :
  Ef c ⟨dd,.call { callee:=.builtin .append,args:=#[x,y],argTypes:=#[q,q] },ty,pos,af,gd⟩ E t (fun v' t' => Step (fun z=>z = g) t t' ∧ Row t' g B e dk v' (xs ++ [y1])):=
 Ef.ap (ys:=[y1]) h h' ht he hk0 hr rfl (Els.one_ hy) (fun j u hj=>by rw [add_at,Nat.zero_add]; exact hb.cell hj) hB hlen hby hg hT
theorem Row.empty {b cap:Nat} {cs:List Value} (hb:Bk t b cs e g) (hB:B ≤ b) (hs:cs.length = cap * dk.k) (hm:cap ≤ maxLen):Row t g B e dk (.slice (some ⟨b,0,none⟩) 0 cap) []:=
 Row.of_block (xs:=[]) hb hB (Nat.zero_le _) hs hm (fun i x h=>by cases h)
theorem Sl.of_bk {b:Nat} {cs:List Value} {y1:α} (hb:Bk t b cs e .fz) (hy:dk.R t y1 cs):Sl t dk (.slice (some ⟨b,0,none⟩) 1 1) [y1]:=by
 refine ⟨_,1,rfl,Nat.le_refl _,fun _=>⟨b,0,rfl,hb.lt,hb.2,fun i x hi=>?_⟩⟩
 cases i with
 | zero=>
  have:y1 = x:=by simpa using hi
  subst this
  exact ⟨cs,hy,fun j v hj=>by rw [Nat.zero_mul,Nat.add_zero,Nat.zero_add]; exact hb.cell hj⟩
 | succ i=>simp at hi
end
abbrev cfgC (c:Cfg):List Value:=[.int .i64 c.stripes,.int .i64 c.sessions,.int .i64 c.queue,.int .i64 c.watches,.int .i64 c.retries,.int .u64 c.epochs,.int .u64 c.start]
abbrev timeC (x:Time):List Value:=[.int .u64 x.now,.int .u64 x.seq,.bool x.closed]
abbrev presC (p:Pres):List Value:=[.int .i64 p.status,.int .i64 p.prio,.int .i64 p.live]
abbrev sessC (x:Sess):List Value:=[.int .i64 x.id,.int .i64 x.status,.int .i64 x.prio,.int .u64 x.til]
abbrev eventC (x:Event):List Value:=[.string x.user,.int .i64 x.old.status,.int .i64 x.old.prio,.int .i64 x.old.live,.int .i64 x.new.status,.int .i64 x.new.prio,.int .i64 x.new.live,.int .u64 x.seq]
abbrev changeC (x:Change):List Value:=[.string x.user,.int .i64 x.old.status,.int .i64 x.old.prio,.int .i64 x.old.live,.int .i64 x.new.status,.int .i64 x.new.prio,.int .i64 x.new.live]
abbrev opC (x:Opr) (u:Value):List Value:=[.int .i64 x.kind,.string x.user,.int .i64 x.id,.int .i64 x.status,.int .i64 x.prio,.int .u64 x.ttl,u]
abbrev pickC (x:Pick):List Value:=[.int .i64 x.kind,.int .i64 x.who,.int .u64 x.by_]
def kPres:Kn Pres:=Kn.flat 3 presC (fun _=>rfl) (fun x u hu=>by simp at hu; rcases hu with rfl | rfl | rfl <;> rfl)
def kSess:Kn Sess:=Kn.flat 4 sessC (fun _=>rfl) (fun x u hu=>by simp at hu; rcases hu with rfl | rfl | rfl | rfl <;> rfl)
def kEvent:Kn Event:=Kn.flat 8 eventC (fun _=>rfl) (fun x u hu=>by simp at hu; rcases hu with rfl | rfl | rfl | rfl | rfl | rfl | rfl | rfl <;> rfl)
def kChange:Kn Change:=Kn.flat 7 changeC (fun _=>rfl) (fun x u hu=>by simp at hu; rcases hu with rfl | rfl | rfl | rfl | rfl | rfl | rfl <;> rfl)
def kPick:Kn Pick:=Kn.flat 3 pickC (fun _=>rfl) (fun x u hu=>by simp at hu; rcases hu with rfl | rfl | rfl <;> rfl)
theorem Sl.cell {α:Type} {d:Kn α} {t:TW} {v:Value} {xs:List α} (h:Sl t d v xs):v.oneCell' = true:=by
 obtain ⟨A,cap,rfl,_⟩:=h
 rfl
def kSl {α:Type} (d:Kn α):Kn (List α) where
 k:=1
 R:=fun t x c=>∃ v,c = [v] ∧ Sl t d v x
 len:=by rintro t x c ⟨v,rfl,_⟩; rfl
 one:=by
  rintro t x c ⟨v,rfl,h⟩ u hu
  rw [List.mem_singleton.1 hu]
  exact h.cell
 stp:=by
  rintro T t t' x c s hT ⟨v,rfl,h⟩
  exact ⟨v,rfl,h.step s hT⟩
def kOp:Kn Opr where
 k:=7
 R:=fun t x c=>∃ u,c = opC x u ∧ Sl t kStr u x.users
 len:=by rintro t x c ⟨v,rfl,_⟩; rfl
 one:=by
  rintro t x c ⟨v,rfl,h⟩ u hu
  simp at hu
  rcases hu with rfl | rfl | rfl | rfl | rfl | rfl | rfl <;> first | rfl | exact h.cell
 stp:=by
  rintro T t t' x c s hT ⟨v,rfl,h⟩
  exact ⟨v,rfl,h.step s hT⟩
def kEntry:Kn Entry where
 k:=4
 R:=fun t x c=>∃ u,c = u :: presC x.told ∧ Sl t kSess u x.sessions
 len:=by rintro t x c ⟨v,rfl,_⟩; rfl
 one:=by
  rintro t x c ⟨v,rfl,h⟩ u hu
  simp at hu
  rcases hu with rfl | rfl | rfl | rfl <;> first | rfl | exact h.cell
 stp:=by
  rintro T t t' x c s hT ⟨v,rfl,h⟩
  exact ⟨v,rfl,h.step s hT⟩
def BookR (t:TW) (kv vv:Value) (b:Book):Prop:=Sl t kStr kv b.keys ∧ Sl t kEntry vv b.vals
theorem BookR.step {T:Tag → Prop} {t t' : TW} {kv vv:Value} {b:Book} (h:BookR t kv vv b) (s:Step T t t') (hT:¬ T .fz):BookR t' kv vv b:=⟨h.1.step s hT,h.2.step s hT⟩
theorem BookR.n {T:Tag → Prop} {t t' : TW} {kv vv:Value} {b:Book} (h:BookR t kv vv b) (s:Step T t t') (hT:¬ T .fz:=by first | exact id | nofun | (rintro (h | h) <;> cases h) | (rintro (h | h | h) <;> cases h)):BookR t' kv vv b:=h.step s hT
abbrev replyC (x:Reply) (vv ev:Value):List Value:=[.int .i64 x.err,vv,ev,.bool x.lost]
open Go.ChangeShapes Go.WideShapes Go.Deep
def tw0 (w:World):TW:=⟨w,fun _=>.fz⟩
theorem below_of {w w' : World} {own' : Nat → Tag} {T:Tag → Prop} (h:Step T (tw0 w) ⟨w', own'⟩) (hT:¬ T .fz):RowKit.Below w.heap.size w w' :=
 ⟨h.os,h.tape,h.output,h.size,fun k hk=>(h.keep k hk hT).2⟩
section
variable {H:Type} {enc:TypeId × Value → H} {w:World} {base:Nat} {spare:Nat → Bool} {held:Bool}
def ElK {α:Type} (enc:TypeId × Value → H) (w:World) (base:Nat) (spare:Nat → Bool) (held:Bool) (e:TypeId) (d:Kn α) (Q:α → Prop):Prop:=
 ∀ (fuel:Nat) (cs:List Value) (x:DataW H × List MemPlace),cs.length = d.k → DataW.trod enc P w base spare held fuel e cs = some x → ∃ y,d.R (tw0 w) y cs ∧ Q y
theorem open_row {α:Type} {t e:TypeId} {d:Kn α} {Q:α → Prop} (ht:P.underlying t = some (.slice e)) (hc:P.cellsOf e = d.k) (hk:0 < d.k) (hel:ElK enc w base spare held e d Q)
  {fuel:Nat} {cs:List Value} {x:DataW H × List MemPlace} (h:DataW.trod enc P w base spare held fuel t cs = some x) :
  ∃ (v:Value) (xs:List α),cs = [v] ∧ Sl (tw0 w) d v xs ∧ ∀ y ∈ xs,Q y:=by
 rcases open_slice ht h with ⟨rfl,_⟩ | ⟨a,len,cap,m,n,D,Pl,rfl,hb,hl,hm,hmm,_,hx⟩
 ·exact ⟨_,[],rfl,Sl.nil _ _ none 0,fun y hy=>by cases hy⟩
 ·have hlm:len ≤ m:=by rw [hmm]; split <;> omega
  have key:∀ i,i < len → ∃ y,Q y ∧ ∃ c,c.length = d.k ∧ d.R (tw0 w) y c ∧ ∀ j u,c[j]? = some u → w.cell? (a.add (i * d.k + j)) = some u:=by
   intro i hi
   obtain ⟨c,h1,h2⟩:=hx i (by omega)
   rw [hc] at h1
   obtain ⟨_,hlen,hcell⟩:=World.cells?_some h1
   obtain ⟨y,hK,hQ⟩:=hel n c _ hlen h2
   refine ⟨y,hQ,c,hlen,hK,fun j u hu=>?_⟩
   have hj:j < d.k:=by rw [← hlen]; exact (List.getElem?_eq_some_iff.1 hu).1
   have:=hcell j hj
   rw [hu,Go.Deep.add_add] at this
   exact this
  have all:∀ l:Nat,l ≤ len → ∃ xs:List α,xs.length = l ∧ (∀ y ∈ xs,Q y) ∧ ∀ i y,xs[i]? = some y → ∃ c,c.length = d.k ∧ d.R (tw0 w) y c ∧ ∀ j u,c[j]? = some u → w.cell? (a.add (i * d.k + j)) = some u:=by
   intro l
   induction l with
   | zero=>exact fun _=>⟨[],rfl,fun y hy=>(by cases hy),fun i y hy=>(by cases hy)⟩
   | succ l ih=>
    intro hl
    obtain ⟨xs,h1,h2,h3⟩:=ih (by omega)
    obtain ⟨y,hQ,hy⟩:=key l (by omega)
    refine ⟨xs ++ [y],by simp [h1],fun z hz=>?_,fun i z hz=>?_⟩
    ·rcases List.mem_append.1 hz with hz | hz
     ·exact h2 z hz
     ·rw [List.mem_singleton.1 hz]; exact hQ
    ·rw [List.getElem?_append] at hz
     split at hz
     ·exact h3 i z hz
     ·rename_i hi
      have:i = l:=by
       have:=(List.getElem?_eq_some_iff.1 hz).1
       simp at this
       omega
      subst this
      rw [h1] at hz
      simp at hz
      subst hz
      exact hy
  obtain ⟨xs,h1,h2,h3⟩:=all len (Nat.le_refl _)
  refine ⟨_,xs,rfl,⟨some a,cap,by rw [h1],by omega,fun hne=>?_⟩,h2⟩
  obtain ⟨y0,ys,rfl⟩:=List.exists_cons_of_ne_nil hne
  obtain ⟨c0,hc0,_,hcc⟩:=h3 0 y0 rfl
  have h00:=hcc 0 c0[0] (List.getElem?_eq_getElem (by omega))
  have hsp:a.spot = none ∧ a.block < w.heap.size:=by
   rw [Nat.zero_mul] at h00
   have h00:w.cell? a = some c0[0]:=h00
   unfold World.cell? at h00
   cases hb:w.heap[a.block]? with
   | none=>rw [hb] at h00; cases h00
   | some o=>
    refine ⟨?_,(Array.getElem?_eq_some_iff.1 hb).1⟩
    rw [hb] at h00
    cases o with
    | cells cc _ _=>
     cases hs:a.spot with
     | none=>rfl
     | some _=>simp [hs] at h00
    | _=>cases h00
  obtain ⟨b,o,sp⟩:=a
  obtain ⟨rfl,hlt⟩:=hsp
  refine ⟨b,o,rfl,hlt,rfl,fun i x hi=>?_⟩
  obtain ⟨c,_,hR,hcell⟩:=h3 i x hi
  refine ⟨c,hR,fun j u hu=>?_⟩
  have:=hcell j u hu
  have e:(⟨b,o,none⟩:Addr).add (i * d.k + j) = ⟨b,o + i * d.k + j,none⟩:=by
   unfold Addr.add
   split
   ·rename_i h0
    rw [show o + i * d.k + j = o by omega]
   ·rw [Nat.add_assoc]
  rw [e] at this
  exact this
theorem cell1 {t:TypeId} (hc:P.cellsOf t = 1) {cs:List Value} {o:Nat} {v:Value} (hv:cs[o]? = some v):(cs.drop o).take (P.cellsOf t) = [v]:=by
 rw [hc]
 have hlt:=(List.getElem?_eq_some_iff.1 hv).1
 rw [List.drop_eq_getElem_cons hlt,List.take_succ_cons,List.take_zero]
 rw [(List.getElem?_eq_some_iff.1 hv).2]
theorem len_cons {l:List Value} {n:Nat} (h:l.length = n + 1):∃ a t,l = a :: t ∧ t.length = n:=by
 cases l with
 | nil=>cases h
 | cons a t=>exact ⟨a,t,rfl,Nat.succ.inj h⟩
theorem len_nil {l:List Value} (h:l.length = 0):l = []:=List.length_eq_zero_iff.1 h
theorem co3:P.cellsOf 3 = 1:=by kernel_rfl
theorem co9:P.cellsOf 9 = 1:=by kernel_rfl
theorem co22:P.cellsOf 22 = 1:=by kernel_rfl
theorem co54:P.cellsOf 54 = 1:=by kernel_rfl
theorem co56:P.cellsOf 56 = 7:=by kernel_rfl
theorem co76:P.cellsOf 76 = 1:=by kernel_rfl
theorem co78:P.cellsOf 78 = 3:=by kernel_rfl
theorem co24:P.cellsOf 24 = 7:=by kernel_rfl
theorem co25:P.cellsOf 25 = 1:=by kernel_rfl
theorem co26:P.cellsOf 26 = 1:=by kernel_rfl
theorem el_str:ElK enc w base spare held 9 kStr (fun _=>True):=by
 intro fuel cs x _ h
 obtain ⟨s,rfl,_,hw⟩:=DataW.trod_string Tryz.underlying9 h
 exact ⟨s,rfl,trivial⟩
theorem fld_int {n:Nat} {t:TypeId} {k:IntKind} {cs:List Value} {o:Nat} {v:Value} {x:Option (DataW H × List MemPlace)} (hu:P.underlying t = some (.int k)) (hc:P.cellsOf t = 1) (hv:cs[o]? = some v) (h:DataW.trod enc P w base spare held n t ((cs.drop o).take (P.cellsOf t)) = x) (hx:x.isSome = true):∃ i,v = .int k i ∧ (Lit.int k i).wf = true:=by
 rw [cell1 hc hv] at h
 obtain ⟨y,rfl⟩:=Option.isSome_iff_exists.1 hx
 obtain ⟨i,e,_,hw⟩:=DataW.trod_int hu h
 exact ⟨i,(List.cons.inj e).1,hw⟩
theorem fld_str {n:Nat} {t:TypeId} {cs:List Value} {o:Nat} {v:Value} {x:Option (DataW H × List MemPlace)} (hu:P.underlying t = some .string) (hc:P.cellsOf t = 1) (hv:cs[o]? = some v) (h:DataW.trod enc P w base spare held n t ((cs.drop o).take (P.cellsOf t)) = x) (hx:x.isSome = true):∃ i,v = .string i:=by
 rw [cell1 hc hv] at h
 obtain ⟨y,rfl⟩:=Option.isSome_iff_exists.1 hx
 obtain ⟨i,e,_,hw⟩:=DataW.trod_string hu h
 exact ⟨i,(List.cons.inj e).1⟩
theorem fld_sl {α:Type} {d:Kn α} {Q:α → Prop} {n:Nat} {t e:TypeId} {cs:List Value} {o:Nat} {v:Value} {x:Option (DataW H × List MemPlace)} (hu:P.underlying t = some (.slice e)) (hc:P.cellsOf t = 1) (hce:P.cellsOf e = d.k) (hk:0 < d.k) (hel:ElK enc w base spare held e d Q) (hv:cs[o]? = some v) (h:DataW.trod enc P w base spare held n t ((cs.drop o).take (P.cellsOf t)) = x) (hx:x.isSome = true):∃ l,Sl (tw0 w) d v l ∧ ∀ y ∈ l,Q y:=by
 rw [cell1 hc hv] at h
 obtain ⟨y,rfl⟩:=Option.isSome_iff_exists.1 hx
 obtain ⟨v', l,e,hs,hq⟩:=open_row hu hce hk hel h
 rw [(List.cons.inj e).1]
 exact ⟨l,hs,hq⟩
def OpQ (x:Opr):Prop:=0 ≤ x.ttl ∧ x.ttl ≤ 18446744073709551615
def PickQ (p:Pick):Prop:=0 ≤ p.by_ ∧ p.by_ ≤ 18446744073709551615
theorem el_op:ElK enc w base spare held 56 kOp OpQ:=by
 intro fuel cs x hl h
 obtain ⟨xs,n,_,_,_,hlen,hf⟩:=DataW.trod_struct Tryz.underlying56 h
 have hl:cs.length = 7:=hl
 obtain ⟨a0,t0,rfl,hl0⟩:=len_cons hl
 obtain ⟨a1,t1,rfl,hl1⟩:=len_cons hl0
 obtain ⟨a2,t2,rfl,hl2⟩:=len_cons hl1
 obtain ⟨a3,t3,rfl,hl3⟩:=len_cons hl2
 obtain ⟨a4,t4,rfl,hl4⟩:=len_cons hl3
 obtain ⟨a5,t5,rfl,hl5⟩:=len_cons hl4
 obtain ⟨a6,t6,rfl,hl6⟩:=len_cons hl5
 obtain rfl:=len_nil hl6
 have so:∀ i,i < 7 → (xs[i]?).isSome = true:=fun i hi=>by
  rw [List.getElem?_eq_getElem (by rw [hlen]; exact hi)]
  rfl
 obtain ⟨i0,rfl,_⟩:=fld_int (o:=0) Tryz.underlying3 co3 rfl (hf 0 _ rfl) (so 0 (by decide))
 obtain ⟨i1,rfl⟩:=fld_str (o:=1) Tryz.underlying9 co9 rfl (hf 1 _ rfl) (so 1 (by decide))
 obtain ⟨i2,rfl,_⟩:=fld_int (o:=2) Tryz.underlying3 co3 rfl (hf 2 _ rfl) (so 2 (by decide))
 obtain ⟨i3,rfl,_⟩:=fld_int (o:=3) Tryz.underlying3 co3 rfl (hf 3 _ rfl) (so 3 (by decide))
 obtain ⟨i4,rfl,_⟩:=fld_int (o:=4) Tryz.underlying3 co3 rfl (hf 4 _ rfl) (so 4 (by decide))
 obtain ⟨i5,rfl,h5⟩:=fld_int (o:=5) Tryz.underlying22 co22 rfl (hf 5 _ rfl) (so 5 (by decide))
 obtain ⟨l,hs,_⟩:=fld_sl (o:=6) (d:=kStr) Tryz.underlying54 co54 co9 (by decide) el_str rfl (hf 6 _ rfl) (so 6 (by decide))
 exact ⟨⟨i0,i1,i2,i3,i4,i5,l⟩,⟨_,rfl,hs⟩,Go.bounds_u64 h5⟩
theorem el_ops:ElK enc w base spare held 76 (kSl kOp) (fun l=>∀ x ∈ l,OpQ x):=by
 intro fuel cs x hl h
 obtain ⟨v,l,rfl,hs,hq⟩:=open_row Tryz.underlying76 co56 (by decide) el_op h
 exact ⟨l,⟨v,rfl,hs⟩,hq⟩
theorem el_pick:ElK enc w base spare held 78 kPick PickQ:=by
 intro fuel cs x hl h
 obtain ⟨xs,n,_,_,_,hlen,hf⟩:=DataW.trod_struct Tryz.underlying78 h
 have hl:cs.length = 3:=hl
 obtain ⟨a0,t0,rfl,hl0⟩:=len_cons hl
 obtain ⟨a1,t1,rfl,hl1⟩:=len_cons hl0
 obtain ⟨a2,t2,rfl,hl2⟩:=len_cons hl1
 obtain rfl:=len_nil hl2
 have so:∀ i,i < 3 → (xs[i]?).isSome = true:=fun i hi=>by
  rw [List.getElem?_eq_getElem (by rw [hlen]; exact hi)]
  rfl
 obtain ⟨i0,rfl,_⟩:=fld_int (o:=0) Tryz.underlying3 co3 rfl (hf 0 _ rfl) (so 0 (by decide))
 obtain ⟨i1,rfl,_⟩:=fld_int (o:=1) Tryz.underlying3 co3 rfl (hf 1 _ rfl) (so 1 (by decide))
 obtain ⟨i2,rfl,h2⟩:=fld_int (o:=2) Tryz.underlying22 co22 rfl (hf 2 _ rfl) (so 2 (by decide))
 exact ⟨⟨i0,i1,i2⟩,rfl,Go.bounds_u64 h2⟩
theorem el_cfg {fuel:Nat} {cs:List Value} {x:DataW H × List MemPlace} (hl:cs.length = 7) (h:DataW.trod enc P w base spare held fuel 24 cs = some x):∃ c:Cfg,cs = cfgC c ∧ (0 ≤ c.epochs ∧ c.epochs ≤ 18446744073709551615) ∧ 0 ≤ c.start ∧ c.start ≤ 18446744073709551615:=by
 obtain ⟨xs,n,_,_,_,hlen,hf⟩:=DataW.trod_struct Tryz.underlying24 h
 obtain ⟨a0,t0,rfl,hl0⟩:=len_cons hl
 obtain ⟨a1,t1,rfl,hl1⟩:=len_cons hl0
 obtain ⟨a2,t2,rfl,hl2⟩:=len_cons hl1
 obtain ⟨a3,t3,rfl,hl3⟩:=len_cons hl2
 obtain ⟨a4,t4,rfl,hl4⟩:=len_cons hl3
 obtain ⟨a5,t5,rfl,hl5⟩:=len_cons hl4
 obtain ⟨a6,t6,rfl,hl6⟩:=len_cons hl5
 obtain rfl:=len_nil hl6
 have so:∀ i,i < 7 → (xs[i]?).isSome = true:=fun i hi=>by
  rw [List.getElem?_eq_getElem (by rw [hlen]; exact hi)]
  rfl
 obtain ⟨i0,rfl,_⟩:=fld_int (o:=0) Tryz.underlying3 co3 rfl (hf 0 _ rfl) (so 0 (by decide))
 obtain ⟨i1,rfl,_⟩:=fld_int (o:=1) Tryz.underlying3 co3 rfl (hf 1 _ rfl) (so 1 (by decide))
 obtain ⟨i2,rfl,_⟩:=fld_int (o:=2) Tryz.underlying3 co3 rfl (hf 2 _ rfl) (so 2 (by decide))
 obtain ⟨i3,rfl,_⟩:=fld_int (o:=3) Tryz.underlying3 co3 rfl (hf 3 _ rfl) (so 3 (by decide))
 obtain ⟨i4,rfl,_⟩:=fld_int (o:=4) Tryz.underlying3 co3 rfl (hf 4 _ rfl) (so 4 (by decide))
 obtain ⟨i5,rfl,h5⟩:=fld_int (o:=5) Tryz.underlying22 co22 rfl (hf 5 _ rfl) (so 5 (by decide))
 obtain ⟨i6,rfl,h6⟩:=fld_int (o:=6) Tryz.underlying22 co22 rfl (hf 6 _ rfl) (so 6 (by decide))
 exact ⟨⟨i0,i1,i2,i3,i4,i5,i6⟩,rfl,Go.bounds_u64 h5,Go.bounds_u64 h6⟩
theorem open_script {fuel:Nat} {cs:List Value} {x:DataW H × List MemPlace} (hl:cs.length = 9) (h:DataW.trod enc P w base spare held fuel 28 cs = some x) :
  ∃ (s:Script) (cv pv:Value),cs = cfgC s.cfg ++ [cv,pv] ∧ Sl (tw0 w) (kSl kOp) cv s.clients ∧ Sl (tw0 w) kPick pv s.picks ∧ (0 ≤ s.cfg.epochs ∧ s.cfg.epochs ≤ 18446744073709551615) ∧ (0 ≤ s.cfg.start ∧ s.cfg.start ≤ 18446744073709551615) ∧ (∀ p ∈ s.picks,PickQ p) ∧ ∀ l ∈ s.clients,∀ x ∈ l,OpQ x:=by
 obtain ⟨xs,n,_,_,_,hlen,hf⟩:=DataW.trod_struct Tryz.underlying28 h
 have so:∀ i,i < 3 → (xs[i]?).isSome = true:=fun i hi=>by
  rw [List.getElem?_eq_getElem (by rw [hlen]; exact hi)]
  rfl
 obtain ⟨a0,t0,rfl,hl0⟩:=len_cons hl
 obtain ⟨a1,t1,rfl,hl1⟩:=len_cons hl0
 obtain ⟨a2,t2,rfl,hl2⟩:=len_cons hl1
 obtain ⟨a3,t3,rfl,hl3⟩:=len_cons hl2
 obtain ⟨a4,t4,rfl,hl4⟩:=len_cons hl3
 obtain ⟨a5,t5,rfl,hl5⟩:=len_cons hl4
 obtain ⟨a6,t6,rfl,hl6⟩:=len_cons hl5
 obtain ⟨a7,t7,rfl,hl7⟩:=len_cons hl6
 obtain ⟨a8,t8,rfl,hl8⟩:=len_cons hl7
 obtain rfl:=len_nil hl8
 have h0:=hf 0 _ rfl
 obtain ⟨y0,hy0⟩:=Option.isSome_iff_exists.1 (so 0 (by decide))
 rw [hy0] at h0
 have h0:DataW.trod enc P w base spare held n 24 (([a0,a1,a2,a3,a4,a5,a6,a7,a8].drop 0).take (P.cellsOf 24)) = some y0:=h0
 rw [co24] at h0
 obtain ⟨c,hc,e5,e6⟩:=el_cfg rfl h0
 obtain ⟨cl,hs,hq⟩:=fld_sl (o:=7) (d:=kSl kOp) Tryz.underlying25 co25 co76 (by decide) el_ops rfl (hf 1 _ rfl) (so 1 (by decide))
 obtain ⟨pk,hs2,hq2⟩:=fld_sl (o:=8) (d:=kPick) Tryz.underlying26 co26 co78 (by decide) el_pick rfl (hf 2 _ rfl) (so 2 (by decide))
 refine ⟨⟨c,cl,pk⟩,a7,a8,?_,hs,hs2,e5,e6,hq2,hq⟩
 show _ = cfgC c ++ [a7,a8]
 rw [← hc]
 rfl
end
def bs (p:Nat → Bool) (lo hi:Nat):Nat:=if lo < hi then (if p ((lo + hi) / 2) then bs p ((lo + hi) / 2 + 1) hi else bs p lo ((lo + hi) / 2)) else lo
termination_by hi - lo
def findS (ks:List ByteArray) (k:ByteArray):Nat × Bool:=
 (bs (fun m=>(ks[m]?).any fun x=>sLt x k) 0 ks.length,(ks[bs (fun m=>(ks[m]?).any fun x=>sLt x k) 0 ks.length]?).any fun x=>decide (x = k))
def findI (l:List Sess) (id:Int):Nat × Bool:=
 (bs (fun m=>(l[m]?).any fun x=>decide (x.id < id)) 0 l.length,(l[bs (fun m=>(l[m]?).any fun x=>decide (x.id < id)) 0 l.length]?).any fun x=>decide (x.id = id))
def live (now:Int) (x:Sess):Bool:=!decide (x.til ≤ now)
theorem bs_bound (p:Nat → Bool):∀ (n lo hi:Nat),hi - lo ≤ n → lo ≤ hi → lo ≤ bs p lo hi ∧ bs p lo hi ≤ hi:=by
 intro n
 induction n with
 | zero=>
  intro lo hi h1 h2
  rw [bs,if_neg (by omega)]
  omega
 | succ n ih=>
  intro lo hi h1 h2
  rw [bs]
  split
  ·split
   ·have:=ih ((lo + hi) / 2 + 1) hi (by omega) (by omega)
    omega
   have:=ih lo ((lo + hi) / 2) (by omega) (by omega)
   omega
  omega
theorem findS_le (ks:List ByteArray) (k:ByteArray):(findS ks k).1 ≤ ks.length:=(bs_bound _ _ _ _ (Nat.le_refl _) (Nat.zero_le _)).2
theorem findI_le (l:List Sess) (id:Int):(findI l id).1 ≤ l.length:=(bs_bound _ _ _ _ (Nat.le_refl _) (Nat.zero_le _)).2
theorem any_lt {α:Type} {o:Option α} {p:α → Bool} (h:o.any p = true):∃ x,o = some x ∧ p x = true:=by
 cases o with
 | none=>cases h
 | some x=>exact ⟨x,rfl,h⟩
theorem findS_lt {ks:List ByteArray} {k:ByteArray} (h:(findS ks k).2 = true):(findS ks k).1 < ks.length ∧ ks[(findS ks k).1]? = some k:=by
 obtain ⟨x,hx,he⟩:=any_lt h
 have:=dcT he
 subst this
 exact ⟨(List.getElem?_eq_some_iff.1 hx).1,hx⟩
theorem findI_lt {l:List Sess} {id:Int} (h:(findI l id).2 = true):(findI l id).1 < l.length:=by
 obtain ⟨x,hx,_⟩:=any_lt h
 exact (List.getElem?_eq_some_iff.1 hx).1
theorem bl_irr:∀ x:List UInt8,Op.bytesLess x x = false
 | []=>rfl
 | a :: x=>by simp [Op.bytesLess,bl_irr x,UInt8.lt_irrefl]
theorem bl_trans:∀ {x y z:List UInt8},Op.bytesLess x y = true → Op.bytesLess y z = true → Op.bytesLess x z = true
 | _,[],_,h,_=>by simp [Op.bytesLess] at h
 | _,_ :: _,[],_,h=>by simp [Op.bytesLess] at h
 | [],_ :: _,_ :: _,_,_=>rfl
 | a :: x,b :: y,c :: z,h1,h2=>by
  simp only [Op.bytesLess,Bool.or_eq_true,decide_eq_true_eq,Bool.and_eq_true,beq_iff_eq] at h1 h2 ⊢
  rcases h1 with h1 | ⟨rfl,h1⟩
  ·rcases h2 with h2 | ⟨rfl,_⟩
   ·exact .inl (UInt8.lt_trans h1 h2)
   ·exact .inl h1
  ·rcases h2 with h2 | ⟨rfl,h2⟩
   ·exact .inl h2
   ·exact .inr ⟨rfl,bl_trans h1 h2⟩
theorem bl_tot:∀ {x y:List UInt8},Op.bytesLess x y = false → x ≠ y → Op.bytesLess y x = true
 | [],[],_,h=>absurd rfl h
 | _ :: _,[],_,_=>rfl
 | [],_ :: _,h,_=>by simp [Op.bytesLess] at h
 | a :: x,b :: y,h,hne=>by
  simp only [Op.bytesLess,Bool.or_eq_false_iff,decide_eq_false_iff_not,Bool.and_eq_false_imp,beq_iff_eq] at h
  simp only [Op.bytesLess,Bool.or_eq_true,decide_eq_true_eq,Bool.and_eq_true,beq_iff_eq]
  by_cases e:a = b
  ·subst e
   exact .inr ⟨rfl,bl_tot (h.2 rfl) (fun e=>hne (by rw [e]))⟩
  ·exact .inl (UInt8.lt_of_le_of_ne (UInt8.not_lt.1 h.1) (Ne.symm e))
theorem sLt_irr (x:ByteArray):sLt x x = false:=bl_irr _
theorem sLt_trans {x y z:ByteArray} (h:sLt x y = true) (k:sLt y z = true):sLt x z = true:=bl_trans h k
theorem toList_inj {x y:ByteArray} (h:x.toList = y.toList):x = y:=by
 simp only [ByteArray.toList_eq] at h
 exact ByteArray.ext (Array.toList_inj.1 h)
theorem sLt_tot {x y:ByteArray} (h:sLt x y = false) (hne:x ≠ y):sLt y x = true:=bl_tot h fun e=>hne (toList_inj e)
def KS (ks:List ByteArray):Prop:=ks.Pairwise fun x y=>sLt x y = true
theorem bs_spec (p:Nat → Bool) (hp:∀ i j,i ≤ j → p j = true → p i = true):∀ (n lo hi:Nat),hi - lo ≤ n → lo ≤ hi → (∀ i,i < lo → p i = true) → (∀ i,hi ≤ i → p i = false) → (∀ i,i < bs p lo hi → p i = true) ∧ ∀ i,bs p lo hi ≤ i → p i = false:=by
 intro n
 induction n with
 | zero=>
  intro lo hi h1 h2 h3 h4
  rw [bs,if_neg (by omega)]
  exact ⟨h3,fun i hi' => h4 i (by omega)⟩
 | succ n ih=>
  intro lo hi h1 h2 h3 h4
  rw [bs]
  split
  ·split
   ·rename_i hm
    exact ih _ _ (by omega) (by omega) (fun i hi' => hp i _ (by omega) hm) h4
   rename_i hm
   refine ih _ _ (by omega) (by omega) h3 fun i hi' => ?_
   cases e:p i
   ·rfl
   exact absurd (hp _ _ hi' e) hm
  exact ⟨h3,fun i hi' => h4 i (by omega)⟩
theorem KS.lt {ks:List ByteArray} (h:KS ks) {i j:Nat} {x y:ByteArray} (hx:ks[i]? = some x) (hy:ks[j]? = some y) (hij:i < j):sLt x y = true:=by
 obtain ⟨hi,rfl⟩:=List.getElem?_eq_some_iff.1 hx
 obtain ⟨hj,rfl⟩:=List.getElem?_eq_some_iff.1 hy
 exact List.pairwise_iff_getElem.1 h i j hi hj hij
theorem findS_spec {ks:List ByteArray} (h:KS ks) (k:ByteArray):(∀ i x,ks[i]? = some x → i < (findS ks k).1 → sLt x k = true) ∧ ∀ i x,ks[i]? = some x → (findS ks k).1 ≤ i → sLt x k = false:=by
 have hb:=bs_spec (fun m=>(ks[m]?).any fun x=>sLt x k) (fun i j hij hj=>by
  obtain ⟨y,hy,hyk⟩:=any_lt hj
  have hlt:=(List.getElem?_eq_some_iff.1 hy).1
  have hx:=List.getElem?_eq_getElem (l:=ks) (i:=i) (by omega)
  show (ks[i]?).any _ = true
  rw [hx]
  rcases Nat.lt_or_eq_of_le hij with e | rfl
  ·exact sLt_trans (h.lt hx hy e) hyk
  ·rw [hx] at hy
   obtain rfl:=Option.some.inj hy
   exact hyk) ks.length 0 ks.length (by omega) (Nat.zero_le _) (fun i hi=>absurd hi (Nat.not_lt_zero _)) (fun i hi=>by
  show (ks[i]?).any _ = false
  rw [List.getElem?_eq_none hi]
  rfl)
 refine ⟨fun i x hx hi=>?_,fun i x hx hi=>?_⟩
 ·have:=hb.1 i hi
  simp only [hx,Option.any_some] at this
  exact this
 have:=hb.2 i hi
 simp only [hx,Option.any_some] at this
 exact this
theorem findS_mem {ks:List ByteArray} (h:KS ks) {k:ByteArray} {i:Nat} (hi:ks[i]? = some k):(findS ks k).1 = i ∧ (findS ks k).2 = true:=by
 obtain ⟨h1,h2⟩:=findS_spec h k
 have hle:(findS ks k).1 ≤ i:=by
  rcases Nat.lt_or_ge i (findS ks k).1 with e | e
  ·have:=h1 i k hi e
   rw [sLt_irr] at this
   cases this
  exact e
 have hge:i ≤ (findS ks k).1:=by
  rcases Nat.lt_or_ge (findS ks k).1 i with e | e
  ·have hlt:=(List.getElem?_eq_some_iff.1 hi).1
   have hx:=List.getElem?_eq_getElem (l:=ks) (i:=(findS ks k).1) (by omega)
   have g1:=h.lt hx hi e
   rw [h2 _ _ hx (Nat.le_refl _)] at g1
   cases g1
  exact e
 have e:(findS ks k).1 = i:=Nat.le_antisymm hle hge
 refine ⟨e,?_⟩
 show (ks[(findS ks k).1]?).any _ = true
 rw [e,hi]
 simp
section
variable {β:Type}
def oGet (ks:List ByteArray) (vs:List β) (k:ByteArray) (z:β):β × Bool:=if (findS ks k).2 = true then ((vs[(findS ks k).1]?).getD z,true) else (z,false)
def oWithK (ks:List ByteArray) (k:ByteArray):List ByteArray:=if (findS ks k).2 = true then ks else ks.take (findS ks k).1 ++ k :: ks.drop (findS ks k).1
def oWithV (ks:List ByteArray) (vs:List β) (k:ByteArray) (v:β):List β:=if (findS ks k).2 = true then vs.set (findS ks k).1 v else vs.take (findS ks k).1 ++ v :: vs.drop (findS ks k).1
def oOutK (ks:List ByteArray) (k:ByteArray):List ByteArray:=if (findS ks k).2 = true then ks.eraseIdx (findS ks k).1 else ks
def oOutV (ks:List ByteArray) (vs:List β) (k:ByteArray):List β:=if (findS ks k).2 = true then vs.eraseIdx (findS ks k).1 else vs
end
def noEntry:Entry:=⟨[],⟨0,0,0⟩⟩
def sSet (l:List Sess) (s:Sess) (most:Int):List Sess × Int:=
 if (findI l s.id).2 = true then (l.set (findI l s.id).1 s,0) else if most ≤ (l.length:Int) then (l,2) else (l.take (findI l s.id).1 ++ s :: l.drop (findI l s.id).1,0)
def sBeat (l:List Sess) (q til:Int):List Sess × Int:=
 if (findI l q).2 = true then ((match l[(findI l q).1]? with | some x=>l.set (findI l q).1 { x with til:=max x.til til } | none=>l),0) else (l,3)
def sClear (l:List Sess) (q:Int):List Sess × Int:=if (findI l q).2 = true then (l.eraseIdx (findI l q).1,0) else (l,3)
def better (a b:Sess):Bool:=decide (b.prio < a.prio) || decide (a.prio = b.prio ∧ a.id < b.id)
def bestStep (a:Sess × Nat) (s:Sess):Sess × Nat:=(if a.2 = 0 ∨ better s a.1 = true then s else a.1,a.2 + 1)
def bestOf (l:List Sess) (now:Int):Sess × Nat:=(l.filter (live now)).foldl bestStep (⟨0,0,0,0⟩,0)
def presOf (l:List Sess) (now:Int):Pres:=⟨(bestOf l now).1.status,(bestOf l now).1.prio,((bestOf l now).2:Int)⟩
def bGet (b:Book) (u:ByteArray):Entry:=(oGet b.keys b.vals u noEntry).1
def bWith (b:Book) (u:ByteArray) (e:Entry):Book:=⟨oWithK b.keys u,oWithV b.keys b.vals u e⟩
def bOut (b:Book) (u:ByteArray):Book:=⟨oOutK b.keys u,oOutV b.keys b.vals u⟩
def settle (b:Book) (u:ByteArray) (l:List Sess) (now:Int):Book × List Change:=
 (if l = [] then bOut b u else bWith b u ⟨l,presOf l now⟩,if presOf l now = (bGet b u).told then [] else [⟨u,(bGet b u).told,presOf l now⟩])
def opSess (l:List Sess) (x:Opr) (now most:Int):List Sess × Int:=
 if x.kind = 1 then sSet l ⟨x.id,x.status,x.prio,tAdd now x.ttl⟩ most else if x.kind = 2 then sBeat l x.id (tAdd now x.ttl) else if x.kind = 3 then sClear l x.id else (l,0)
def bWrite (b:Book) (x:Opr) (now most:Int):Book × List Change × Int:=
 let r:=opSess ((bGet b x.user).sessions.filter (live now)) x now most
 ((settle b x.user r.1 now).1,(settle b x.user r.1 now).2,r.2)
def sweepStep (now:Int) (a:Book × List Change) (p:ByteArray × Entry):Book × List Change:=
 ((settle a.1 p.1 (p.2.sessions.filter (live now)) now).1,a.2 ++ (settle a.1 p.1 (p.2.sessions.filter (live now)) now).2)
def bSweep (b:Book) (now:Int):Book × List Change:=(b.keys.zip b.vals).foldl (sweepStep now) (b,[])
def BookLe (b:Book) (n m:Nat):Prop:=b.keys.length = b.vals.length ∧ b.keys.length ≤ n ∧ ∀ e ∈ b.vals,e.sessions.length ≤ m
theorem BookLe.mono {b:Book} {n m n' m' : Nat} (h:BookLe b n m) (hn:n ≤ n') (hm:m ≤ m'):BookLe b n' m' := ⟨h.1,Nat.le_trans h.2.1 hn,fun e he=>Nat.le_trans (h.2.2 e he) hm⟩
theorem mem_set {α:Type} {l:List α} {i:Nat} {a x:α} (h:x ∈ l.set i a):x = a ∨ x ∈ l:=(List.mem_or_eq_of_mem_set h).symm
theorem bWith_le {b:Book} {n m:Nat} (h:BookLe b n m) (u:ByteArray) {e:Entry} (he:e.sessions.length ≤ m):BookLe (bWith b u e) (n + 1) m:=by
 obtain ⟨h1,h2,h3⟩:=h
 have hi:=findS_le b.keys u
 unfold bWith oWithK oWithV BookLe
 by_cases hf:(findS b.keys u).2 = true
 ·simp only [if_pos hf]
  refine ⟨by rw [List.length_set]; exact h1,by omega,fun x hx=>?_⟩
  rcases mem_set hx with rfl | hx
  ·exact he
  exact h3 x hx
 simp only [if_neg hf]
 refine ⟨?_,?_,fun x hx=>?_⟩
 ·simp only [List.length_append,List.length_take,List.length_cons,List.length_drop]
  omega
 ·simp only [List.length_append,List.length_take,List.length_cons,List.length_drop]
  omega
 rcases List.mem_append.1 hx with hx | hx
 ·exact h3 x (List.mem_of_mem_take hx)
 rcases List.mem_cons.1 hx with rfl | hx
 ·exact he
 exact h3 x (List.mem_of_mem_drop hx)
theorem bOut_le {b:Book} {n m:Nat} (h:BookLe b n m) (u:ByteArray):BookLe (bOut b u) n m:=by
 obtain ⟨h1,h2,h3⟩:=h
 unfold bOut oOutK oOutV BookLe
 by_cases hf:(findS b.keys u).2 = true
 ·simp only [if_pos hf]
  refine ⟨?_,?_,fun x hx=>h3 x (List.mem_of_mem_eraseIdx hx)⟩
  ·rw [List.length_eraseIdx,List.length_eraseIdx,h1]
  rw [List.length_eraseIdx]
  split <;> omega
 simp only [if_neg hf]
 exact ⟨h1,h2,h3⟩
theorem settle_le {b:Book} {n m:Nat} (h:BookLe b n m) (u:ByteArray) {l:List Sess} (hl:l.length ≤ m) (now:Int):BookLe (settle b u l now).1 (n + 1) m:=by
 unfold settle
 simp only
 split
 ·exact (bOut_le h u).mono (Nat.le_succ _) (Nat.le_refl _)
 exact bWith_le h u hl
theorem settle_ch (b:Book) (u:ByteArray) (l:List Sess) (now:Int):(settle b u l now).2.length ≤ 1:=by
 unfold settle
 simp only
 split <;> simp
def sweepAcc (b:Book) (now:Int) (i:Nat):Book × List Change:=((b.keys.zip b.vals).take i).foldl (sweepStep now) (b,[])
theorem sweepAcc_le {b:Book} {n m:Nat} (h:BookLe b n m) (now:Int):∀ i,BookLe (sweepAcc b now i).1 (n + i) m ∧ (sweepAcc b now i).2.length ≤ i
 | 0=>⟨h,Nat.le_refl _⟩
 | i + 1=>by
  have ih:=sweepAcc_le h now i
  by_cases hi:i < (b.keys.zip b.vals).length
  ·have e:sweepAcc b now (i + 1) = sweepStep now (sweepAcc b now i) (b.keys.zip b.vals)[i]:=by
    unfold sweepAcc
    rw [List.take_succ_eq_append_getElem hi,List.foldl_append]
    rfl
   rw [e]
   have hx:((b.keys.zip b.vals)[i].2.sessions.filter (live now)).length ≤ m:=Nat.le_trans (List.length_filter_le _ _) (h.2.2 _ (List.of_mem_zip (List.getElem_mem hi)).2)
   unfold sweepStep
   refine ⟨settle_le ih.1 _ hx now,?_⟩
   have:=settle_ch (sweepAcc b now i).1 (b.keys.zip b.vals)[i].1 ((b.keys.zip b.vals)[i].2.sessions.filter (live now)) now
   simp only [List.length_append]
   omega
  ·have e:sweepAcc b now (i + 1) = sweepAcc b now i:=by
    unfold sweepAcc
    rw [List.take_of_length_le (by omega),List.take_of_length_le (by omega)]
   rw [e]
   exact ⟨ih.1.mono (by omega) (Nat.le_refl _),by omega⟩
theorem sweepAcc_succ {b:Book} {now:Int} {i:Nat} (h1:i < b.keys.length) (h2:i < b.vals.length):sweepAcc b now (i + 1) = sweepStep now (sweepAcc b now i) (b.keys[i],b.vals[i]):=by
 have hi:i < (b.keys.zip b.vals).length:=by
  rw [List.length_zip]
  omega
 unfold sweepAcc
 rw [List.take_succ_eq_append_getElem hi,List.foldl_append,List.getElem_zip]
 rfl
theorem sweepAcc_all {b:Book} (now:Int) {n:Nat} (h:b.keys.length ≤ n):sweepAcc b now n = bSweep b now:=by
 unfold sweepAcc bSweep
 rw [List.take_of_length_le (by rw [List.length_zip]; omega)]
theorem mem_at {α:Type} {l:List α} {x:α} (h:x ∈ l):∃ i:Nat,l[i]? = some x:=by
 obtain ⟨i,hi,rfl⟩:=List.getElem_of_mem h
 exact ⟨i,List.getElem?_eq_getElem hi⟩
theorem findS_iff {ks:List ByteArray} (h:KS ks) (k:ByteArray):(findS ks k).2 = true ↔ k ∈ ks:=
 ⟨fun e=>List.mem_of_getElem? (findS_lt e).2,fun e=>by
  obtain ⟨i,hi⟩:=mem_at e
  exact (findS_mem h hi).2⟩
theorem oWithK_has {ks:List ByteArray} (h:KS ks) {k:ByteArray} (hk:k ∈ ks):oWithK ks k = ks:=by
 unfold oWithK
 rw [if_pos ((findS_iff h k).2 hk)]
theorem oWithK_mem {ks:List ByteArray} (k x:ByteArray):x ∈ oWithK ks k ↔ x ∈ ks ∨ (x = k ∧ (findS ks k).2 = false) ∨ (x = k ∧ x ∈ ks):=by
 unfold oWithK
 cases e:(findS ks k).2
 ·rw [if_neg (by decide)]
  simp only [List.mem_append,List.mem_cons,and_true]
  constructor
  ·rintro (h | h | h)
   ·exact .inl (List.mem_of_mem_take h)
   ·exact .inr (.inl h)
   exact .inl (List.mem_of_mem_drop h)
  rintro (h | h | h)
  ·rw [← List.take_append_drop (findS ks k).1 ks] at h
   rcases List.mem_append.1 h with h | h
   ·exact .inl h
   exact .inr (.inr h)
  ·exact .inr (.inl h)
  exact .inr (.inl h.1)
 rw [if_pos rfl]
 simp only [Bool.true_eq_false,and_false,false_or]
 constructor
 ·exact .inl
 rintro (h | h)
 ·exact h
 exact h.2
theorem oWithK_KS {ks:List ByteArray} (h:KS ks) (k:ByteArray):KS (oWithK ks k):=by
 unfold oWithK
 split
 ·exact h
 rename_i hn
 obtain ⟨h1,h2⟩:=findS_spec h k
 have hne:∀ x ∈ ks,x ≠ k:=fun x hx e=>hn ((findS_iff h k).2 (e ▸ hx))
 have hta:∀ x ∈ ks.take (findS ks k).1,sLt x k = true:=fun x hx=>by
  obtain ⟨i,hi,rfl⟩:=List.getElem_of_mem hx
  rw [List.length_take] at hi
  rw [List.getElem_take]
  exact h1 i _ (List.getElem?_eq_getElem (by omega)) (by omega)
 have hdr:∀ x ∈ ks.drop (findS ks k).1,sLt k x = true:=fun x hx=>by
  have hm:=List.mem_of_mem_drop hx
  obtain ⟨i,hi,rfl⟩:=List.getElem_of_mem hx
  rw [List.length_drop] at hi
  rw [List.getElem_drop] at hm ⊢
  exact sLt_tot (h2 _ _ (List.getElem?_eq_getElem (by omega)) (Nat.le_add_right _ _)) (hne _ hm)
 refine List.pairwise_append.2 ⟨h.sublist (List.take_sublist _ _),List.pairwise_cons.2 ⟨hdr,h.sublist (List.drop_sublist _ _)⟩,fun x hx y hy=>?_⟩
 rcases List.mem_cons.1 hy with rfl | hy
 ·exact hta x hx
 exact sLt_trans (hta x hx) (hdr y hy)
theorem oOutK_KS {ks:List ByteArray} (h:KS ks) (k:ByteArray):KS (oOutK ks k):=by
 unfold oOutK
 split
 ·exact h.sublist (List.eraseIdx_sublist _ _)
 exact h
theorem oOutK_len (ks:List ByteArray) (k:ByteArray):(oOutK ks k).length ≤ ks.length:=by
 unfold oOutK
 split
 ·exact (List.eraseIdx_sublist _ _).length_le
 exact Nat.le_refl _
theorem oOutK_keep {ks:List ByteArray} {k x:ByteArray} (hx:x ∈ ks) (hne:x ≠ k):x ∈ oOutK ks k:=by
 unfold oOutK
 split
 ·rename_i hf
  obtain ⟨h1,h2⟩:=findS_lt hf
  obtain ⟨i,hi⟩:=mem_at hx
  refine List.mem_eraseIdx_iff_getElem?.2 ⟨i,fun e=>?_,hi⟩
  subst e
  rw [h2] at hi
  exact hne (Option.some.inj hi).symm
 exact hx
theorem KS.inj {ks:List ByteArray} (h:KS ks) {i j:Nat} {x:ByteArray} (hi:ks[i]? = some x) (hj:ks[j]? = some x):i = j:=by
 rcases Nat.lt_trichotomy i j with e | e | e
 ·have:=h.lt hi hj e
  rw [sLt_irr] at this
  cases this
 ·exact e
 have:=h.lt hj hi e
 rw [sLt_irr] at this
 cases this
theorem settle_KS {b:Book} (h:KS b.keys) (u:ByteArray) (l:List Sess) (now:Int):KS (settle b u l now).1.keys:=by
 unfold settle
 simp only
 split
 ·exact oOutK_KS h u
 exact oWithK_KS h u
theorem settle_len {b:Book} (h:KS b.keys) {u:ByteArray} (hu:u ∈ b.keys) (l:List Sess) (now:Int):(settle b u l now).1.keys.length ≤ b.keys.length:=by
 unfold settle
 simp only
 split
 ·exact oOutK_len _ _
 show (oWithK b.keys u).length ≤ _
 rw [oWithK_has h hu]
 exact Nat.le_refl _
theorem settle_keep {b:Book} (h:KS b.keys) {u x:ByteArray} (hu:u ∈ b.keys) (hx:x ∈ b.keys) (hne:x ≠ u) (l:List Sess) (now:Int):x ∈ (settle b u l now).1.keys:=by
 unfold settle
 simp only
 split
 ·exact oOutK_keep hx hne
 show x ∈ oWithK b.keys u
 rw [oWithK_has h hu]
 exact hx
theorem sweepAcc_KS {b:Book} (h:KS b.keys) (hl:b.keys.length = b.vals.length) (now:Int):∀ i,i ≤ b.keys.length → KS (sweepAcc b now i).1.keys ∧ (sweepAcc b now i).1.keys.length ≤ b.keys.length ∧ ∀ j x,i ≤ j → b.keys[j]? = some x → x ∈ (sweepAcc b now i).1.keys
 | 0,_=>⟨h,Nat.le_refl _,fun j x _ hx=>List.mem_of_getElem? hx⟩
 | i + 1,hi=>by
  obtain ⟨g1,g2,g3⟩:=sweepAcc_KS h hl now i (by omega)
  rw [sweepAcc_succ (by omega) (by omega)]
  have hu:=g3 i _ (Nat.le_refl _) (List.getElem?_eq_getElem (show i < b.keys.length by omega))
  refine ⟨settle_KS g1 _ _ _,Nat.le_trans (settle_len g1 hu _ _) g2,fun j x hj hx=>?_⟩
  refine settle_keep g1 hu (g3 j x (by omega) hx) (fun e=>?_) _ _
  subst e
  have:=h.inj hx (List.getElem?_eq_getElem (show i < b.keys.length by omega))
  omega
theorem bSweep_KS {b:Book} (h:KS b.keys) (hl:b.keys.length = b.vals.length) (now:Int):KS (bSweep b now).1.keys ∧ (bSweep b now).1.keys.length ≤ b.keys.length:=by
 have:=sweepAcc_KS h hl now b.keys.length (Nat.le_refl _)
 rw [sweepAcc_all now (Nat.le_refl _)] at this
 exact ⟨this.1,this.2.1⟩
structure RingS where
 room:Int
 l:List Event
 lost:Bool
def ringPut (r:RingS) (x:Event):RingS:=if r.room ≤ (r.l.length:Int) then { r with lost:=true } else { r with l:=r.l ++ [x] }
def ringEmpty (r:RingS):RingS:=⟨r.room,[],false⟩
def mShr (m who:Int):Int:=m.fdiv (2 ^ min who.toNat IntKind.u32.bits)
def mHas (m who:Int):Bool:=decide (bAnd .u32 (mShr m who) 1 = 1)
def mBit (who:Int):Int:=IntKind.u32.wrap (1 * 2 ^ min who.toNat IntKind.u32.bits)
def mSet (m who:Int):Int:=bOr .u32 m (mBit who)
def mClr (m who:Int):Int:=bNot .u32 m (mBit who)
def isClient (who:Int):Bool:=decide (0 ≤ who ∧ who < 8)
structure FeedS where
 ks:List ByteArray
 vs:List Int
 q:Nat → RingS
def fMask (f:FeedS) (u:ByteArray):Int:=(oGet f.ks f.vs u 0).1
def fWatching (f:FeedS) (who:Int) (u:ByteArray):Bool:=isClient who && mHas (fMask f u) who
def fWatch (f:FeedS) (who:Int) (u:ByteArray):FeedS:=if isClient who = false then f else { f with ks:=oWithK f.ks u,vs:=oWithV f.ks f.vs u (mSet (fMask f u) who) }
def fUnwatch (f:FeedS) (who:Int) (u:ByteArray):FeedS:=
 if isClient who = false ∨ fMask f u = 0 then f
 else if mClr (fMask f u) who = 0 then { f with ks:=oOutK f.ks u,vs:=oOutV f.ks f.vs u }
 else { f with ks:=oWithK f.ks u,vs:=oWithV f.ks f.vs u (mClr (fMask f u) who) }
def setQ (q:Nat → RingS) (k:Nat) (r:RingS):Nat → RingS:=fun i=>if i = k then r else q i
def evOf (c:Change) (seq:Int):Event:=⟨c.user,c.old,c.new,seq⟩
def tellOne (f:FeedS) (c:Change) (seq:Int) (q:Nat → RingS) (who:Nat):Nat → RingS:=if fWatching f (who:Int) c.user = true then setQ q who (ringPut (q who) (evOf c seq)) else q
def tellW (f:FeedS) (c:Change) (seq:Int) (q:Nat → RingS) (w:Nat):Nat → RingS:=((List.range 8).take w).foldl (tellOne f c seq) q
def tellC (f:FeedS) (seq:Int) (q:Nat → RingS) (c:Change):Nat → RingS:=tellW f c seq q 8
def fTell (f:FeedS) (l:List Change) (seq:Int):FeedS:={ f with q:=l.foldl (tellC f seq) f.q }
def QOk (q:Nat → RingS):Prop:=∀ k,k < 8 → (q k).room ≤ 100000 ∧ (q k).l.length ≤ 100000
theorem ringPut_ok {r:RingS} (x:Event) (h:r.room ≤ 100000 ∧ r.l.length ≤ 100000):(ringPut r x).room ≤ 100000 ∧ (ringPut r x).l.length ≤ 100000:=by
 unfold ringPut
 split
 ·exact h
 refine ⟨h.1,?_⟩
 simp only [List.length_append,List.length_cons,List.length_nil]
 omega
theorem QOk.set {q:Nat → RingS} (h:QOk q) (k:Nat) {r:RingS} (hr:r.room ≤ 100000 ∧ r.l.length ≤ 100000):QOk (setQ q k r):=fun i hi=>by
 unfold setQ
 split
 ·exact hr
 ·exact h i hi
theorem tellW_succ (f:FeedS) (c:Change) (seq:Int) (q:Nat → RingS) {w:Nat} (hw:w < 8):tellW f c seq q (w + 1) = tellOne f c seq (tellW f c seq q w) w:=by
 unfold tellW
 rw [List.take_succ_eq_append_getElem (by simpa using hw),List.foldl_append,List.getElem_range]
 rfl
def fDrain (f:FeedS) (who:Nat):FeedS:={ f with q:=setQ f.q who (ringEmpty (f.q who)) }
structure Str where
 latch:Int
 cv:Int
 cb:Int
 snap:Book
 book:Book
 fp:Nat
structure HallS where
 cfg:Cfg
 time:Time
 strs:List Str
 acts:List (Int × Int × Int)
 feed:Nat → FeedS
def noBook:Book:=⟨[],[]⟩
def zStr:Str:=⟨0,0,0,noBook,noBook,0⟩
def hStr (h:HallS) (s:Nat):Str:=h.strs.getD s zStr
def hDid (h:HallS) (who kind place:Int):HallS:={ h with acts:=h.acts ++ [(who,kind,place)] }
def hSet (h:HallS) (s:Nat) (x:Str):HallS:={ h with strs:=h.strs.set s x }
def plc (s:Nat) (w:Int):Int:=4 * (s:Int) + w
def hLook (h:HallS) (who:Int):HallS:=hDid h who 3 0
def hTake (h:HallS) (who:Int):HallS:={ hDid h who 4 0 with time:=⟨h.time.now,tAdd h.time.seq 1,h.time.closed⟩ }
def hPass (h:HallS) (who by_:Int):HallS:={ hDid h who 4 0 with time:=⟨tAdd h.time.now by_,h.time.seq,h.time.closed⟩ }
def hShut (h:HallS) (who:Int):HallS:={ hDid h who 4 0 with time:=⟨h.time.now,h.time.seq,true⟩ }
def hFree (h:HallS) (s:Nat):Bool:=decide ((hStr h s).latch = 0)
def hLock (h:HallS) (who:Int) (s:Nat):HallS × Bool:=
 if (latchTake (hStr h s).latch who).2 = true then (hSet (hDid h who 5 (plc s 1)) s { hStr h s with latch:=(latchTake (hStr h s).latch who).1 },true) else (h,false)
def hUnlock (h:HallS) (who:Int) (s:Nat):HallS × Bool:=
 if (latchGive (hStr h s).latch who).2 = true then (hSet (hDid h who 6 (plc s 1)) s { hStr h s with latch:=(latchGive (hStr h s).latch who).1 },true) else (h,false)
def hEpoch (h:HallS) (who:Int) (s:Nat):HallS:=hDid h who 3 (plc s 2)
def hBegin (h:HallS) (who:Int) (s:Nat):HallS:=hSet (hDid h who 4 (plc s 2)) s { hStr h s with cv:=cBegin (hStr h s).cv (hStr h s).cb }
def hEnd (h:HallS) (who:Int) (s:Nat):HallS:=hSet (hDid h who 4 (plc s 2)) s { hStr h s with cv:=cEnd (hStr h s).cv }
def hSnap (h:HallS) (who:Int) (s:Nat):HallS:=hDid h who 3 (plc s 3)
def hRead (h:HallS) (who:Int) (s:Nat):HallS:=hDid h who 1 (plc s 4)
def hPublish (h:HallS) (who:Int) (s:Nat):HallS:=hSet (hDid (hDid h who 1 (plc s 4)) who 4 (plc s 3)) s { hStr h s with snap:=(hStr h s).book }
def hWr (h:HallS) (who:Int) (s:Nat):HallS:=hDid h who 2 (plc s 4)
def setF (q:Nat → FeedS) (k:Nat) (r:FeedS):Nat → FeedS:=fun i=>if i = k then r else q i
def hDrain (h:HallS) (who s:Nat):HallS:={ hWr h who s with feed:=setF h.feed s (fDrain (h.feed s) who) }
def hWatch (h:HallS) (who:Int) (s:Nat) (u:ByteArray) (on:Bool):HallS:={ hWr h who s with feed:=setF h.feed s (if on = true then fWatch (h.feed s) who u else fUnwatch (h.feed s) who u) }
def hWrite (h:HallS) (who:Int) (s:Nat) (x:Opr) (t:Time):HallS × Int:=
 if t.closed = true then (hWr h who s,5)
 else
  let r:=bWrite (hStr h s).book x t.now h.cfg.sessions
  ({ hSet (hWr h who s) s { hStr h s with book:=r.1 } with feed:=setF h.feed s (fTell (h.feed s) r.2.1 t.seq) },r.2.2)
def hSweep (h:HallS) (who:Int) (s:Nat) (t:Time):HallS:=
 let r:=bSweep (hStr h s).book t.now
 { hSet (hWr h who s) s { hStr h s with book:=r.1 } with feed:=setF h.feed s (fTell (h.feed s) r.2 t.seq) }
inductive WAct where
 | bad
 | wr (x:Opr)
 | sw
structure WProc where
 who:Int
 s:Nat
 act:WAct
 at_:Nat
 time:Time
 placed:Int
 err:Int
def nilAct:WAct → Bool
 | .bad=>true
 | _=>false
def wWaits (p:WProc):Int:=if nilAct p.act = true ∨ 0 < p.at_ then -1 else (p.s:Int)
def wDone (p:WProc):Bool:=decide (7 ≤ p.at_)
def wEnabled (h:HallS) (p:WProc):Bool:=!wDone p && (decide (wWaits p < 0) || hFree h p.s)
def zTime:Time:=⟨0,0,false⟩
def wNew (who:Int) (s:Nat) (x:Opr):WProc:=⟨who,s,if badOp x = true then .bad else .wr x,0,zTime,-1,0⟩
def wDo (h:HallS) (p:WProc):Nat → HallS × WProc
 | 0=>((hLock h p.who p.s).1,p)
 | 1=>(hBegin h p.who p.s,p)
 | 2=>(hTake h p.who,{ p with time:=(hTake h p.who).time })
 | 3=>match p.act with
  | .bad=>(h,p)
  | .wr x=>((hWrite h p.who p.s x p.time).1,{ p with err:=(hWrite h p.who p.s x p.time).2 })
  | .sw=>(hSweep h 8 p.s p.time,{ p with err:=0 })
 | 4=>(hPublish h p.who p.s,p)
 | 5=>(hEnd h p.who p.s,p)
 | _=>((hUnlock h p.who p.s).1,p)
def wStep (h:HallS) (p:WProc) (pos:Int):HallS × WProc:=
 if wEnabled h p = false then (h,p)
 else if nilAct p.act = true then (h,{ p with err:=1,placed:=pos,at_:=7 })
 else
  let p1:=if p.at_ = 2 then { p with placed:=pos } else p
  ((wDo h p1 p.at_).1,{ (wDo h p1 p.at_).2 with at_:=p.at_ + 1 })
def mHd (l:List (List Event)) (a:List Nat) (i:Nat):Option Event:=(l.getD i [])[a.getD i 0]?
def mStep (l:List (List Event)) (a:List Nat) (b:Option Nat) (i:Nat):Option Nat:=match mHd l a i with
 | none=>b
 | some e=>match b with
  | none=>some i
  | some j=>match mHd l a j with
   | some f=>if e.seq < f.seq then some i else some j
   | none=>some j
def mBest (l:List (List Event)) (a:List Nat) (n:Nat):Option Nat:=(List.range n).foldl (mStep l a) none
def mRem:List (List Event) → List Nat → Nat
 | x :: l,a :: az=>(x.length - a) + mRem l az
 | _,_=>0
def mGo:Nat → List (List Event) → List Nat → List Event → List Event
 | 0,_,_,o=>o
 | f + 1,l,a,o=>match mBest l a l.length with
  | none=>o
  | some j=>mGo f l (a.set j (a.getD j 0 + 1)) (o ++ (mHd l a j).toList)
def mTot (l:List (List Event)):Nat:=mRem l (List.replicate l.length 0)
def fMerge (l:List (List Event)):List Event:=mGo (mTot l + 1) l (List.replicate l.length 0) []
def bI:Option Nat → Int
 | none=>-1
 | some j=>(j:Int)
theorem bI_neg {o:Option Nat} (h:bI o < 0):o = none:=by
 cases o with
 | none=>rfl
 | some j=>simp [bI] at h; omega
theorem bI_some {o:Option Nat} (h:¬ bI o < 0):∃ j,o = some j:=by
 cases o with
 | none=>simp [bI] at h
 | some j=>exact ⟨j,rfl⟩
theorem mBest_succ (l:List (List Event)) (a:List Nat) (n:Nat):mBest l a (n + 1) = mStep l a (mBest l a n) n:=by
 unfold mBest
 rw [List.range_succ,List.foldl_append]
 rfl
theorem mBest_lt {l:List (List Event)} {a:List Nat}:∀ {n j:Nat},mBest l a n = some j → j < n ∧ ∃ e,mHd l a j = some e
 | 0,j,h=>by cases h
 | n + 1,j,h=>by
  rw [mBest_succ] at h
  unfold mStep at h
  cases hn:mHd l a n with
  | none=>
   rw [hn] at h
   have:=mBest_lt h
   exact ⟨by omega,this.2⟩
  | some e=>
   rw [hn] at h
   cases hb:mBest l a n with
   | none=>
    rw [hb] at h
    obtain rfl:=Option.some.inj h
    exact ⟨Nat.lt_succ_self _,e,hn⟩
   | some i=>
    rw [hb] at h
    obtain ⟨h1,f,h2⟩:=mBest_lt hb
    simp only [h2] at h
    split at h
    ·obtain rfl:=Option.some.inj h
     exact ⟨Nat.lt_succ_self _,e,hn⟩
    ·obtain rfl:=Option.some.inj h
     exact ⟨by omega,f,h2⟩
theorem mHd_some {l:List (List Event)} {a:List Nat} {i:Nat} (h:a.getD i 0 < (l.getD i []).length):∃ e,mHd l a i = some e:=⟨_,List.getElem?_eq_getElem h⟩
theorem mHd_none {l:List (List Event)} {a:List Nat} {i:Nat} (h:¬ a.getD i 0 < (l.getD i []).length):mHd l a i = none:=List.getElem?_eq_none (by omega)
theorem mHd_lt {l:List (List Event)} {a:List Nat} {i:Nat} {e:Event} (h:mHd l a i = some e):a.getD i 0 < (l.getD i []).length:=(List.getElem?_eq_some_iff.1 h).1
theorem mRem_set:∀ {l:List (List Event)} {a:List Nat} {j:Nat},a.length = l.length → j < l.length → a.getD j 0 < (l.getD j []).length → mRem l (a.set j (a.getD j 0 + 1)) + 1 = mRem l a
 | [],_,_,_,h,_=>absurd h (Nat.not_lt_zero _)
 | x :: l,[],_,h,_,_=>by cases h
 | x :: l,a :: az,0,_,_,h=>by
  simp only [List.getD_cons_zero,List.set_cons_zero,mRem] at h ⊢
  omega
 | x :: l,a :: az,j + 1,h1,h2,h3=>by
  simp only [List.length_cons,Nat.add_right_cancel_iff,Nat.add_lt_add_iff_right] at h1 h2
  simp only [List.getD_cons_succ,List.set_cons_succ,mRem] at h3 ⊢
  have:=mRem_set h1 h2 h3
  omega
theorem mTot_le:∀ {l:List (List Event)} {j:Nat},j < l.length → (l.getD j []).length ≤ mTot l
 | [],_,h=>absurd h (Nat.not_lt_zero _)
 | x :: l,0,_=>by
  simp only [mTot,List.length_cons,List.replicate_succ,mRem,List.getD_cons_zero]
  omega
 | x :: l,j + 1,h=>by
  have:=mTot_le (l:=l) (j:=j) (by simpa using h)
  simp only [mTot,List.length_cons,List.replicate_succ,mRem,List.getD_cons_succ] at this ⊢
  omega
theorem mGo_none {f:Nat} {l:List (List Event)} {a:List Nat} {o:List Event} (h:mBest l a l.length = none):mGo f l a o = o:=by
 cases f with
 | zero=>rfl
 | succ f=>simp only [mGo,h]
theorem mGo_some {f:Nat} {l:List (List Event)} {a:List Nat} {o:List Event} {j:Nat} {e:Event} (h:mBest l a l.length = some j) (he:mHd l a j = some e):mGo (f + 1) l a o = mGo f l (a.set j (a.getD j 0 + 1)) (o ++ [e]):=by
 simp only [mGo,h,he]
 rfl
theorem el3:El 3 1 8 (.int .i64 0):=⟨by kernel_rfl,rfl⟩
theorem el4:El 4 1 1 (.bool false):=⟨by kernel_rfl,rfl⟩
theorem el9:El 9 1 16 (.string ⟨#[]⟩):=⟨by kernel_rfl,rfl⟩
theorem zr9:Zr 9 (.string ⟨#[]⟩) [.string ⟨#[]⟩]:=⟨Tryz.zeroValue9,rfl⟩
theorem el22:El 22 1 8 (.int .u64 0):=⟨by kernel_rfl,rfl⟩
theorem el48:El 48 1 24 (.slice none 0 0):=⟨by kernel_rfl,rfl⟩
theorem el53:El 53 1 8 (.pointer none):=⟨by kernel_rfl,rfl⟩
theorem el56:El 56 7 80 (.agg #[.int .i64 0,.string ⟨#[]⟩,.int .i64 0,.int .i64 0,.int .i64 0,.int .u64 0,.slice none 0 0]):=⟨by kernel_rfl,rfl⟩
theorem el61:El 61 18 200 (.agg #[.int .i64 0,.int .i64 0,.int .i64 0,.string ⟨#[]⟩,.int .i64 0,.int .i64 0,.int .i64 0,.int .u64 0,.slice none 0 0,.int .i64 0,.int .u64 0,.int .i64 0,.int .i64 0,.int .i64 0,.int .i64 0,.slice none 0 0,.slice none 0 0,.bool false]):=⟨by kernel_rfl,rfl⟩
theorem el72:El 72 3 24 (.agg #[.int .i64 0,.int .i64 0,.int .i64 0]):=⟨by kernel_rfl,rfl⟩
theorem el74:El 74 8 72 (.agg #[.string ⟨#[]⟩,.int .i64 0,.int .i64 0,.int .i64 0,.int .i64 0,.int .i64 0,.int .i64 0,.int .u64 0]):=⟨by kernel_rfl,rfl⟩
theorem el78:El 78 3 24 (.agg #[.int .i64 0,.int .i64 0,.int .u64 0]):=⟨by kernel_rfl,rfl⟩
theorem el86:El 86 1 24 (.slice none 0 0):=⟨by kernel_rfl,rfl⟩
theorem el108:El 108 1 8 (.pointer none):=⟨by kernel_rfl,rfl⟩
theorem el134:El 134 4 32 (.agg #[.int .i64 0,.int .i64 0,.int .i64 0,.int .u64 0]):=⟨by kernel_rfl,rfl⟩
theorem el157:El 157 8 128 (.agg #[.int .i64 0,.int .u64 0,.int .u64 0,.slice none 0 0,.slice none 0 0,.slice none 0 0,.slice none 0 0,.pointer none]):=⟨by kernel_rfl,rfl⟩
theorem el222:El 222 3 24 (.agg #[.int .i64 0,.int .i64 0,.int .i64 0]):=⟨by kernel_rfl,rfl⟩
theorem el228:El 228 4 48 (.agg #[.slice none 0 0,.int .i64 0,.int .i64 0,.int .i64 0]):=⟨by kernel_rfl,rfl⟩
theorem el230:El 230 7 64 (.agg #[.string ⟨#[]⟩,.int .i64 0,.int .i64 0,.int .i64 0,.int .i64 0,.int .i64 0,.int .i64 0]):=⟨by kernel_rfl,rfl⟩
theorem el235:El 235 2 16 (.agg #[.int .i64 0,.nilFunc]):=⟨by kernel_rfl,rfl⟩
theorem el253:El 253 1 4 (.int .u32 0):=⟨by kernel_rfl,rfl⟩
theorem zr253:Zr 253 (.int .u32 0) [.int .u32 0]:=⟨Tryz.zeroValue253,rfl⟩
/-! ### 1. Cells that begin with elements -/
section
variable {α:Type} {d:Kn α} {t t' : TW} {T:Tag → Prop} {g:Tag} {B e:Nat} {xs ys:List α} {cs news:List Value}
def Cs (d:Kn α) (t:TW) (cs:List Value) (xs:List α):Prop:=∀ i x,xs[i]? = some x → d.R t x (seg cs d.k i)
theorem Cs.step (h:Cs d t cs xs) (s:Step T t t') (hT:¬ T .fz):Cs d t' cs xs:=fun i x hi=>d.stp s hT (h i x hi)
theorem Cs.n (h:Cs d t cs xs) (s:Step T t t') (hT:¬ T .fz:=by first | exact id | nofun | (rintro (h | h) <;> cases h) | (rintro (h | h | h) <;> cases h)):Cs d t' cs xs:=h.step s hT
theorem Cs.take (h:Cs d t cs xs) (n:Nat):Cs d t cs (xs.take n):=fun i x hi=>by
 rw [List.getElem?_take] at hi
 split at hi
 ·exact h i x hi
 ·cases hi
theorem put_length {o:Nat} (h:o + news.length ≤ cs.length):(put cs o news).length = cs.length:=by
 unfold put
 rw [List.length_append,List.length_append,List.length_take,List.length_drop]
 omega
theorem seg_put_lt {k i j:Nat} (hij:i < j) (hf:j * k ≤ cs.length):seg (put cs (j * k) news) k i = seg cs k i:=by
 have h1:(i + 1) * k ≤ j * k:=Nat.mul_le_mul_right _ hij
 rw [Nat.add_mul] at h1
 unfold seg put
 rw [List.append_assoc,List.drop_append_of_le_length (by rw [List.length_take]; omega),List.take_append_of_le_length (by rw [List.length_drop,List.length_take]; omega),List.drop_take,List.take_take]
 congr 1
 omega
theorem seg_put_ge {k i j m:Nat} (hn:news.length = m * k) (hij:j + m ≤ i) (hf:j * k ≤ cs.length):seg (put cs (j * k) news) k i = seg cs k i:=by
 have h1:(j + m) * k ≤ i * k:=Nat.mul_le_mul_right _ hij
 rw [Nat.add_mul] at h1
 unfold seg put
 rw [List.drop_append,List.drop_of_length_le (by rw [List.length_append,List.length_take]; omega),List.nil_append,List.drop_drop]
 congr 2
 rw [List.length_append,List.length_take]
 omega
theorem seg_put_in {k i j m:Nat} (hn:news.length = m * k) (h1:j ≤ i) (h2:i < j + m) (hf:j * k ≤ cs.length):seg (put cs (j * k) news) k i = seg news k (i - j):=by
 have h3:(i + 1) * k ≤ (j + m) * k:=Nat.mul_le_mul_right _ h2
 have h4:j * k ≤ i * k:=Nat.mul_le_mul_right _ h1
 rw [Nat.add_mul,Nat.add_mul] at h3
 unfold seg put
 rw [List.append_assoc,List.drop_append,List.drop_of_length_le (by rw [List.length_take]; omega),List.nil_append,List.length_take,Nat.min_eq_left hf,← Nat.sub_mul,List.drop_append_of_le_length (by rw [hn,Nat.sub_mul]; omega),List.take_append_of_le_length (by rw [List.length_drop,hn,Nat.sub_mul]; omega)]
theorem Cs.put (h:Cs d t cs xs) {j:Nat} (hE:Els d t ys news) (hj:j ≤ xs.length) (hf:j * d.k ≤ cs.length):Cs d t (X.put cs (j * d.k) news) (xs.take j ++ ys ++ xs.drop (j + ys.length)):=fun i x hi=>by
 by_cases h1:i < j
 ·rw [seg_put_lt h1 hf]
  rw [List.append_assoc,List.getElem?_append_left (by rw [List.length_take]; omega),List.getElem?_take,if_pos h1] at hi
  exact h i x hi
 ·by_cases h2:i < j + ys.length
  ·rw [seg_put_in hE.1 (by omega) h2 hf]
   rw [List.getElem?_append_left (by rw [List.length_append,List.length_take]; omega),List.getElem?_append_right (by rw [List.length_take]; omega),List.length_take,Nat.min_eq_left hj] at hi
   exact hE.2 _ x hi
  ·rw [seg_put_ge hE.1 (by omega) hf]
   rw [List.getElem?_append_right (by rw [List.length_append,List.length_take]; omega),List.getElem?_drop] at hi
   refine h i x ?_
   rw [← hi]
   congr 1
   rw [List.length_append,List.length_take]
   omega
theorem Cs.tail (h:Cs d t cs xs) {j:Nat} (hj:xs.length ≤ j) (hf:j * d.k ≤ cs.length):Cs d t (X.put cs (j * d.k) news) xs:=fun i x hi=>by
 have:=(List.getElem?_eq_some_iff.1 hi).1
 rw [seg_put_lt (by omega) hf]
 exact h i x hi
theorem Cs.part (h:Cs d t cs xs) (hl:xs.length * d.k ≤ cs.length) (i:Nat) (hi:i ≤ xs.length):Els d t (xs.drop i) ((cs.drop (i * d.k)).take ((xs.length - i) * d.k)):=by
 have h4:i * d.k ≤ xs.length * d.k:=Nat.mul_le_mul_right _ hi
 refine ⟨by rw [List.length_take,List.length_drop,List.length_drop,Nat.sub_mul]; omega,fun j x hj=>?_⟩
 rw [List.getElem?_drop] at hj
 have hlt:=(List.getElem?_eq_some_iff.1 hj).1
 have e:seg ((cs.drop (i * d.k)).take ((xs.length - i) * d.k)) d.k j = seg cs d.k (i + j):=by
  have h5:(i + j + 1) * d.k ≤ xs.length * d.k:=Nat.mul_le_mul_right _ hlt
  unfold seg
  rw [List.drop_take,List.take_take,List.drop_drop,← Nat.add_mul]
  congr 1
  rw [Nat.add_mul,Nat.add_mul] at h5
  rw [Nat.sub_mul]
  omega
 rw [e]
 exact h _ x hj
theorem at_part {b n i k:Nat} (hb:Bk t b cs e g):At t.w b (i * k) ((cs.drop (i * k)).take n):=fun j v hj=>by
 refine hb.cell ?_
 rw [List.getElem?_take] at hj
 split at hj
 ·simpa using hj
 ·cases hj
theorem Row.of_cs {b cap:Nat} (hb:Bk t b cs e g) (hB:B ≤ b) (hc:xs.length ≤ cap) (hs:cs.length = cap * d.k) (hm:cap ≤ maxLen) (hx:Cs d t cs xs):Row t g B e d (.slice (some ⟨b,0,none⟩) xs.length cap) xs:=Row.of_block hb hB hc hs hm hx
theorem Row.open_ {b len cap:Nat} (h:Row t g B e d (.slice (some ⟨b,0,none⟩) len cap) xs):∃ cs,len = xs.length ∧ B ≤ b ∧ Bk t b cs e g ∧ xs.length ≤ cap ∧ cs.length = cap * d.k ∧ cap ≤ maxLen ∧ Cs d t cs xs:=by
 obtain ⟨inner,ho,ht,hx⟩:=h
 rcases ho.2 with ⟨h1,_⟩ | ⟨q,cap', cur,h1,hB,hq,hc,hm,hs,htk⟩
 ·cases h1
 obtain ⟨h2,rfl,rfl⟩:=Value.slice.inj h1
 obtain ⟨rfl,_⟩:=Addr.mk.inj (Option.some.inj h2)
 refine ⟨cur.toList,rfl,hB,⟨by simpa using hq,ht b (by simp [Value.ownBlock])⟩,hc,by simpa using hs,hm,fun i x hi=>?_⟩
 have:=hx i x hi
 have hlt:=(List.getElem?_eq_some_iff.1 hi).1
 have e:seg inner d.k i = seg cur.toList d.k i:=by
  unfold seg
  rw [← htk,List.drop_take,List.take_take]
  congr 1
  have:(i + 1) * d.k ≤ xs.length * d.k:=Nat.mul_le_mul_right _ hlt
  rw [Nat.add_mul] at this
  omega
 rw [← e]
 exact this
theorem Row.cases {v:Value} (h:Row t g B e d v xs):(v = .slice none 0 0 ∧ xs = []) ∨ ∃ b cap,v = .slice (some ⟨b,0,none⟩) xs.length cap:=by
 obtain ⟨inner,ho,ht,hx⟩:=h
 rcases ho.2 with ⟨h1,h2⟩ | ⟨q,cap', cur,h1,_⟩
 ·exact .inl ⟨h1,List.eq_nil_of_length_eq_zero h2⟩
 exact .inr ⟨q,cap', h1⟩
end
/-! ### 2. Parts of a slice -/
section
variable {n:Sz} {E:Env} {dd:Option Nat} {ty:TypeId} {pos:String} {af:Array Edge} {gd:Option (Nat × Bool)} {x y z u:Operand}
theorem Fr.slM {q e k len cap b o:Nat} {k1 k2:IntKind} {i j:Int} (h:ev E x = some (.slice (some ⟨b,o,none⟩) len cap)) (hi:ev E y = some (.int k1 i)) (hj:ev E z = some (.int k2 j)) (ht:SlT q e k) (h0:0 ≤ i) (h1:i ≤ j) (h2:j ≤ cap) (h3:i < cap) :
  Fr n ⟨dd,.slice q x (some y) (some z) none,ty,pos,af,gd⟩ E (.slice (some ⟨b,o + i.toNat * k,none⟩) (j.toNat - i.toNat) (cap - i.toNat)):=fun a w ha=>by
 have hh:(Instr.sliceBounds true len cap (some (.int k1 i)) (some (.int k2 j)) none).run P w = .ok (i.toNat,j.toNat,cap) w:=by
  simp [Instr.sliceBounds,Instr.sliceBound,asIntOf,h0,h1,h2,show (0:Int) ≤ j by omega,show i ≤ max j 0 by omega]
 have hne:¬ cap = i.toNat:=by omega
 simp only [execOp,ha.ev h,ha.ev hi,ha.ev hj,Option.map_none,Option.map_some,Instr.sliceAt,Instr.slice,Sem.run_bind,run_under ht.1,Result.andThen_ok,hh,ht.2.run,Sem.run_pure,if_neg hne,Option.map_some,add_at]
theorem Fr.slB {q e k len cap b o:Nat} {kk:IntKind} {i:Int} (h:ev E x = some (.slice (some ⟨b,o,none⟩) len cap)) (hi:ev E y = some (.int kk i)) (ht:SlT q e k) (h0:0 ≤ i) (h1:i ≤ len) (h2:i < cap) :
  Fr n ⟨dd,.slice q x (some y) none none,ty,pos,af,gd⟩ E (.slice (some ⟨b,o + i.toNat * k,none⟩) (len - i.toNat) (cap - i.toNat)):=by
 have:=Fr.slT (n:=n) (dd:=dd) (ty:=ty) (pos:=pos) (af:=af) (gd:=gd) h hi ht h0 h1
 rw [if_neg (by omega),Option.map_some,add_at] at this
 exact this
theorem Fr.sl3 {q e k len cap b o:Nat} {k1 k2 k3:IntKind} {i j m:Int} (h:ev E x = some (.slice (some ⟨b,o,none⟩) len cap)) (hi:ev E y = some (.int k1 i)) (hj:ev E z = some (.int k2 j)) (hm:ev E u = some (.int k3 m)) (ht:SlT q e k) (h0:0 ≤ i) (h1:i ≤ j) (h2:j ≤ m) (h3:m ≤ cap) (h4:i < m) :
  Fr n ⟨dd,.slice q x (some y) (some z) (some u),ty,pos,af,gd⟩ E (.slice (some ⟨b,o + i.toNat * k,none⟩) (j.toNat - i.toNat) (m.toNat - i.toNat)):=fun a w ha=>by
 have hh:(Instr.sliceBounds true len cap (some (.int k1 i)) (some (.int k2 j)) (some (.int k3 m))).run P w = .ok (i.toNat,j.toNat,m.toNat) w:=by
  simp [Instr.sliceBounds,Instr.sliceBound,asIntOf,h0,h1,h2,h3,show (0:Int) ≤ m by omega,show (0:Int) ≤ j by omega,show i ≤ max j 0 by omega,show j ≤ max m 0 by omega]
 have hne:¬ m.toNat = i.toNat:=by omega
 simp only [execOp,ha.ev h,ha.ev hi,ha.ev hj,ha.ev hm,Option.map_none,Option.map_some,Instr.sliceAt,Instr.slice,Sem.run_bind,run_under ht.1,Result.andThen_ok,hh,ht.2.run,Sem.run_pure,if_neg hne,Option.map_some,add_at]
theorem run_eqS0 {t e:TypeId} (ht:P.underlying t = some (.slice e)) (w:World) (l c:Nat):(Op.equal t (.slice none l c) (.slice none 0 0)).run P w = .ok true w:=by
 have h1:∀ k,(Op.equalIn (k + 1) t (.slice none l c) (.slice none 0 0)).run P w = .ok true w:=fun k=>by
  simp only [Op.equalIn,Sem.run_bind,run_under ht,Result.andThen_ok,Sem.run_pure]
  rfl
 exact h1 9999
theorem run_eqS1 {t e:TypeId} (ht:P.underlying t = some (.slice e)) (w:World) (A:Addr) (l c:Nat):(Op.equal t (.slice (some A) l c) (.slice none 0 0)).run P w = .ok false w:=by
 have h1:∀ k,(Op.equalIn (k + 1) t (.slice (some A) l c) (.slice none 0 0)).run P w = .ok false w:=fun k=>by
  simp only [Op.equalIn,Sem.run_bind,run_under ht,Result.andThen_ok,Sem.run_pure]
  try rfl
 exact h1 9999
theorem Fr.nilS0 {t t' e:TypeId} {l c:Nat} (h:ev E x = some (.slice none l c)) (ht:P.underlying t = some (.slice e)) :
  Fr n ⟨dd,.binOp .eql t x (.const (.slice none 0 0)) t', ty,pos,af,gd⟩ E (.bool true):=Fr.bo' h rfl fun w=>by
 have hg:eqGuard .eql t x (.const (.slice none 0 0)) (.slice none l c) (.slice none 0 0) = pure ():=by cases x <;> rfl
 rw [hg,pure_bind]
 show (do pure (Value.bool (← Op.equal t (.slice none l c) (.slice none 0 0))):Sem Value).run P w = _
 rw [Sem.run_bind,run_eqS0 ht]
 rfl
theorem Fr.nilS1 {t t' e:TypeId} {A:Addr} {l c:Nat} (h:ev E x = some (.slice (some A) l c)) (ht:P.underlying t = some (.slice e)) :
  Fr n ⟨dd,.binOp .eql t x (.const (.slice none 0 0)) t', ty,pos,af,gd⟩ E (.bool false):=Fr.bo' h rfl fun w=>by
 have hg:eqGuard .eql t x (.const (.slice none 0 0)) (.slice (some A) l c) (.slice none 0 0) = pure ():=by cases x <;> rfl
 rw [hg,pure_bind]
 show (do pure (Value.bool (← Op.equal t (.slice (some A) l c) (.slice none 0 0))):Sem Value).run P w = _
 rw [Sem.run_bind,run_eqS1 ht]
 rfl
end
/-! ### 3. append in place; append of zeros -/
section
variable {α:Type} {dk:Kn α} {c:Ctx} {E:Env} {dd:Option Nat} {ty:TypeId} {pos:String} {af:Array Edge} {gd:Option (Nat × Bool)} {x y:Operand} {v:Value} {t:TW} {g:Tag} {B e:Nat} {xs:List α}
theorem Ef.apI {q k b len cap b' o' m cap' : Nat} {cs news:List Value} (h:ev E x = some (.slice (some ⟨b,0,none⟩) len cap)) (h' : ev E y = some (.slice (some ⟨b', o', none⟩) m cap')) (ht:SlT q e k) (hb:Bk t b cs e g) (hn:news.length = m * k) (hA:At t.w b' o' news) (h1:∀ u ∈ news,u.oneCell' = true)
  (hroom:len + m ≤ cap) (hs:cs.length = cap * k) (hT:c.t0.w.heap.size ≤ b ∨ c.T g):Ef c ⟨dd,.call { callee:=.builtin .append,args:=#[x,y],argTypes:=#[q,q] },ty,pos,af,gd⟩ E t (fun v' t' => v' = .slice (some ⟨b,0,none⟩) (len + m) cap ∧ Stored t b (put cs (len * k) news) e g t'):=.mk fun hs' a ha K Q hk=>by
 have hl:(loadCells ⟨b', o', none⟩ news.length).run P t.w = .ok news.toArray t.w:=run_loadCells_list (P:=P) t.w ⟨b', o', none⟩ news (fun j v hv=>by rw [add_at]; exact hA j v hv)
 have hfit:len * k + news.length ≤ cs.length:=by
  rw [hs,hn,← Nat.add_mul]
  exact Nat.mul_le_mul_right _ hroom
 have hst:=run_storeCells_at P b (len * k) e news 0 cs.toArray t.w hb.1 (by simpa using hfit) h1
 simp only [Nat.add_zero] at hst
 have hrun:(Builtin.append_ #[q,q] ty #[.slice (some ⟨b,0,none⟩) len cap,.slice (some ⟨b', o', none⟩) m cap']).run P t.w = .ok (.slice (some ⟨b,0,none⟩) (len + m) cap) (t.set b (put cs (len * k) news)).w:=by
  simp [Builtin.append_,run_under ht.1,ht.2.run,Builtin.lenOf,Builtin.firstCells,hroom,← hn,hl,add_at,hst,TW.set,put]
 unfold Oper.wp
 have:(execOp a.eval ⟨dd,.call { callee:=.builtin .append,args:=#[x,y],argTypes:=#[q,q] },ty,pos,af,gd⟩).run P t.w = .ok (.value (.slice (some ⟨b,0,none⟩) (len + m) cap)) (t.set b (put cs (len * k) news)).w:=by
  simp only [execOp,resolve,invoke,builtin,Sem.run_bind,Sem.run_pure,Result.andThen_ok,List.map_toArray,List.map_cons,List.map_nil,ha.ev h,ha.ev h', hrun]
 rw [this]
 have hu:=TW.set_upd (cs' := put cs (len * k) news) hb
 exact hk _ _ (from_upd hb hT hu hs') ⟨rfl,hu,hu.step hb.2,TW.set_bk hb⟩
end
/-! ### 1. The wide fence, in a round -/
def FW (r:Option Nat):Fence:={ Fence.wide with round:=r }
theorem comesIn_FW {r:Option Nat} {m m' : Machine} {e:Ending}:ComesIn (Machine.fenced P (FW r)) P m m' e ↔ Comes P m m' e:=by
 have h:Machine.fenced P (FW r) = Machine.fenced P Fence.wide:=rfl
 rw [h]
 exact comesIn_wide
theorem callsIn_FW {r:Option Nat} {n:Nat} {f:FuncId} {args:Array Value} {w:World} {R:Ending → World → Prop} (h:Calls P f args w R):CallsIn (FW r) n P f args w R:=
 ⟨trivial,fun cs _=>let ⟨e,w', fr,r,s,x⟩:=h cs; ⟨e,w', fr,r,comesIn_FW.2 s,x⟩⟩
theorem rowsIn_FW {r:Option Nat} {n:Nat} {row:String} {args:Array Value} {w:World} {R:Value → World → Prop} (h:Rows P row args w R):RowsIn (FW r) n P row args w R:=fun c cs _=>by
 obtain ⟨v,w', hr,hs⟩:=h c cs
 refine ⟨v,w', hr,?_⟩
 have e:Machine.fenced P (FW r) = Machine.fenced P Fence.wide:=rfl
 rw [e]
 exact stepsIn_wide.2 hs
theorem op_lift {r:Option Nat} {o:Oper} {a:Act} {w:World} {K:Act → World → Prop} {Q:Exit → Act → World → Prop} (hnd:∀ c,o.op ≠ .defer c) (h:o.wp P a w K Q):o.wpIn (FW r) 0 P a w K Q:=by
 refine ⟨fun _ _=>trivial,?_⟩
 have e:o.semAt (FW r).round a.eval = execOp a.eval o:=Oper.semAt_eq _ _ _ hnd
 rw [e]
 unfold Oper.wp at h
 revert h
 cases (execOp a.eval o).run P w with
 | ok v w' =>
  cases v with
  | value v=>exact id
  | skip=>exact id
  | defer d=>exact id
  | enter f args=>exact fun h=>⟨fun h=>by simp [FW,Fence.wide] at h,callsIn_FW h⟩
  | row row args=>exact fun h=>⟨fun h=>by simp [FW,Fence.wide] at h,rowsIn_FW h⟩
  | _=>exact False.elim
 | halt hh w' =>
  cases hh with
  | panic v=>exact id
  | _=>exact False.elim
/-! ### 2. Regions and code, in a round or out of one -/
def WI (c:Ctx) (r:Option Nat) (ops:Array Oper) (Q:Exit → Act → World → Prop) (l:List Oper) (E:Env) (t:TW):Prop:=
 Step c.T c.t0 t → ∀ a,Has c.n E a → wpListIn (FW r) 0 P ops Q l a t.w
def WCI (c:Ctx) (r:Option Nat) (x:Code) (Q:Exit → Act → World → Prop) (E:Env) (t:TW):Prop:=Step c.T c.t0 t → ∀ a,Has c.n E a → x.wpIn (FW r) 0 P Q a t.w
def YX (l:Nat) (vs:List Value) (t:TW) (Φ:Value → TW → Prop):Prop:=YieldAt (FW none) 0 P l vs.toArray t.w fun e w' => ∃ v own', e = .returned v ∧ Φ v ⟨w', own'⟩
section
variable {c:Ctx} {q:Option Nat} {ops:Array Oper} {Q Q' : Exit → Act → World → Prop} {rest:List Oper} {E:Env} {t:TW}
variable {d:Nat} {op:Op} {ty:TypeId} {pos:String} {af:Array Edge} {g:Option (Nat × Bool)} {v:Value} {x z:Code} {id:Nat}
theorem WI.r (h:Rd c.n ⟨some d,op,ty,pos,af,g⟩ E t.w v) (k:WI c q ops Q rest ((d,v) :: E) t) (hg:gd ops E g = some true:=by rfl) (hd:Nat.blt d c.n.n = true:=by rfl) (hnd:∀ c,op ≠ .defer c:=by nofun) :
  WI c q ops Q (⟨some d,op,ty,pos,af,g⟩ :: rest) E t:=fun hs a ha=>by
 refine wpListIn_step fun K hK=>?_
 rw [if_pos (ha.wanted (o:=⟨some d,op,ty,pos,af,g⟩) hg)]
 refine op_lift hnd ?_
 unfold Oper.wp
 rw [h a ha]
 exact hK _ _ (k hs _ (ha.put (Nat.le_of_ble_eq_true hd) v))
theorem WI.f (h:Fr c.n ⟨some d,op,ty,pos,af,g⟩ E v) (k:WI c q ops Q rest ((d,v) :: E) t) (hg:gd ops E g = some true:=by rfl) (hd:Nat.blt d c.n.n = true:=by rfl) (hnd:∀ c,op ≠ .defer c:=by nofun) :
  WI c q ops Q (⟨some d,op,ty,pos,af,g⟩ :: rest) E t:=WI.r (h.rd t.w) k hg hd hnd
theorem WI.s (k:WI c q ops Q rest ((d,undef) :: E) t) (hg:gd ops E g = some false:=by rfl) (hd:Nat.blt d c.n.n = true:=by rfl) :
  WI c q ops Q (⟨some d,op,ty,pos,af,g⟩ :: rest) E t:=fun hs a ha=>by
 refine wpListIn_step fun K hK=>?_
 rw [if_neg (by rw [ha.wanted (o:=⟨some d,op,ty,pos,af,g⟩) hg]; exact Bool.false_ne_true)]
 exact ⟨fun _ _=>trivial,hK _ _ (k hs _ (ha.put (Nat.le_of_ble_eq_true hd) _))⟩
theorem WI.e {Φ:Value → TW → Prop} (h:Ef c ⟨some d,op,ty,pos,af,g⟩ E t Φ) (k:∀ v t', Φ v t' → WI c q ops Q rest ((d,v) :: E) t')
  (hg:gd ops E g = some true:=by rfl) (hd:Nat.blt d c.n.n = true:=by rfl) (hnd:∀ c,op ≠ .defer c:=by nofun):WI c q ops Q (⟨some d,op,ty,pos,af,g⟩ :: rest) E t:=fun hs a ha=>by
 refine wpListIn_step fun K hK=>?_
 rw [if_pos (ha.wanted (o:=⟨some d,op,ty,pos,af,g⟩) hg)]
 exact op_lift hnd (h.out hs a ha K Q fun v t' hs' hp=>hK _ _ (k v t' hp hs' _ (ha.put (Nat.le_of_ble_eq_true hd) v)))
theorem WI.e0 {Φ:Value → TW → Prop} (h:Ef c ⟨none,op,ty,pos,af,g⟩ E t Φ) (k:∀ v t', Φ v t' → WI c q ops Q rest E t')
  (hg:gd ops E g = some true:=by rfl) (hnd:∀ c,op ≠ .defer c:=by nofun):WI c q ops Q (⟨none,op,ty,pos,af,g⟩ :: rest) E t:=fun hs a ha=>by
 refine wpListIn_step fun K hK=>?_
 rw [if_pos (ha.wanted (o:=⟨none,op,ty,pos,af,g⟩) hg)]
 exact op_lift hnd (h.out hs a ha K Q fun v t' hs' hp=>hK _ _ (k v t' hp hs' _ ha))
theorem WI.y {l s:Nat} {xs:List Operand} {vs:List Value} {ts:Array TypeId} {Φ:Value → TW → Prop} (hc:lk E s = some (.func (.yield l) #[] #[])) (hx:evs E xs = some vs) (h:YX l vs t (fun v t' => Step c.T t t' ∧ Φ v t'))
  (k:∀ v t', Step c.T t t' ∧ Φ v t' → WI c none ops Q rest ((d,v) :: E) t') (hg:gd ops E g = some true:=by rfl) (hd:Nat.blt d c.n.n = true:=by rfl) :
  WI c none ops Q (⟨some d,.call { callee:=.value (.tmp s),args:=xs.toArray,argTypes:=ts },ty,pos,af,g⟩ :: rest) E t:=fun hs a ha=>by
 refine wpListIn_step fun K hK=>?_
 rw [if_pos (ha.wanted (o:=⟨some d,_,ty,pos,af,g⟩) hg)]
 obtain ⟨fn,tmps,assign,body,hy,hr⟩:=h
 refine ⟨fun _ _=>trivial,?_⟩
 have hcv:=ha.ev (x:=.tmp s) hc
 have e:((⟨some d,.call { callee:=.value (.tmp s),args:=xs.toArray,argTypes:=ts },ty,pos,af,g⟩:Oper).semAt (FW none).round a.eval).run P t.w = .ok (.round l fn tmps assign body) t.w:=by
  rw [show (FW none).round = none from rfl,Oper.semAt_none]
  simp only [execOp,resolve,hcv,Deferred.ofValue,invoke,List.map_toArray,ha.evs hx,Sem.run_bind,Sem.run_pure,Result.andThen_ok,Array.empty_append,List.append_toArray,List.append_nil,List.nil_append,hy]
 rw [e]
 refine ⟨fun h=>by simp [FW,Fence.wide] at h,hr.mono fun e w' hh=>?_⟩
 obtain ⟨v,own', rfl,hs', hp⟩:=hh
 exact hK _ _ (k v ⟨w', own'⟩ ⟨hs', hp⟩ (hs.trans hs') _ (ha.put (Nat.le_of_ble_eq_true hd) v))
theorem WI.nil (h:WQ c Q .normal E t):WI c q ops Q [] E t:=fun hs a ha=>wpListIn_nil (h hs a ha)
theorem WQ.nI (h:WCI c q z Q' E t):WQ c (Exit.then (z.wpIn (FW q) 0 P Q') Q) .normal E t:=h
theorem WI.go (h:WCI c q z Q' E t):WI c q ops (Exit.then (z.wpIn (FW q) 0 P Q') Q) [] E t:=.nil (.nI h)
theorem WI.gow (h:WC c z Q' E t):WI c none ops (Exit.then (z.wp P Q') Q) [] E t:=.nil (.n h)
theorem WI.env {l:List Oper} (E' : Env) (hE:Sub E' E) (h:WI c q ops Q l E' t):WI c q ops Q l E t:=fun hs a ha=>h hs a (ha.weak hE.get)
theorem WI.re {l:List Oper} (s:Nat) {v v' : Value} (hl:lk E s = some v) (e:v = v') (h:WI c q ops Q l ((s,v') :: E) t):WI c q ops Q l E t:=fun hs a ha=>by
 subst e
 exact h hs a (ha.weak (lk_pin hl))
theorem WI.pin {l:List Oper} (s:Nat) {b:Bool} (hl:lk E s = some (.bool b)) (ht:b = true → WI c q ops Q l ((s,.bool true) :: E) t) (hf:b = false → WI c q ops Q l ((s,.bool false) :: E) t):WI c q ops Q l E t:=by
 cases b
 ·exact fun hs a ha=>hf rfl hs a (ha.weak (lk_pin hl))
 exact fun hs a ha=>ht rfl hs a (ha.weak (lk_pin hl))
theorem WCI.seq (h:WCI c q x (Exit.then (z.wpIn (FW q) 0 P Q) Q) E t):WCI c q (.seq x z) Q E t:=fun hs a ha=>wpIn_seq (h hs a ha)
theorem WCI.rg {l:List Oper} (h:WI c q l.toArray Q l E t):WCI c q (.region id l.toArray false) Q E t:=fun hs a ha=>wpIn_region_lit (h hs a ha)
theorem WCI.rs {l:List Oper} (h:WI c q l.toArray (Exit.then (z.wpIn (FW q) 0 P Q) Q) l E t):WCI c q (.seq (.region id l.toArray false) z) Q E t:=.seq (.rg h)
theorem WC.rgI {l:List Oper} (h:WI c none l.toArray Q l E t):WC c (.region id l.toArray false) Q E t:=fun hs a ha=>wpIn_wide.1 (wpIn_region_lit (F:=Fence.wide) (n:=0) (h hs a ha))
theorem WC.rsI {l:List Oper} (h:WI c none l.toArray (Exit.then (z.wp P Q) Q) l E t):WC c (.seq (.region id l.toArray false) z) Q E t:=.seq (.rgI h)
theorem WCI.condT {o:Operand} (h:WCI c q x Q E t) (hc:ev E o = some (.bool true):=by rfl):WCI c q (.cond o x z) Q E t:=fun hs a ha=>wpIn_cond_true (ha.ev hc) (h hs a ha)
theorem WCI.condF {o:Operand} (h:WCI c q z Q E t) (hc:ev E o = some (.bool false):=by rfl):WCI c q (.cond o x z) Q E t:=fun hs a ha=>wpIn_cond_false (ha.ev hc) (h hs a ha)
theorem WCI.condS {s:Nat} {b:Bool} (hl:lk E s = some (.bool b)) (ht:b = true → WCI c q x Q ((s,.bool true) :: E) t) (hf:b = false → WCI c q z Q ((s,.bool false) :: E) t):WCI c q (.cond (.tmp s) x z) Q E t:=fun hs a ha=>
 wpIn_cond_split (ha.ev (x:=.tmp s) hl) (fun e=>by subst e; exact ht rfl hs a (ha.weak (lk_pin hl))) (fun e=>by subst e; exact hf rfl hs a (ha.weak (lk_pin hl)))
theorem WCI.block (h:WCI c q x (Exit.inBlock id Q) E t):WCI c q (.block id x) Q E t:=fun hs a ha=>wpIn_block (h hs a ha)
theorem WCI.skip (h:WQ c Q .normal E t):WCI c q .skip Q E t:=fun hs a ha=>wpIn_skip (h hs a ha)
end
/-! ### 3. Iterators -/
def Iter (f:FuncId) (lb:List Value) (Res:TW → Prop) (n:Nat) (enc:Nat → List Value):Prop:=
 ∀ (l:Nat) (J:Nat → TW → Prop) (t:TW),(∀ i t1 t2,Step No t1 t2 → J i t1 → J i t2) → (∀ i t1,J i t1 → Res t1) →
  (∀ i t1,i < n → J i t1 → YX l (enc i) t1 (fun v t2=>Step (fun _=>True) t1 t2 ∧ v = .bool true ∧ J (i + 1) t2)) → J 0 t →
  Cal f (.func (.yield l) #[] #[] :: lb) t (fun _=>True) (fun _ t' => J n t')
def IterR (f:FuncId) (lb:List Value) (Res:TW → Prop) (n:Nat) (Er:Nat → TW → List Value → Prop):Prop:=
 ∀ (l:Nat) (J:Nat → TW → Prop) (t:TW),(∀ i t1 t2,Step No t1 t2 → J i t1 → J i t2) → (∀ i t1,J i t1 → Res t1) →
  (∀ i t1 vs,i < n → Er i t1 vs → J i t1 → YX l vs t1 (fun v t2=>Step (fun _=>True) t1 t2 ∧ v = .bool true ∧ J (i + 1) t2)) → J 0 t →
  Cal f (.func (.yield l) #[] #[] :: lb) t (fun _=>True) (fun _ t' => J n t')
theorem Iter.rel {f:FuncId} {lb:List Value} {Res:TW → Prop} {n:Nat} {enc:Nat → List Value} (h:Iter f lb Res n enc):IterR f lb Res n (fun i _ vs=>vs = enc i):=
 fun l J t h1 h2 h3 h4=>h l J t h1 h2 (fun i t1 hi hJ=>h3 i t1 _ hi rfl hJ) h4
def RQ (c:Ctx) (J:TW → Prop):Exit → Act → World → Prop
 | .normal,_,w=>∃ t', t'.w = w ∧ Step c.T c.t0 t' ∧ J t'
 | _,_,_=>False
theorem WQ.round {c:Ctx} {J:TW → Prop} {E:Env} {t:TW} (h:J t):WQ c (RQ c J) .normal E t:=fun hs _ _=>⟨t,rfl,hs,h⟩
def AQ (c:Ctx) (N l:Nat) (body:Code) (J:TW → Prop):Exit → Act → World → Prop:=Exit.then (fun a w=>∃ t2,t2.w = w ∧ Step c.T c.t0 t2 ∧ ∀ t3,Step (fun z=>z = .nw N 0) t2 t3 → body.wpIn (FW (some l)) 0 P (RQ ⟨c.n,t3,c.T⟩ J) a t3.w) (fun _ _ _=>False)
theorem WQ.asg {c:Ctx} {N l:Nat} {body:Code} {J:TW → Prop} {E:Env} {t:TW} (h:∀ t3,Step (fun z=>z = .nw N 0) t t3 → WCI ⟨c.n,t3,c.T⟩ (some l) body (RQ ⟨c.n,t3,c.T⟩ J) E t3):WQ c (AQ c N l body J) .normal E t:=fun hs a ha=>
 ⟨t,rfl,hs,fun t3 hs3=>h t3 hs3 (Step.refl _ _) a ha⟩
structure Ob (t:TW) (b:Nat) (o:Obj) (g:Tag):Prop where
 h:t.w.heap[b]? = some o
 g:t.own b = g
theorem Ob.step {T:Tag → Prop} {t t' : TW} {b:Nat} {o:Obj} {g:Tag} (h:Ob t b o g) (s:Step T t t') (hg:¬ T g):Ob t' b o g:=by
 obtain ⟨h1,h2⟩:=s.keep b (Array.getElem?_eq_some_iff.1 h.h).1 (by rw [h.g]; exact hg)
 exact ⟨h2.trans h.h,h1.trans h.g⟩
theorem Ob.n {T:Tag → Prop} {t t' : TW} {b:Nat} {o:Obj} {g:Tag} (h:Ob t b o g) (s:Step T t t') (hg:¬ T g:=by first | exact id | nofun | (rintro (h | h) <;> cases h) | (rintro (h | h | h) <;> cases h)):Ob t' b o g:=h.step s hg
def TW.putO (t:TW) (b:Nat) (o:Obj):TW:=⟨t.w.putObj b o,t.own⟩
theorem TW.putO_step {t:TW} {b:Nat} {o o' : Obj} {g:Tag} (h:Ob t b o' g):Step (fun z=>z = g) t (t.putO b o):=
 ⟨rfl,rfl,rfl,by simp [TW.putO],fun k hk hn=>⟨rfl,World.putObj_heap_other (fun e=>hn (by subst e; exact h.g))⟩⟩
theorem TW.putO_ob {t:TW} {b:Nat} {o o' : Obj} {g:Tag} (h:Ob t b o' g):Ob (t.putO b o) b o g:=⟨World.putObj_heap_same (Array.getElem?_eq_some_iff.1 h.h).1,h.g⟩
def TW.allocO (t:TW) (o:Obj) (g:Tag):TW:=⟨t.w.alloc o,fun k=>if k = t.w.heap.size then g else t.own k⟩
theorem TW.allocO_step (t:TW) (o:Obj) (g:Tag):Step No t (t.allocO o g):=
 ⟨rfl,rfl,rfl,by simp [TW.allocO],fun k hk _=>⟨by simp only [TW.allocO]; rw [if_neg (by omega)],RowKit.Below.heap_alloc t.w o k hk⟩⟩
theorem TW.allocO_ob (t:TW) (o:Obj) (g:Tag):Ob (t.allocO o g) t.w.heap.size o g:=⟨World.alloc_heap_new t.w o,by simp [TW.allocO]⟩
theorem has_puts {n:Sz}:∀ {ps:List (Nat × Value)} {E:Env} {a:Act},Has n E a → (∀ p ∈ ps,p.1 < n.n) → Has n (ps.foldl (fun E p=>p :: E) E) { a with tmps:=ps.foldl (fun t p=>t.setIfInBounds p.1 p.2) a.tmps }
 | [],_,_,h,_=>h
 | p :: ps,E,a,h,hp=>by
  have h1:=h.put (hp p (List.mem_cons_self ..)) p.2
  exact has_puts (ps:=ps) h1 (fun q hq=>hp q (List.mem_cons_of_mem _ hq))
/-! ### 4. The statement -/
theorem WC.rangeR {c:Ctx} {Q:Exit → Act → World → Prop} {E:Env} {t:TW} {s:Nat} {ps:List Nat} {assign body:Code} {f:FuncId} {lb:List Value} {n N:Nat} {Er:Nat → TW → List Value → Prop} {Res:TW → Prop} (Tb:Tag → Prop) (I:Nat → TW → Prop)
  (hnd:c.n.d = none) (hg:lk E s = some (.func (.func f) #[] lb.toArray)) (hent:Ent f) (hIt:IterR f lb Res n Er)
  (hN:∀ k,k < c.t0.w.heap.size → ∀ i,c.t0.own k ≠ .nw N i) (hTN:¬ Tb (.nw N 0)) (hTc:∀ q,Tb q → c.T q ∨ ∀ k,k < c.t0.w.heap.size → c.t0.own k ≠ q)
  (hIs:∀ i t1 t2,Step (fun z=>z = .nw N 0) t1 t2 → I i t1 → I i t2) (hRes:∀ i t1,I i t1 → Res t1) (h0:I 0 t)
  (hps:∀ i t vs,Er i t vs → vs.length = ps.length) (hpl:(ps.all fun p=>Nat.blt p c.n.n) = true)
  (hround:∀ i l t1 vs,i < n → Er i t1 vs → I i t1 → WCI ⟨c.n,t1,Tb⟩ (some l) assign (AQ ⟨c.n,t1,Tb⟩ N l body (I (i + 1))) ((ps.zip (vs)).foldl (fun E p=>p :: E) E) t1)
  (hdone:∀ D t', I n t' → Ob t' D (.deferred (some [])) (.nw N 0) → WQ ⟨⟨c.n.n,some D⟩,c.t0,c.T⟩ Q .normal E t'):WC c (.rangeFunc (.tmp s) ps.toArray assign body) Q E t:=fun hs a ha=>by
 refine wpIn_wide.1 (wpIn_rangeFunc (F:=Fence.wide) (n:=0) fun fn _=>?_)
 obtain ⟨rec,hrec⟩:∃ rec:LoopState → Loop,rec = fun st=>{ state:=st,pending:=none,fn,tmps:=a.tmps,params:=ps.toArray,assign,body,defers:=t.w.heap.size }:=⟨_,rfl⟩
 let t1:TW:=(t.allocO (.deferred (some [])) (.nw N 0)).allocO (.loop (rec .ready)) (.nw N 0)
 have hs1:Step No t t1:=(t.allocO_step _ _).trans (TW.allocO_step _ _ _)
 have hsz:(t.allocO (.deferred (some [])) (.nw N 0)).w.heap.size = t.w.heap.size + 1:=by simp [TW.allocO]
 have hL1:Ob t1 (t.w.heap.size + 1) (.loop (rec .ready)) (.nw N 0):=by
  have:=(t.allocO (.deferred (some [])) (.nw N 0)).allocO_ob (.loop (rec .ready)) (.nw N 0)
  rwa [hsz] at this
 have hD1:Ob t1 t.w.heap.size (.deferred (some [])) (.nw N 0):=(t.allocO_ob _ _).step (TW.allocO_step _ _ _) id
 have hlead:∀ w,(resolve a.eval (rangeCall (.tmp s) (t.w.heap.size + 1)) 0).run P w = .ok { target:=.fn (.func f) lb.toArray,args:=#[.func (.yield (t.w.heap.size + 1)) #[] #[]] } w:=fun w=>by
  have hcv:=ha.ev (x:=.tmp s) hg
  simp only [resolve,hcv,rangeCall]
  simp [go_sem]
 refine ⟨t.w.heap.size + 1,[{ target:=.collected t.w.heap.size,args:=#[] }],t1.w,{ target:=.fn (.func f) lb.toArray,args:=#[.func (.yield (t.w.heap.size + 1)) #[] #[]] },t1.w,f,#[.func (.yield (t.w.heap.size + 1)) #[] #[]] ++ lb.toArray,t1.w,?_,hlead _,fun _ _=>trivial,?_,fun h=>by simp [Fence.wide] at h,?_⟩
 ·have e0:t1.w = (t.w.alloc (.deferred (some []))).alloc (.loop (rec .ready)):=rfl
  rw [show Fence.wide.round = none from rfl,run_enterLoop_outer,e0,hrec]
 ·simp only [invoke]
  exact hent _ _
 have hJ:∀ (T:Tag → Prop) (x y:TW),(∀ q,T q → c.T q ∨ ∀ k,k < c.t0.w.heap.size → c.t0.own k ≠ q) → Step c.T c.t0 x → Step T x y → Step c.T c.t0 y:=fun T x y hT h h' => from_call h h' hT
 have hN0:∀ q,q = Tag.nw N 0 → c.T q ∨ ∀ k,k < c.t0.w.heap.size → c.t0.own k ≠ q:=fun q e=>.inr fun k hk=>by rw [e]; exact hN k hk 0
 have hcal:=hIt (t.w.heap.size + 1) (fun i x=>I i x ∧ Ob x (t.w.heap.size + 1) (.loop (rec .ready)) (.nw N 0) ∧ Ob x t.w.heap.size (.deferred (some [])) (.nw N 0) ∧ Step c.T c.t0 x) t1
  (fun i x y hxy h=>⟨hIs i x y hxy.no h.1,h.2.1.step hxy id,h.2.2.1.step hxy id,h.2.2.2.trans hxy.no⟩) (fun i x h=>hRes i x h.1) ?_ ⟨hIs 0 t t1 hs1.no h0,hL1,hD1,hs.trans hs1.no⟩
 ·have e1:(#[Value.func (.yield (t.w.heap.size + 1)) #[] #[]] ++ lb.toArray) = (Value.func (.yield (t.w.heap.size + 1)) #[] #[] :: lb).toArray:=by simp
  rw [e1]
  unfold Cal at hcal
  refine callsIn_wide.2 (Calls.mono hcal fun e w' hh=>?_)
  obtain ⟨v,own', rfl,hst,hI,hL,hD,hfrom⟩:=hh
  have hput:=TW.putO_step (o:=.loop { rec .ready with state:=.exhausted }) hL
  refine ⟨none,(TW.putO ⟨w', own'⟩ (t.w.heap.size + 1) (.loop { rec .ready with state:=.exhausted })).w,?_,?_⟩
  ·have:=run_endLoop (P:=P) hL.h (by rw [hrec]; simp)
   rw [this,hrec]
   rfl
  ·refine hdone t.w.heap.size _ (hIs n _ _ hput hI) ⟨(World.putObj_heap_other (by omega)).trans hD.h,hD.g⟩ (hJ _ _ _ hN0 hfrom hput) _ ⟨ha.sz,?_,ha.get⟩
   have:=ha.df
   simp only [Sz.defers,hnd] at this
   simp [Sz.defers,this]
 ·rintro i x vs hi hEr ⟨hI,hL,hD,hfrom⟩
  have hy:=run_yield (P:=P) (args:=(vs).toArray) hL.h (by rw [hrec]; simpa using hps i x vs hEr)
  refine ⟨_,_,_,_,hy,roundIn_of_wpIn trivial ?_⟩
  have hha:Has c.n ((ps.zip (vs)).foldl (fun E p=>p :: E) E) { a with tmps:=(ps.zip (vs)).foldl (fun t p=>t.setIfInBounds p.1 p.2) a.tmps }:=has_puts ha (fun p hp=>Nat.le_of_ble_eq_true (List.all_eq_true.1 hpl _ (List.of_mem_zip hp).1))
  have hr:=hround i (t.w.heap.size + 1) x vs hi hEr hI (Step.refl _ _) _ hha
  have e2:(List.foldl (fun tmps x=>match x with | (t,a)=>tmps.setIfInBounds t a) (rec LoopState.ready).tmps ((rec LoopState.ready).params.zip (vs).toArray).toList) = (ps.zip (vs)).foldl (fun t p=>t.setIfInBounds p.1 p.2) a.tmps:=by
   rw [hrec]
   simp
  have e3:({ tmps:=((rec LoopState.ready).params.zip (vs).toArray).foldl (fun tmps (t,a)=>tmps.setIfInBounds t a) (rec LoopState.ready).tmps,defers:=[] }:Act) = { a with tmps:=(ps.zip (vs)).foldl (fun t p=>t.setIfInBounds p.1 p.2) a.tmps }:=by
   have hdf:=ha.df
   simp only [Sz.defers,hnd] at hdf
   rw [hdf,hrec]
   simp
  rw [e3]
  rw [show (rec LoopState.ready).assign = assign by rw [hrec],show (rec LoopState.ready).body = body by rw [hrec]]
  refine wpIn_mono (show assign.wpIn (Fence.inRound (FW none) (t.w.heap.size + 1)) 0 P _ _ _ from hr) fun e a' w' hh=>?_
  cases e with
  | normal=>
   obtain ⟨t2,rfl,hs2,hb⟩:=hh
   have hL2:=hL.step hs2 hTN
   have hb1:=TW.putO_step (o:=.loop { rec .ready with state:=.busy }) hL2
   refine ⟨_,run_beginRound hL2.h (by rw [hrec]),?_⟩
   refine wpIn_mono (show body.wpIn (Fence.inRound (FW none) (t.w.heap.size + 1)) 0 P _ _ (t2.putO (t.w.heap.size + 1) (.loop { rec .ready with state:=.busy })).w from hb _ hb1) fun e a'' w'' hh=>?_
   cases e with
   | normal=>
    obtain ⟨t4,rfl,hs4,hI4⟩:=hh
    have hL3:=(TW.putO_ob (o:=.loop { rec .ready with state:=.busy }) hL2).step hs4 hTN
    have hD2:=hD.step hs2 hTN
    have hD3:Ob (t2.putO (t.w.heap.size + 1) (.loop { rec .ready with state:=.busy })) t.w.heap.size (.deferred (some [])) (.nw N 0):=⟨(World.putObj_heap_other (by omega)).trans hD2.h,hD2.g⟩
    have hD4:=hD3.step hs4 hTN
    have hput:=TW.putO_step (o:=.loop (rec .ready)) hL3
    have he:=run_endRound (P:=P) none hL3.h
    have hrr:(Loop.mk (if (none:Option Code).isNone then LoopState.ready else LoopState.done) none (rec .ready).fn (rec .ready).tmps (rec .ready).params (rec .ready).assign (rec .ready).body (rec .ready).defers) = rec .ready:=by
     rw [hrec]
     rfl
    refine ⟨_,_,he,_,t4.own,rfl,?_,rfl,?_⟩
    ·exact (hs2.mono fun _ _=>trivial).trans ((hb1.mono fun _ _=>trivial).trans ((hs4.mono fun _ _=>trivial).trans ((TW.putO_step hL3).mono fun _ _=>trivial)))
    ·have e5:(⟨t4.w.putObj (t.w.heap.size + 1) (.loop { { rec .ready with state:=.busy } with state:=if (none:Option Code).isNone then .ready else .done,pending:=none }),t4.own⟩:TW) = t4.putO (t.w.heap.size + 1) (.loop (rec .ready)):=by
      rw [hrec]
      rfl
     rw [e5]
     exact ⟨hIs _ _ _ hput hI4,TW.putO_ob hL3,⟨(World.putObj_heap_other (by omega)).trans hD4.h,hD4.g⟩,hJ _ _ _ hN0 (hJ _ _ _ hTc (hJ _ _ _ hN0 (hJ _ _ _ hTc hfrom hs2) hb1) hs4) hput⟩
   | _=>exact hh.elim
  | _=>exact hh.elim
theorem WC.range {c:Ctx} {Q:Exit → Act → World → Prop} {E:Env} {t:TW} {s:Nat} {ps:List Nat} {assign body:Code} {f:FuncId} {lb:List Value} {n N:Nat} {enc:Nat → List Value} {Res:TW → Prop} (Tb:Tag → Prop) (I:Nat → TW → Prop)
  (hnd:c.n.d = none) (hg:lk E s = some (.func (.func f) #[] lb.toArray)) (hent:Ent f) (hIt:Iter f lb Res n enc)
  (hN:∀ k,k < c.t0.w.heap.size → ∀ i,c.t0.own k ≠ .nw N i) (hTN:¬ Tb (.nw N 0)) (hTc:∀ q,Tb q → c.T q ∨ ∀ k,k < c.t0.w.heap.size → c.t0.own k ≠ q)
  (hIs:∀ i t1 t2,Step (fun z=>z = .nw N 0) t1 t2 → I i t1 → I i t2) (hRes:∀ i t1,I i t1 → Res t1) (h0:I 0 t)
  (hps:∀ i,(enc i).length = ps.length) (hpl:(ps.all fun p=>Nat.blt p c.n.n) = true)
  (hround:∀ i l t1,i < n → I i t1 → WCI ⟨c.n,t1,Tb⟩ (some l) assign (AQ ⟨c.n,t1,Tb⟩ N l body (I (i + 1))) ((ps.zip (enc i)).foldl (fun E p=>p :: E) E) t1)
  (hdone:∀ D t', I n t' → Ob t' D (.deferred (some [])) (.nw N 0) → WQ ⟨⟨c.n.n,some D⟩,c.t0,c.T⟩ Q .normal E t'):WC c (.rangeFunc (.tmp s) ps.toArray assign body) Q E t:=
 WC.rangeR Tb I hnd hg hent hIt.rel hN hTN hTc hIs hRes h0 (fun i t vs e=>by rw [e]; exact hps i) hpl (fun i l t1 vs hi e hI=>by subst e; exact hround i l t1 hi hI) hdone
/-! ### 5. Functions that leave with the mark -/
theorem Cal.enterM {f:FuncId} {fn:Func} {x:Code} {args:List Value} {t:TW} {T:Tag → Prop} {Φ:Value → TW → Prop} {n:Nat} (hf:P.funcs[f]? = some fn) (hb:fn.body = some x) (hn:fn.ntmps = n) (hl:args.length ≤ n)
  (h:WC ⟨⟨n,none⟩,t,T⟩ x (bodyPostM Fence.wide 0 P fn (Post T t Φ)) (mkEnv args 0) t):Cal f args t T Φ:=by
 refine callsIn_wide.1 (callsIn_of_wp_marks (F:=Fence.wide) (n:=0) hf hb trivial (wpIn_wide.2 (h (Step.refl _ _) _ ⟨?_,rfl,fun s v hv=>?_⟩)))
 ·simp [hn]
  omega
 obtain ⟨_,h2⟩:=lk_mkEnv args 0 s v hv
 simp only [Nat.sub_zero] at h2
 have hlt:=(List.getElem?_eq_some_iff.1 h2).1
 rw [Array.getElem?_append_left (by simpa using hlt)]
 simpa using h2
section
variable {n D N:Nat} {t0 t:TW} {T:Tag → Prop} {E:Env} {fn:Func} {Φ:Value → TW → Prop} {rs:List ResultVar}
theorem leavesM (hf:fn.results = rs.toArray) (hD:Ob t D (.deferred (some [])) (.nw N 0)) (hN:∀ k,k < t0.w.heap.size → ∀ i,t0.own k ≠ .nw N i) (h:∀ t', Step (fun z=>z = .nw N 0) t t' → ∃ vs,RV E t'.w rs vs ∧ Φ (resOf vs) t') (hs:Step T t0 t) {a:Act} (ha:Has ⟨n,some D⟩ E a) :
  LeavesInM Fence.wide 0 P fn a.tmps (Post T t0 Φ) a.defers .returning t.w:=by
 have e:a.defers = [{ target:=.collected D,args:=#[] }]:=ha.df
 rw [e]
 have hst:=TW.putO_step (o:=.deferred none) hD
 obtain ⟨vs,hv,hp⟩:=h _ hst
 refine ⟨by simp,.inl ⟨D,(t.putO D (.deferred none)).w,rfl,run_takeDeferred hD.h,?_⟩⟩
 exact ⟨_,RV.results ha hf hv,_,(t.putO D (.deferred none)).own,rfl,from_call (c:=⟨⟨n,none⟩,t0,T⟩) hs hst (fun q e=>.inr fun k hk=>by rw [e]; exact hN k hk 0),hp⟩
theorem WQ.retM (hf:fn.results = rs.toArray) (hD:Ob t D (.deferred (some [])) (.nw N 0)) (hN:∀ k,k < t0.w.heap.size → ∀ i,t0.own k ≠ .nw N i) (h:∀ t', Step (fun z=>z = .nw N 0) t t' → ∃ vs,RV E t'.w rs vs ∧ Φ (resOf vs) t') :
  WQ ⟨⟨n,some D⟩,t0,T⟩ (bodyPostM Fence.wide 0 P fn (Post T t0 Φ)) .ret E t:=fun hs _ ha=>leavesM hf hD hN h hs ha
end
/-! ### 6. Regions that draw their order, where a function has a mark or in a round -/
def noPanic (Q:Exit → Act → World → Prop):Exit → Act → World → Prop
 | .panic _,_,_=>False
 | .outgrown,_,_=>False
 | e,a,w=>Q e a w
theorem noPanic_ok (Q:Exit → Act → World → Prop):PanicOk (noPanic Q):=fun _ _ _ _ _ h=>h
theorem noPanic_out (Q:Exit → Act → World → Prop):¬ LetsOut (noPanic Q):=fun ⟨_,_,h⟩=>h
theorem noPanic_imp {Q:Exit → Act → World → Prop}:∀ e a w,noPanic Q e a w → Q e a w:=fun e a w h=>by
 cases e <;> first | exact h | exact h.elim
theorem any_lift {r:Option Nat} {ops:Array Oper} {Q:Exit → Act → World → Prop} (hlo:¬ LetsOut Q) (hnd:∀ (i:Nat) (o:Oper),ops[i]? = some o → ∀ c:Call,o.op ≠ .defer c) :
  ∀ (fuel:Nat) (ls:Array Bool) (a:Act) (w:World),wpAny P .any ops Q fuel ls a w → wpAnyIn (FW r) 0 P .any ops Q fuel ls a w
 | 0,_,_,_,h=>h
 | fuel + 1,ls,a,w,h=>⟨h.1,fun i hi=>by
   have h1:=h.2 i hi
   unfold wpOp at h1
   unfold wpOpIn
   cases ho:ops[i]? with
   | none=>
    rw [ho] at h1
    exact any_lift hlo hnd fuel _ _ _ h1
   | some o=>
    rw [ho] at h1
    simp only at h1 ⊢
    split
    ·rename_i hw
     rw [if_pos hw] at h1
     rcases h1 with h1 | h1
     ·exact Oper.wpIn_mono (fun a w=>any_lift hlo hnd fuel _ a w) (op_lift (hnd i o ho) h1)
     ·exact (hlo h1.2).elim
    ·rename_i hw
     rw [if_neg hw] at h1
     exact ⟨fun _ _=>trivial,any_lift hlo hnd fuel _ _ _ h1⟩⟩
def isDefer:Op → Bool
 | .defer _=>true
 | _=>false
section
variable {c:Ctx} {q:Option Nat} {Q:Exit → Act → World → Prop} {E:Env} {t:TW} {id:Nat} {z:Code} {l:List Oper} {ops:Array Oper} {S:World → Prop} {fuel:Nat} {ls:List Bool}
theorem WC.drN (S:World → Prop) (hS:S t.drew.w) (h:DL c l.toArray (noPanic Q) S l.length (List.replicate l.length false) E t.drew):WC c (.region id l.toArray true) Q E t:=fun hs a ha=>wp_mono (WC.dr S (noPanic_ok Q) hS h hs a ha) noPanic_imp
theorem WC.drsN (S:World → Prop) (hS:S t.drew.w) (h:DL c l.toArray (noPanic (Exit.then (z.wp P Q) Q)) S l.length (List.replicate l.length false) E t.drew):WC c (.seq (.region id l.toArray true) z) Q E t:=.seq (.drN S hS h)
theorem DL.doneN (hr:Region.ready .any ops ls.toArray = []) (h:WQ c Q .normal E t):DL c ops (noPanic Q) S fuel ls E t:=.done hr h
theorem WCI.drN (S:World → Prop) (hS:S t.drew.w) (h:DL c l.toArray (noPanic Q) S l.length (List.replicate l.length false) E t.drew) (hnd:(l.all fun o=>!isDefer o.op) = true:=by rfl):WCI c q (.region id l.toArray true) Q E t:=fun hs a ha=>by
 refine wpIn_mono (Q:=noPanic Q) (wpIn_region_any mixed (any_lift (noPanic_out Q) (fun i o ho d e=>?_) _ _ _ _ (wpAny_of_held (S:=S) _ _ _ _ ?_))) noPanic_imp
 ·have h1:o ∈ l:=by
   rw [List.getElem?_toArray] at ho
   exact List.mem_of_getElem? ho
  have:=List.all_eq_true.1 hnd o h1
  rw [e] at this
  cases this
 ·have:=h (noPanic_ok Q) (hs.trans t.drew_step.no) hS a ha
  simpa [TW.drew] using this
theorem WCI.drsN (S:World → Prop) (hS:S t.drew.w) (h:DL c l.toArray (noPanic (Exit.then (z.wpIn (FW q) 0 P Q) Q)) S l.length (List.replicate l.length false) E t.drew) (hnd:(l.all fun o=>!isDefer o.op) = true:=by rfl):WCI c q (.seq (.region id l.toArray true) z) Q E t:=.seq (.drN S hS h hnd)
end
end Go.Proofs.YthilcgjhhhmgoaaGreat.X
